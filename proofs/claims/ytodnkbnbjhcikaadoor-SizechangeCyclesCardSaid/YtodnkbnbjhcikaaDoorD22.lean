/- Calls as they lie in memory. No conditions beyond those in the theorems. -/
import Derived.Test.YtodnkbnbjhcikaaDoorN4
import Derived.Test.YtodnkbnbjhcikaaDoorGO
import Derived.Test.YtodnkbnbjhcikaaDoorG5
set_option linter.all false
set_option linter.deprecated false
set_option linter.unnecessarySimpa false
set_option linter.unusedVariables false
set_option linter.unusedSimpArgs false
set_option linter.defProp false
namespace Go.Proofs.Eng
open Go Go.Proofs
set_option maxRecDepth 100000
def Tl.fast : Tl → Bool
  | .al => true
  | .cap _ => true
  | .nil => true
  | _ => false
theorem Tl.fast.pure {t : Tl} (h : t.fast = true) : t.pure = true := by cases t <;> first | rfl | cases h
def RowIs (r : List Int) (a : AV) : Prop := ∃ t, a = .sl (ints r) t ∧ t.fast = true ∧ r.length ≤ lenB ∧ ∀ n ∈ r, in64 n
theorem RowIs.of {r : List Int} {a : AV} (h : RowIs r a) : ∃ t, a = .sl (ints r) t ∧ t.fast = true ∧ r.length ≤ lenB ∧ ∀ n ∈ r, in64 n := h
theorem RowIs.mk {r : List Int} {t : Tl} (h2 : t.fast = true) (h3 : r.length ≤ lenB) (h4 : ∀ n ∈ r, in64 n) : RowIs r (.sl (ints r) t) := ⟨t, rfl, h2, h3, h4⟩
theorem rowPure {r : List Int} {a : AV} (h : RowIs r a) : pureAV a = true := by obtain ⟨t, rfl, h2, _⟩ := h.of; simp [pv_sl, Tl.fast.pure h2, ints_pure]
theorem rowsPure {l : List (List Int)} {al : List AV} (h : LIs RowIs l al) : pureAVs al = true := h.pure fun _ _ h => rowPure h
theorem rows_all : ∀ {l : List (List Int)} {al : List AV}, LIs RowIs l al → (al.all fun x => x.cells.length == 1) = true
  | [], [], _ => rfl
  | [], _ :: _, h => by simp [LIs] at h
  | _ :: _, [], h => by simp [LIs] at h
  | x :: l, a :: al, h => by
    simp only [LIs] at h
    obtain ⟨t, rfl, _⟩ := h.1.of
    rw [List.all_cons, rows_all h.2]; rfl
theorem row_get {l : List (List Int)} {al : List AV} {i : Nat} (h : LIs RowIs l al) (hi : i < al.length) : ∃ x t, l[i]? = some x ∧ x ∈ l ∧ al[i]? = some (.sl (ints x) t) ∧ t.fast = true ∧ x.length ≤ lenB ∧ ∀ n ∈ x, in64 n := by
  obtain ⟨x, a, h1, _, h3, h4, h5⟩ := LIs.at h hi
  obtain ⟨t, rfl, h6, h7, h8⟩ := h5.of
  exact ⟨x, t, h1, h3, h4, h6, h7, h8⟩
def ClIs (c : Cl) (a : AV) : Prop := ∃ al t, a = .agg [.int c.f, .int c.t, .sl al t] ∧ LIs RowIs c.m al ∧ t.fast = true ∧ al.length ≤ lenB ∧ in64 c.f ∧ in64 c.t
theorem ClIs.of {c : Cl} {a : AV} (h : ClIs c a) : ∃ al t, a = .agg [.int c.f, .int c.t, .sl al t] ∧ LIs RowIs c.m al ∧ t.fast = true ∧ al.length ≤ lenB ∧ in64 c.f ∧ in64 c.t := h
theorem clAgg : AggR ClIs 3 where
  cells h := by obtain ⟨al, t, rfl, _⟩ := h.of; exact ⟨_, rfl, rfl, rfl⟩
  pure h := by obtain ⟨al, t, rfl, h1, h2, _⟩ := h.of; simp [pv_agg, pvs_cons, pvs_nil, pv_v, pv_sl, Tl.fast.pure h2, rowsPure h1]
theorem ClIs.pure {c : Cl} {a : AV} (h : ClIs c a) : pureAV a = true := clAgg.pure h
theorem clsPure {l : List Cl} {al : List AV} (h : LIs ClIs l al) : pureAVs al = true := h.pure fun _ _ h => h.pure
theorem cl_get {l : List Cl} {al : List AV} {i : Nat} (h : LIs ClIs l al) (hi : i < al.length) : ∃ c a, l[i]? = some c ∧ c ∈ l ∧ al[i]? = some a ∧ ClIs c a := by
  obtain ⟨x, a, h1, _, h3, h4, h5⟩ := LIs.at h hi
  exact ⟨x, a, h1, h3, h4, h5⟩
structure Sm (c : Cl) : Prop where
  rows : c.m.length ≤ 16
  cols : ∀ r ∈ c.m, r.length ≤ 16
  pos : 0 < c.m.flatten.length
theorem Sm.tot {c : Cl} (h : Sm c) : c.m.flatten.length ≤ 256 := by
  have : ∀ (m : List (List Int)), (∀ r ∈ m, r.length ≤ 16) → m.flatten.length ≤ 16 * m.length := by
    intro m
    induction m with
    | nil => simp
    | cons r m ih =>
      intro h
      have h1 := h r (by simp)
      have h2 := ih fun r hr => h r (by simp [hr])
      simp only [List.flatten_cons, List.length_append, List.length_cons]
      omega
  have := this c.m h.cols
  have := h.rows
  omega
theorem form_sm {c : Cl} (h : formB c = true) : Sm c := by
  obtain ⟨_, _, h1, h2, h3, h4, h5⟩ := form_wm h
  refine ⟨h3, fun r hr => by rw [h1.row r hr]; exact h5, ?_⟩
  rw [flm_len h1]
  exact Nat.mul_pos h2 h4
theorem ints_all2 (l : List Int) : ((ints l).all fun x => x.cells.length == 1 && x.cells.all oneCell) = true := by
  rw [List.all_eq_true]
  intro x hx
  obtain ⟨n, _, rfl⟩ := List.mem_map.1 hx
  rfl
theorem ints_app (l m : List Int) : ints (l ++ m) = ints l ++ ints m := by simp [ints]
theorem flt_take {rows : List (List Int)} {j : Nat} {x : List Int} (h : rows[j]? = some x) : (rows.take (j + 1)).flatten = (rows.take j).flatten ++ x := by
  rw [List.take_add_one, h]; simp
theorem flt_take_le {rows : List (List Int)} (j : Nat) : (rows.take j).flatten.length ≤ rows.flatten.length := by
  conv => rhs; rw [← List.take_append_drop j rows, List.flatten_append, List.length_append]
  exact Nat.le_add_right _ _
theorem app_new {H : List AObj} {T : List Nat} {l xs : List Int} {c : Nat} (hx : 0 < xs.length) (hl : l.length + xs.length ≤ 1073741824) (hc : c < l.length + xs.length) : appA ⟨H, T⟩ 1 none (ints l) (.cap c) (ints xs) = some (.sl (ints (l ++ xs)) (.tl T.length 0), ⟨H, T ++ [0]⟩) := by
  cases xs with
  | nil => simp at hx
  | cons n xs =>
    have k1 := ints_all l
    have k2 := ints_all2 (n :: xs)
    rw [ints_app]
    simp only [ints, List.map_cons] at k1 k2 ⊢
    simp only [List.length_cons] at hl hc
    rw [appA, if_pos ⟨by simp only [List.length_map, List.length_cons]; omega, k1, k2⟩]
    simp only [List.length_map, List.length_cons]
    rw [if_pos hc]
theorem pz_ints {n : Nat} {s : ASt} {l : List Int} {t : Tl} : purify (n + 2) s (.sl (ints l) t) = some (.sl (ints l) (t.stripR (n + 1) s)) := by rw [pz_sl, mapO_at (ints_pure _)]; rfl
theorem strip_pure {n : Nat} {s : ASt} (t : Tl) : (t.stripR n s).pure = true := by
  cases t <;> simp only [Tl.stripR] <;> first | rfl | (split <;> rfl)
theorem drop_cons {α : Type} {l : List α} {i : Nat} {x : α} (h : l[i]? = some x) : l.drop i = x :: l.drop (i + 1) := by
  obtain ⟨h1, h2⟩ := List.getElem?_eq_some_iff.1 h
  rw [← h2]; exact List.drop_eq_getElem_cons h1
end Go.Proofs.Eng
