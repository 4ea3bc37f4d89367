/- Arguments of the laws; what is known of the start. No conditions beyond those in the theorems. -/
import Derived.Test.YtodnkbnbjhcikaaDoorJ4
import Derived.Test.YtodnkbnbjhcikaaDoorG4
set_option linter.all false
set_option linter.deprecated false
set_option linter.unnecessarySimpa false
set_option linter.unusedVariables false
set_option linter.unusedSimpArgs false
set_option linter.defProp false
namespace Go.Proofs.Eng
open Go Go.Proofs
set_option maxRecDepth 100000
theorem oft_int {n : Nat} {l : List AV} (h : OfT Tryd.prog n 3 l) : ∃ i, l = [.int i] ∧ in64 i := by
  cases n with
  | zero => exact h.elim
  | succ n =>
    simp only [OfT, Tryd.underlying3] at h
    obtain ⟨i, rfl, hw⟩ := h
    refine ⟨i, rfl, ?_⟩
    unfold in64
    simp [Lit.wf, IntKind.min, IntKind.max, IntKind.signed, IntKind.bits] at hw
    omega
theorem oft_slice {α : Type} {R : α → AV → Prop} {n : Nat} {t e : TypeId} {l : List AV} (hu : Tryd.prog.underlying t = some (.slice e)) (hc : 0 < Tryd.prog.cellsOf e) (hR : ∀ n l, OfT Tryd.prog n e l → ∃ x, R x (mkE (isAgg Tryd.prog e) l)) (h : OfT Tryd.prog n t l) : ∃ (xs : List α) (al : List AV) (tl : Tl), l = [.sl al tl] ∧ LIs R xs al ∧ tl.fast = true ∧ al.length ≤ lenB := by
  cases n with
  | zero => exact h.elim
  | succ n =>
    simp only [OfT, hu, if_pos hc] at h
    obtain ⟨xs, tl, rfl, h1, h2, h3⟩ := h
    have key : ∀ xs : List (List AV), (∀ x ∈ xs, OfT Tryd.prog n e x) → ∃ ys : List α, LIs R ys (xs.map (mkE (isAgg Tryd.prog e))) := by
      intro xs
      induction xs with
      | nil => intro _; exact ⟨[], trivial⟩
      | cons x xs ih =>
        intro h
        obtain ⟨y, hy⟩ := hR n x (h x (by simp))
        obtain ⟨ys, hys⟩ := ih fun z hz => h z (by simp [hz])
        exact ⟨y :: ys, hy, hys⟩
    obtain ⟨ys, hys⟩ := key xs h3
    refine ⟨ys, _, tl, rfl, hys, ?_, by rw [List.length_map]; unfold lenB; simpa [maxLen] using h2⟩
    rcases h1 with rfl | ⟨rfl, _⟩ <;> rfl
theorem ints_of : ∀ {l : List Int} {al : List AV}, LIs (fun (i : Int) a => a = .int i ∧ in64 i) l al → al = ints l ∧ ∀ n ∈ l, in64 n
  | [], [], _ => ⟨rfl, by simp⟩
  | [], _ :: _, h => by simp [LIs] at h
  | _ :: _, [], h => by simp [LIs] at h
  | x :: l, a :: al, h => by
    simp only [LIs] at h
    obtain ⟨h1, h2⟩ := ints_of h.2
    refine ⟨by rw [h.1.1, h1]; rfl, fun n hn => ?_⟩
    rcases List.mem_cons.1 hn with rfl | hn
    · exact h.1.2
    · exact h2 n hn
theorem oft_row {n : Nat} {l : List AV} (h : OfT Tryd.prog n 52 l) : ∃ r a, l = [a] ∧ RowIs r a := by
  obtain ⟨xs, al, tl, rfl, h1, h2, h3⟩ := oft_slice (R := fun (i : Int) a => a = .int i ∧ in64 i) Tryd.underlying52 (by rw [show Tryd.prog.cellsOf 3 = 1 from by kernel_rfl]; decide) (fun n l h => by
    obtain ⟨i, rfl, hi⟩ := oft_int h
    exact ⟨i, by rw [show isAgg Tryd.prog 3 = false from by kernel_rfl]; exact ⟨rfl, hi⟩⟩) h
  obtain ⟨rfl, h4⟩ := ints_of h1
  exact ⟨xs, _, rfl, RowIs.mk h2 (by rw [ints_len] at h3; exact h3) h4⟩
theorem oft_rows {n : Nat} {l : List AV} (h : OfT Tryd.prog n 31 l) : ∃ rows al tl, l = [.sl al tl] ∧ LIs RowIs rows al ∧ tl.fast = true ∧ al.length ≤ lenB :=
  oft_slice Tryd.underlying31 (by rw [show Tryd.prog.cellsOf 52 = 1 from by kernel_rfl]; decide) (fun n l h => by
    obtain ⟨r, a, rfl, hr⟩ := oft_row h
    exact ⟨r, by rw [show isAgg Tryd.prog 52 = false from by kernel_rfl]; exact hr⟩) h
theorem three {α : Type} {l : List α} (h : l.length = 3) : ∃ a b c, l = [a, b, c] := by
  match l, h with
  | [a, b, c], _ => exact ⟨a, b, c, rfl⟩
theorem oft_cl {n : Nat} {l : List AV} (h : OfT Tryd.prog n 33 l) : ∃ c : Cl, ClIs c (.agg l) := by
  cases n with
  | zero => exact h.elim
  | succ n =>
    simp only [OfT, Tryd.underlying33] at h
    rw [if_pos (by kernel_rfl)] at h
    obtain ⟨xs, rfl, hl, hx⟩ := h
    obtain ⟨a, b, c, rfl⟩ := three hl
    obtain ⟨f, rfl, hf⟩ := oft_int (hx 0 _ a rfl rfl)
    obtain ⟨t, rfl, ht⟩ := oft_int (hx 1 _ b rfl rfl)
    obtain ⟨rows, al, tl, rfl, h1, h2, h3⟩ := oft_rows (hx 2 _ c rfl rfl)
    exact ⟨⟨f, t, rows⟩, al, tl, rfl, h1, h2, h3, hf, ht⟩
theorem oft_cls {n : Nat} {l : List AV} (h : OfT Tryd.prog n 22 l) : ∃ (cs : List Cl) (al : List AV) (tl : Tl), l = [.sl al tl] ∧ LIs ClIs cs al ∧ tl.fast = true ∧ al.length ≤ lenB :=
  oft_slice Tryd.underlying22 (by rw [show Tryd.prog.cellsOf 33 = 3 from by kernel_rfl]; decide) (fun n l h => by
    obtain ⟨c, hc⟩ := oft_cl h
    exact ⟨c, by rw [show isAgg Tryd.prog 33 = true from by kernel_rfl]; exact hc⟩) h
theorem oft_u8 {n : Nat} {l : List AV} {t : TypeId} (ht : Tryd.prog.underlying t = some (.int .u8)) (h : OfT Tryd.prog n t l) : ∃ i : Nat, l = [.v (.int .u8 (i : Int))] ∧ i < 256 := by
  cases n with
  | zero => exact h.elim
  | succ n =>
    simp only [OfT, ht] at h
    obtain ⟨i, rfl, hw⟩ := h
    simp [Lit.wf, IntKind.min, IntKind.max, IntKind.signed, IntKind.bits] at hw
    exact ⟨i.toNat, by rw [Int.toNat_of_nonneg (by omega)], by omega⟩
theorem u8_of : ∀ {l : List Nat} {al : List AV}, LIs (fun (i : Nat) a => a = .v (.int .u8 (i : Int)) ∧ i < 256) l al → (al = l.map fun (n : Nat) => AV.v (Value.int .u8 (n : Int))) ∧ ∀ n ∈ l, n < 256
  | [], [], _ => ⟨rfl, by simp⟩
  | [], _ :: _, h => by simp [LIs] at h
  | _ :: _, [], h => by simp [LIs] at h
  | x :: l, a :: al, h => by
    simp only [LIs] at h
    obtain ⟨h1, h2⟩ := u8_of h.2
    refine ⟨by rw [h1, h.1.1]; rfl, fun n hn => ?_⟩
    rcases List.mem_cons.1 hn with rfl | hn
    · exact h.1.2
    · exact h2 n hn
theorem purify_v_inv {n : Nat} {s : ASt} {x : AV} {y : Value} (h : purify n s x = some (.v y)) : x = .v y := by
  cases n with
  | zero => rw [purify] at h; cases h
  | succ n =>
    unfold purify at h
    split at h
    · cases h; rfl
    · split at h
      all_goals first
        | (cases h; done)
        | (rw [Option.map_eq_some_iff] at h; obtain ⟨_, _, h⟩ := h; cases h; done)
        | skip
      split at h
      · split at h
        · rw [Option.map_eq_some_iff] at h; obtain ⟨_, _, h⟩ := h; cases h
        · cases h
      · cases h
theorem law_true {f : FuncId} {ls : List AV} (h : Out md pfs f ls (· = .bool true) fun _ => False) : ∃ s', run md pfs f ls ⟨[], []⟩ = some (.ret (.v (.bool true)), s') := by
  obtain ⟨out, s, out', h1, h2, h3⟩ := h
  cases out' with
  | pan v => exact h3.elim
  | ret v =>
    subst h3
    cases out with
    | pan w => simp [Outc.purify] at h2
    | ret w =>
      simp only [Outc.purify, Option.map_eq_some_iff] at h2
      obtain ⟨y, h2, h3⟩ := h2
      cases h3
      exact ⟨s, by rw [h1, purify_v_inv h2]⟩
end Go.Proofs.Eng
