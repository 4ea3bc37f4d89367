/- Rows that are composed: plain lists. No conditions beyond those in the theorems. -/
import Derived.Test.YtodnkbnbjhcikaaDoorFA
set_option linter.all false
set_option linter.deprecated false
set_option linter.unnecessarySimpa false
set_option linter.unusedVariables false
set_option linter.unusedSimpArgs false
set_option linter.defProp false
namespace Go.Proofs.Eng
open Go Go.Proofs
set_option maxRecDepth 100000
def mixL (p : Nat) (f g : Nat → Int) (k : Nat) : List Int := (List.range p).map fun i => if i < k then f i else g i
theorem mixL_len {p : Nat} {f g : Nat → Int} {k : Nat} : (mixL p f g k).length = p := by simp [mixL]
theorem mixL_get {p : Nat} {f g : Nat → Int} {k i : Nat} (h : i < p) : (mixL p f g k)[i]? = some (if i < k then f i else g i) := by simp [mixL, h]
theorem mixL_zero {p : Nat} {f g : Nat → Int} : mixL p f g 0 = (List.range p).map g := by simp [mixL]
theorem mixL_all {p : Nat} {f g : Nat → Int} {k : Nat} (h : p ≤ k) : mixL p f g k = (List.range p).map f := by
  unfold mixL
  refine List.map_congr_left fun i hi => ?_
  rw [if_pos (by have := List.mem_range.1 hi; omega)]
theorem mixL_set {p : Nat} {f g : Nat → Int} {k : Nat} : (mixL p f g k).set k (f k) = mixL p f g (k + 1) := by
  refine List.ext_getElem? fun i => ?_
  rw [List.getElem?_set]
  split
  · rename_i h
    subst h
    rw [mixL_len]
    split
    · rename_i hk; rw [mixL_get hk, if_pos (by omega)]
    · rename_i hk; rw [List.getElem?_eq_none (by rw [mixL_len]; omega)]
  · rename_i h
    rcases Nat.lt_or_ge i p with hi | hi
    · rw [mixL_get hi, mixL_get hi]
      by_cases h1 : i < k
      · rw [if_pos h1, if_pos (by omega)]
      · rw [if_neg h1, if_neg (by omega)]
    · rw [List.getElem?_eq_none (by rw [mixL_len]; exact hi), List.getElem?_eq_none (by rw [mixL_len]; exact hi)]
theorem mixL_skip {p : Nat} {f g : Nat → Int} {k : Nat} (h : f k = g k) : mixL p f g (k + 1) = mixL p f g k := by
  unfold mixL
  refine List.map_congr_left fun i _ => ?_
  by_cases h1 : i < k
  · rw [if_pos h1, if_pos (by omega)]
  · by_cases h2 : i = k
    · subst h2; rw [if_pos (by omega), if_neg (by omega), h]
    · rw [if_neg h1, if_neg (by omega)]
def pE (row : List Int) (am : List (List Int)) (J k : Nat) : Int := maxL ((List.range J).map fun j => mulE (row.getD j 0) (get2 am j k))
theorem pE_nn (row : List Int) (am : List (List Int)) (J k : Nat) : 0 ≤ pE row am J k := maxL_nn _
theorem pE_succ {row : List Int} {am : List (List Int)} {J k : Nat} : pE row am (J + 1) k = mx (pE row am J k) (mulE (row.getD J 0) (get2 am J k)) := by
  unfold pE maxL
  rw [List.range_succ, List.map_append, List.foldl_append]; rfl
theorem pE_x0 {row : List Int} {am : List (List Int)} {J k : Nat} (h : row.getD J 0 = 0) : pE row am (J + 1) k = pE row am J k := by
  have := pE_nn row am J k
  rw [pE_succ, h, mulE, if_neg (by omega), mx, if_neg (by omega)]
theorem pE_y0 {row : List Int} {am : List (List Int)} {J k : Nat} (h : get2 am J k = 0) : pE row am (J + 1) k = pE row am J k := by
  have := pE_nn row am J k
  rw [pE_succ, h, mulE, if_neg (by omega), mx, if_neg (by omega)]
theorem pE_xy {row : List Int} {am : List (List Int)} {J k : Nat} (h : 0 < row.getD J 0) (h2 : 0 < get2 am J k) : pE row am (J + 1) k = if mx (row.getD J 0) (get2 am J k) > pE row am J k then mx (row.getD J 0) (get2 am J k) else pE row am J k := by
  rw [pE_succ, mulE, if_pos ⟨h, h2⟩]; rfl
theorem comp_rows (a b : Cl) : (comp a b).m = b.m.map fun row => (List.range (a.m.headD []).length).map (pE row a.m a.m.length) := rfl
theorem ints_set {l : List Int} {k : Nat} {n : Int} : (ints l).set k (.int n) = ints (l.set k n) := by simp [ints, List.map_set]
theorem set_td {α : Type} {l : List α} {k : Nat} {x : α} (h : k < l.length) : List.take k l ++ x :: List.drop (k + 1) l = l.set k x := by
  rw [List.set_eq_take_append_cons_drop, if_pos h]
def bsA (n p i : Nat) : List AV := (List.range i).map fun j => .bs (n + j) 0 p 1 false
theorem bsA_succ {n p i : Nat} : bsA n p (i + 1) = bsA n p i ++ [.bs (n + i) 0 p 1 false] := by simp [bsA, List.range_succ]
theorem bsA_len {n p i : Nat} : (bsA n p i).length = i := by simp [bsA]
theorem bsA_all {n p i : Nat} : ((bsA n p i).all fun x => x.cells.length == 1) = true := by
  rw [List.all_eq_true]
  intro x hx
  obtain ⟨j, _, rfl⟩ := List.mem_map.1 hx
  rfl
def rowsH (l : List (List Int)) : List AObj := l.map fun r => .cells false (ints r)
theorem zeros_ints (p : Nat) : List.replicate p (AV.int 0) = ints ((List.range p).map fun _ => 0) := by
  refine List.ext_getElem? fun i => ?_
  rcases Nat.lt_or_ge i p with h | h
  · simp [ints, h]
  · rw [List.getElem?_eq_none (by simpa using h), List.getElem?_eq_none (by simpa [ints] using h)]
theorem chunk_ints : ∀ (l : List Int) (Z : List AV), chunk 1 false l.length (ints l ++ Z) = ints l
  | [], _ => rfl
  | n :: l, Z => by
    have := chunk_ints l Z
    simp only [ints, List.map_cons, List.cons_append, List.length_cons, chunk] at this ⊢
    simp [this]
theorem ints_one (l : List Int) : ((ints l).all AV.one) = true := by
  induction l with
  | nil => rfl
  | cons x l ih => simp only [ints] at ih ⊢; simp only [List.map_cons, List.all_cons, ih]; rfl
theorem ints_drop (n : Nat) (a : List Int) : (ints a).drop n = ints (a.drop n) := by simp [ints]
theorem ints_take (n : Nat) (a : List Int) : (ints a).take n = ints (a.take n) := by simp [ints]
theorem elems_ints {s : ASt} {i off len : Nat} {fz : Bool} {L : List Int} (hs : s.H[i]? = some (.cells fz (ints L))) (h : off + len ≤ L.length) : elemsA s (.bs i off len 1 false) = some (ints ((L.drop off).take len)) := by
  unfold elemsA
  simp only [hs, ints_len, Nat.mul_one, ints_drop, ints_take, ints_one, Bool.false_or, beq_self_eq_true, Bool.true_and, h, and_self, if_true, Option.some.injEq]
  have e : L.drop off = (L.drop off).take len ++ (L.drop off).drop len := (List.take_append_drop _ _).symm
  have hl : ((L.drop off).take len).length = len := by rw [List.length_take, List.length_drop]; omega
  have := chunk_ints ((L.drop off).take len) (ints ((L.drop off).drop len))
  rw [← ints_app, ← e, hl] at this
  exact this
theorem at_ints {n : Nat} {s : ASt} : ∀ l : List Int, mapO (atCells (purify (n + 1) s)) (ints l) = some (ints l)
  | [] => rfl
  | x :: l => by
    have := at_ints (n := n) (s := s) l
    simp only [ints, List.map_cons, mapO] at this ⊢
    have e : atCells (purify (n + 1) s) (.int x) = some (.int x) := by simp [atCells, purify, pureAV]
    rw [e, this]
theorem pz_bsints {n : Nat} {s : ASt} {i off len : Nat} {fz : Bool} {L : List Int} (hs : s.H[i]? = some (.cells fz (ints L))) (h : off + len ≤ L.length) : purify (n + 2) s (.bs i off len 1 false) = some (.sl (ints ((L.drop off).take len)) .al) := by
  rw [pz_bs, elems_ints hs h]
  simp [at_ints]
theorem mapO_snoc {α β : Type} {f : α → Option β} {x : α} {y : β} (hx : f x = some y) : ∀ {l : List α} {m : List β}, mapO f l = some m → mapO f (l ++ [x]) = some (m ++ [y])
  | [], m, h => by simp only [mapO, Option.some.injEq] at h; subst h; simp [mapO, hx]
  | a :: l, m, h => by
    simp only [mapO] at h
    split at h
    · rename_i b hb
      split at h
      · rename_i bs hbs
        simp only [Option.some.injEq] at h; subst h
        rw [List.cons_append, mapO, hb]
        simp only [mapO_snoc hx hbs, List.cons_append]
      · cases h
    · cases h
theorem bsA_pz {s : ASt} {n p k : Nat} {m : List (List Int)} (h : ∀ j r, m[j]? = some r → s.H[n + j]? = some (.cells false (ints r)) ∧ r.length = p ∧ p ≤ lenB ∧ ∀ v ∈ r, in64 v) : ∀ i, i ≤ m.length → ∃ al, mapO (atCells (purify (k + 2) s)) (bsA n p i) = some al ∧ LIs RowIs (m.take i) al
  | 0, _ => ⟨[], rfl, trivial⟩
  | i + 1, hi => by
    obtain ⟨al, h1, h2⟩ := bsA_pz (k := k) h i (by omega)
    have hg : m[i]? = some m[i] := List.getElem?_eq_getElem (by omega)
    obtain ⟨k1, k2, k3, k4⟩ := h i _ hg
    have hx : atCells (purify (k + 2) s) (.bs (n + i) 0 p 1 false) = some (.sl (ints m[i]) .al) := by
      show purify (k + 2) s (.bs (n + i) 0 p 1 false) = _
      rw [pz_bsints k1 (by omega), List.drop_zero, ← k2, List.take_length]
    refine ⟨al ++ [.sl (ints m[i]) .al], by rw [bsA_succ]; exact mapO_snoc hx h1, ?_⟩
    rw [List.take_add_one, hg]
    exact h2.append (.one ⟨_, rfl, rfl, by omega, k4⟩)
theorem app_fast {T : List Nat} {H : List AObj} {l : List AV} {t : Tl} {n : Nat} (h : App T l t) (hn : 1000 ≤ n) : (t.stripR n ⟨H, T⟩).fast = true := by
  rcases h with ⟨_, rfl⟩ | ⟨_, id, ver, rfl, hT⟩
  · rfl
  · simp only [Tl.stripR]
    rw [if_pos ⟨hn, hT⟩]; rfl
end Go.Proofs.Eng
