/- Systems with and without solutions, as plain law. No conditions beyond those in the theorems. -/
import Derived.Test.YtglembbmmnakaaaDoorT3
import Derived.Test.YtglembbmmnakaaaDoorF19
set_option linter.all false
set_option linter.deprecated false
set_option linter.unnecessarySimpa false
set_option linter.unusedVariables false
set_option linter.unusedSimpArgs false
set_option linter.defProp false
namespace Go.Proofs.Eng
open Go Go.Proofs
theorem refuted_iff {rows : List (List Int)} {n : Nat} (hr : rightR rows = 0) (hhd : (rows.headD []).length = n + 1) (he : (refuteR rows).2.2 = 0) : (refuteR rows).2.1 = true ↔ ¬ ∃ v : Nat → Int, 0 < v n ∧ SatL (n + 1) rows v := by
  have hR := right_of hr
  rw [hhd] at hR
  unfold refuteR at he ⊢
  rw [if_neg (by simp [hr])] at he ⊢
  split at he
  · rename_i e hE
    have := elimR_err hE
    simp only at he
    omega
  · rename_i F hF
    simp only [true_iff]
    rintro ⟨v, h1, h2⟩
    exact elimA_sound hR hhd hF h1 h2
  · rename_i S hS
    simp only [Bool.false_eq_true, false_iff, Classical.not_not]
    exact elimA_complete hR hhd hS
theorem refuteR_right {rows : List (List Int)} (he : (refuteR rows).2.2 = 0) : rightR rows = 0 := by
  unfold refuteR at he
  by_cases hr : rightR rows = 0
  · exact hr
  · rw [if_pos hr] at he
    exact he
/-- Two systems with the same solutions are both refuted or none is. -/
theorem refute_same {rows more : List (List Int)} {n : Nat} (hr : rightR rows = 0) (hhd : (rows.headD []).length = n + 1) (hhd2 : (more.headD []).length = n + 1) (hs : ∀ v, SatL (n + 1) rows v ↔ SatL (n + 1) more v) (he : (refuteR rows).2.2 = 0) (hf : (refuteR more).2.2 = 0) : (refuteR rows).2.1 = (refuteR more).2.1 := by
  rw [Bool.eq_iff_iff, refuted_iff hr hhd he, refuted_iff (refuteR_right hf) hhd2 hf]
  simp only [hs]
def dblL (r : List Int) : List Int := r.map fun x => 2 * x
def sumL (r s : List Int) : List Int := List.zipWith (fun x y => x + y) r s
theorem dblL_sg {r : List Int} {v : Nat → Int} {n : Nat} : sg (gt0 (dblL r)) v n = 2 * sg (gt0 r) v n := by
  have := sg_lin (h := 1) (p := 2) (q := 0) (a := gt0 r) (b := gt0 r) (c := gt0 (dblL r)) (v := v) n fun k _ => by
    rw [Int.zero_mul, Int.one_mul]
    unfold gt0 dblL
    rw [List.getD_eq_getElem?_getD, List.getD_eq_getElem?_getD, List.getElem?_map]
    cases r[k]? <;> simp
  omega
theorem sumL_sg {r s : List Int} {v : Nat → Int} {n : Nat} (hl : r.length = s.length) : sg (gt0 (sumL r s)) v n = sg (gt0 r) v n + sg (gt0 s) v n := by
  have := sg_lin (h := 1) (p := 1) (q := 1) (a := gt0 r) (b := gt0 s) (c := gt0 (sumL r s)) (v := v) n fun k _ => by
    have := addM_at (p := 1) (q := 1) hl k
    simpa [addM, sumL] using this
  omega
theorem sat_dbl {rows : List (List Int)} {a w : Nat} {r : List Int} {v : Nat → Int} (ha : rows[a]? = some r) : SatL w rows v ↔ SatL w (rows.set a (dblL r)) v := by
  constructor
  · intro h s hs
    rcases List.mem_or_eq_of_mem_set hs with hs | rfl
    · exact h s hs
    · have := h r (List.mem_of_getElem? ha)
      rw [dblL_sg]; omega
  · intro h s hs
    obtain ⟨i, hi⟩ := List.mem_iff_getElem?.1 hs
    by_cases e : a = i
    · subst e
      rw [ha] at hi; cases hi
      have := h (dblL r) (List.mem_of_getElem? (i := a) (by rw [List.getElem?_set_self (List.getElem?_eq_some_iff.1 ha).1]))
      rw [dblL_sg] at this; omega
    · exact h s (List.mem_of_getElem? (i := i) (by rw [List.getElem?_set_ne e]; exact hi))
theorem sat_sum {rows : List (List Int)} {a b w : Nat} {r s : List Int} {v : Nat → Int} (ha : rows[a]? = some r) (hb : rows[b]? = some s) (hl : r.length = s.length) : SatL w rows v ↔ SatL w (rows ++ [sumL r s]) v := by
  constructor
  · intro h x hx
    rcases List.mem_append.1 hx with hx | hx
    · exact h x hx
    · rw [List.mem_singleton.1 hx, sumL_sg hl]
      have h1 := h r (List.mem_of_getElem? ha)
      have h2 := h s (List.mem_of_getElem? hb)
      omega
  · exact fun h x hx => h x (List.mem_append_left _ hx)
theorem head_set {rows : List (List Int)} {a : Nat} {r r' : List Int} (ha : rows[a]? = some r) (hl : r'.length = r.length) : ((rows.set a r').headD []).length = (rows.headD []).length := by
  cases rows with
  | nil => rfl
  | cons x rows =>
    cases a with
    | zero => simp at ha; subst ha; simpa using hl
    | succ a => simp
theorem head_app {rows : List (List Int)} {x : List Int} (h : 0 < rows.length) : ((rows ++ [x]).headD []).length = (rows.headD []).length := by
  cases rows with
  | nil => simp at h
  | cons y rows => simp
/-- Doubling a row. -/
theorem scale_dbl {rows : List (List Int)} {a : Nat} {r : List Int} (hr : rightR rows = 0) (ha : rows[a]? = some r) (he : (refuteR rows).2.2 = 0) (hf : (refuteR (rows.set a (dblL r))).2.2 = 0) : (refuteR rows).2.1 = (refuteR (rows.set a (dblL r))).2.1 := by
  have h0 := (List.getElem?_eq_some_iff.1 ha).1
  have hR := right_of hr
  obtain ⟨n, hn⟩ : ∃ n, (rows.headD []).length = n + 1 := ⟨(rows.headD []).length - 1, by have := (hR.pos (by omega)).1; omega⟩
  exact refute_same hr hn (by rw [head_set ha (by simp [dblL]), hn]) (fun v => sat_dbl ha) he hf
/-- Adding the sum of two rows. -/
theorem scale_sum {rows : List (List Int)} {a b : Nat} {r s : List Int} (hr : rightR rows = 0) (ha : rows[a]? = some r) (hb : rows[b]? = some s) (he : (refuteR rows).2.2 = 0) (hf : (refuteR (rows ++ [sumL r s])).2.2 = 0) : (refuteR rows).2.1 = (refuteR (rows ++ [sumL r s])).2.1 := by
  have h0 := (List.getElem?_eq_some_iff.1 ha).1
  have hR := right_of hr
  obtain ⟨n, hn⟩ : ∃ n, (rows.headD []).length = n + 1 := ⟨(rows.headD []).length - 1, by have := (hR.pos (by omega)).1; omega⟩
  exact refute_same hr hn (by rw [head_app (by omega), hn]) (fun v => sat_sum ha hb (by rw [hR.len _ (List.mem_of_getElem? ha), hR.len _ (List.mem_of_getElem? hb)])) he hf
/-! ## Points that satisfy rows, tested -/
/-! ## One variable -/
end Go.Proofs.Eng
