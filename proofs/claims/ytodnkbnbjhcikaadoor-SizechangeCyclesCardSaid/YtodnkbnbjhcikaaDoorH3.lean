/- Correct calls: the reference's form, the program's formed. No conditions beyond those in the theorems. -/
import Derived.Test.YtodnkbnbjhcikaaDoorH2
set_option linter.all false
set_option linter.deprecated false
set_option linter.unnecessarySimpa false
set_option linter.unusedVariables false
set_option linter.unusedSimpArgs false
set_option linter.defProp false
namespace Go.Proofs.Eng
open Go Go.Proofs
set_option maxRecDepth 100000
set_option maxHeartbeats 16000000
theorem formB_iff {c : Cl} : formB c = true ↔ 0 ≤ c.f ∧ 0 ≤ c.t ∧ 1 ≤ c.m.length ∧ c.m.length ≤ 16 ∧ 1 ≤ colN c ∧ colN c ≤ 16 ∧ ∀ r ∈ c.m, rowB (colN c) r = true := by
  unfold formB
  simp only [Bool.and_eq_true, decide_eq_true_eq, List.all_eq_true, and_assoc]
theorem formB_no {c : Cl} (h : ¬ (0 ≤ c.f ∧ 0 ≤ c.t ∧ 1 ≤ c.m.length ∧ c.m.length ≤ 16 ∧ 1 ≤ colN c ∧ colN c ≤ 16 ∧ ∀ r ∈ c.m, rowB (colN c) r = true)) : formB c = false := by
  cases e : formB c with
  | false => rfl
  | true => exact absurd (formB_iff.1 e) h
theorem dneg {x : Int} (h : x < 0) : decide (x < 0) = true := decide_eq_true h
theorem dneg' {x : Int} (h : 0 ≤ x) : decide (x < 0) = false := decide_eq_false (by omega)
theorem dg2 {x : Int} (h : 2 < x) : decide (x > 2) = true := decide_eq_true h
theorem dg2' {x : Int} (h : x ≤ 2) : decide (x > 2) = false := decide_eq_false (by omega)
theorem dl1 {n : Nat} (h : n < 1) : decide ((n : Int) < 1) = true := decide_eq_true (by omega)
theorem dl1' {n : Nat} (h : 1 ≤ n) : decide ((n : Int) < 1) = false := decide_eq_false (by omega)
theorem dg16 {n : Nat} (h : 16 < n) : decide ((n : Int) > 16) = true := decide_eq_true (by omega)
theorem dg16' {n : Nat} (h : n ≤ 16) : decide ((n : Int) > 16) = false := decide_eq_false (by omega)
theorem head_is {c : Cl} {al : List AV} (h : LIs RowIs c.m al) (hl : 1 ≤ al.length) : ∃ x t, al[0]? = some (.sl (ints x) t) ∧ c.m[0]? = some x ∧ colN c = x.length ∧ x.length ≤ lenB := by
  obtain ⟨x, tx, g1, g2, g3, g4, g5, g6⟩ := row_get h (show 0 < al.length by omega)
  refine ⟨x, tx, g3, g1, ?_, g5⟩
  unfold colN
  cases hm : c.m with
  | nil => rw [hm] at g1; simp at g1
  | cons y l => rw [hm] at g1; simp at g1; subst g1; rfl
end Go.Proofs.Eng
