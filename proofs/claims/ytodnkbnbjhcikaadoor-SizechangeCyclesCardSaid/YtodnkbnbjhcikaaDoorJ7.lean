/- Witness holds of all calls. No conditions beyond those in the theorems. -/
import Derived.Test.YtodnkbnbjhcikaaDoorJ6
set_option linter.all false
set_option linter.deprecated false
set_option linter.unnecessarySimpa false
set_option linter.unusedVariables false
set_option linter.unusedSimpArgs false
set_option linter.defProp false
namespace Go.Proofs.Eng
open Go Go.Proofs
set_option maxRecDepth 100000
set_option maxHeartbeats 16000000
theorem termL_eq {l : List Cl} : ((termL l).2.2 = (closL l).2) ∧ ((closL l).2 ≠ 0 → (termL l).1 = false) ∧ ((closL l).2 = 0 → termL l = match (closL l).1.find? badB with | some c => (false, c, 0) | none => (true, ⟨0, 0, []⟩, 0)) := by
  unfold termL
  refine ⟨?_, fun h => by rw [if_neg h], fun h => by rw [if_pos h]; rfl⟩
  split
  · rename_i h
    rw [h]
    cases (closL l).1.find? badB <;> rfl
  · rfl
end Go.Proofs.Eng
