/- Associates holds of all calls. No conditions beyond those in the theorems. -/
import Derived.Test.YtodnkbnbjhcikaaDoorJ3
import Derived.Test.YtodnkbnbjhcikaaDoorQA
set_option linter.all false
set_option linter.deprecated false
set_option linter.unnecessarySimpa false
set_option linter.unusedVariables false
set_option linter.unusedSimpArgs false
set_option linter.defProp false
namespace Go.Proofs.Eng
open Go Go.Proofs
set_option maxRecDepth 100000
set_option maxHeartbeats 16000000
theorem zero_mat {u : AV} (h : ClIs ⟨0, 0, []⟩ u) : ∃ ut, u = .agg [.int 0, .int 0, .sl [] ut] := by
  obtain ⟨ul, ut, rfl, h1, _⟩ := h.of
  cases ul with
  | nil => exact ⟨ut, rfl⟩
  | cons a l => simp [LIs] at h1
end Go.Proofs.Eng
