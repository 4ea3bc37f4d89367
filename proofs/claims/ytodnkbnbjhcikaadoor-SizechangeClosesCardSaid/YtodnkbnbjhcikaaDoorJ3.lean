/- What terminates. No conditions beyond those in the theorems. -/
import Derived.Test.YtodnkbnbjhcikaaDoorJ2
set_option linter.all false
set_option linter.deprecated false
set_option linter.unnecessarySimpa false
set_option linter.unusedVariables false
set_option linter.unusedSimpArgs false
set_option linter.defProp false
namespace Go.Proofs.Eng
open Go Go.Proofs
set_option maxRecDepth 100000
set_option maxHeartbeats 16000000
theorem closL_len {l : List Cl} : (closL l).1.length ≤ 2000 := by
  unfold closL
  by_cases hck : checkR l = 0
  · rw [if_pos hck]
    obtain ⟨ar, hg⟩ := check_good hck
    cases hq : cloQ l with
    | none => simp
    | some q =>
      have hclo := clo_of hg hq
      simp only
      rw [srt_len hclo.good hclo.nd]; exact hclo.len
  · rw [if_neg hck]; simp
end Go.Proofs.Eng
