/- FarkasRefutes holds of all arguments. No conditions beyond those in the theorems. -/
import Derived.Test.YtglembbmmnakaaaDoorF19
import Derived.Test.YtglembbmmnakaaaDoorLE
import Derived.Test.YtglembbmmnakaaaDoorQA
set_option linter.all false
set_option linter.deprecated false
set_option linter.unnecessarySimpa false
set_option linter.unusedVariables false
set_option linter.unusedSimpArgs false
set_option linter.defProp false
namespace Go.Proofs.Eng
open Go Go.Proofs
set_option maxRecDepth 100000
set_option maxHeartbeats 16000000
theorem refuteR_len {rows : List (List Int)} : (refuteR rows).1.length ≤ lenB := by
  unfold refuteR
  split
  · exact Nat.zero_le _
  · rename_i hr
    replace hr : rightR rows = 0 := by simpa using hr
    have hR := right_of hr
    split
    · exact Nat.zero_le _
    · rename_i F hF
      by_cases h0 : rows.length = 0
      · rw [List.length_eq_zero_iff.1 h0] at hF
        rw [elimA_nil] at hF; cases hF
      · rw [elimA_len hR rfl (hR.pos (by omega)).1 hF]
        have := hR.few
        unfold lenB; omega
    · exact Nat.zero_le _
end Go.Proofs.Eng
