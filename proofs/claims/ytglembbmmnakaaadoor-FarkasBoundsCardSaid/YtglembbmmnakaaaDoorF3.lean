/- few; the reference's sum of rows. No conditions beyond those in the theorems. -/
import Derived.Test.YtglembbmmnakaaaDoorF2
set_option linter.all false
set_option linter.deprecated false
set_option linter.unnecessarySimpa false
set_option linter.unusedVariables false
set_option linter.unusedSimpArgs false
set_option linter.defProp false
namespace Go.Proofs.Eng
open Go Go.Proofs
set_option maxRecDepth 100000
set_option maxHeartbeats 16000000
/-- Multiples added. -/
def addM (p q : Int) (a b : List Int) : List Int := List.zipWith (fun x y => p * x + q * y) a b
theorem addM_len {p q : Int} {a b : List Int} (h : a.length = b.length) : (addM p q a b).length = a.length := by simp [addM, h]
end Go.Proofs.Eng
