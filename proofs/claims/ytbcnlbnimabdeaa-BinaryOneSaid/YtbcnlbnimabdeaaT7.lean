/- Few terms; levels are appended, and encoded by the reference. No conditions beyond those in the theorems. -/
import Derived.Test.YtbcnlbnimabdeaaT6
set_option linter.all false
set_option linter.deprecated false
set_option linter.unnecessarySimpa false
set_option linter.unusedVariables false
set_option linter.unusedSimpArgs false
set_option linter.defProp false
namespace Go.Proofs.Eng
open Go Go.Proofs
set_option maxRecDepth 100000
set_option maxHeartbeats 8000000
mutual
/-- Nodes with not too many parts. -/
def Tm.slim : Tm → Prop
  | .mk _ _ n ls kids => n.size ≤ 200 ∧ ls.length ≤ 10 ∧ (∀ l ∈ ls, l.vs.length ≤ 10) ∧ kids.length ≤ 6 ∧ slimL kids
def slimL : List Tm → Prop
  | [] => True
  | t :: l => t.slim ∧ slimL l
end
end Go.Proofs.Eng
