/- Terms as arguments of the laws. No conditions beyond those in the theorems. -/
import Derived.Test.YtbcnlbnimabdeaaL0
import Derived.Test.YtbcnlbnimabdeaaD48
set_option linter.all false
set_option linter.deprecated false
set_option linter.unnecessarySimpa false
set_option linter.unusedVariables false
set_option linter.unusedSimpArgs false
set_option linter.defProp false
namespace Go.Proofs.Eng
open Go Go.Proofs Go.Proofs.Ytbcnlbnimabdeaa
set_option maxRecDepth 100000
theorem two {α : Type} {l : List α} (h : l.length = 2) : ∃ a b, l = [a, b] := by
  match l, h with
  | [a, b], _ => exact ⟨a, b, rfl⟩
end Go.Proofs.Eng
