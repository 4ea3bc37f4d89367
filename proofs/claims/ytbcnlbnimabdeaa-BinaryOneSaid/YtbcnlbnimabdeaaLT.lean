/- BinaryTerms holds of all arguments. No conditions beyond those in the theorems. -/
import Derived.Test.YtbcnlbnimabdeaaT14
import Derived.Test.YtbcnlbnimabdeaaL2
set_option linter.all false
set_option linter.deprecated false
set_option linter.unnecessarySimpa false
set_option linter.unusedVariables false
set_option linter.unusedSimpArgs false
set_option linter.defProp false
namespace Go.Proofs.Eng
open Go Go.Proofs
set_option maxRecDepth 100000
set_option maxHeartbeats 16000000
theorem flat_bound {α : Type} {f : α → List UInt8} {N : Nat} : ∀ {l : List α}, (∀ x ∈ l, (f x).length ≤ N) → (l.flatMap f).length ≤ N * l.length
  | [], _ => by simp
  | x :: l, h => by
    have h1 := h x (by simp)
    have h2 := flat_bound (l := l) fun y hy => h y (by simp [hy])
    rw [List.flatMap_cons, List.length_append, List.length_cons, Nat.mul_add]; omega
end Go.Proofs.Eng
