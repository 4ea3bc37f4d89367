/- The reference reads a level. No conditions beyond those in the theorems. -/
import Derived.Test.YtbcnlbnimabdeaaU1
set_option linter.all false
set_option linter.deprecated false
set_option linter.unnecessarySimpa false
set_option linter.unusedVariables false
set_option linter.unusedSimpArgs false
set_option linter.defProp false
namespace Go.Proofs.Eng
open Go Go.Proofs
set_option maxRecDepth 100000
set_option maxHeartbeats 8000000
/-- What was read is right (G), or the reader is bad: it was, or nothing could be read (N). -/
def Fl (fl fl' : Bool) (G N : Prop) : Prop := (fl = false ∧ fl' = false ∧ G) ∨ (fl' = true ∧ (fl = true ∨ N))
theorem BR.f5 {B H : List AObj} {i : Nat} {o : AObj} (h : BR B H i o) : B.length = H.length ∧ (∀ l, (B ++ l)[H.length]? = l[0]?) ∧ (∀ l k, (B ++ l)[H.length + k]? = l[k]?) ∧ (∀ l y, (B ++ l).set H.length y = B ++ l.set 0 y) ∧ (∀ l k y, (B ++ l).set (H.length + k) y = B ++ l.set k y) :=
  ⟨h.f.1, h.f.2.1, h.f.2.2.1, h.f.2.2.2.1, h.f.2.2.2.2.1⟩
abbrev z2 : AObj := .cells false [.int 0, .sl [] .nil]
end Go.Proofs.Eng
