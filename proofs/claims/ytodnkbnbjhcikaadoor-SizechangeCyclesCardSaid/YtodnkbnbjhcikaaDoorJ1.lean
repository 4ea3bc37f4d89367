/- The reference's closure. No conditions beyond those in the theorems. -/
import Derived.Test.YtodnkbnbjhcikaaDoorH9
set_option linter.all false
set_option linter.deprecated false
set_option linter.unnecessarySimpa false
set_option linter.unusedVariables false
set_option linter.unusedSimpArgs false
set_option linter.defProp false
namespace Go.Proofs.Eng
open Go Go.Proofs
set_option maxRecDepth 100000
set_option maxHeartbeats 16000000
def closL (l : List Cl) : List Cl × Int :=
  if checkR l = 0 then match cloQ l with
    | some q => (srt q, 0)
    | none => ([], 6)
  else ([], checkR l)
def ResL (r : List Cl × Int) (v : AV) : Prop := ∃ al t, v = .tup [.sl al t, .int r.2] ∧ LIs ClIs r.1 al ∧ t.pure = true
end Go.Proofs.Eng
