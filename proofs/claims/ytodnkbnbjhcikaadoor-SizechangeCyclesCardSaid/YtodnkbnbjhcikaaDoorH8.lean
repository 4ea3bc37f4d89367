/- The reference's order. No conditions beyond those in the theorems. -/
import Derived.Test.YtodnkbnbjhcikaaDoorH7
set_option linter.all false
set_option linter.deprecated false
set_option linter.unnecessarySimpa false
set_option linter.unusedVariables false
set_option linter.unusedSimpArgs false
set_option linter.defProp false
namespace Go.Proofs.Eng
open Go Go.Proofs
set_option maxRecDepth 100000
set_option maxHeartbeats 16000000
structure Ok (c : Cl) : Prop where
  rows : c.m.length ≤ 16
  cols : ∀ r ∈ c.m, 1 ≤ r.length ∧ r.length ≤ 16
theorem Good.ok {ar : Int → Nat} {c : Cl} (h : Good ar c) : Ok c := ⟨by rw [h.wm.len]; exact h.r1.2, fun r hr => by rw [h.wm.row r hr]; exact h.c1⟩
end Go.Proofs.Eng
