/- L1: what functions of the program return. No conditions beyond those in the theorems. -/
import Derived.Test.YtfopdknkbnhlkaaL0
set_option linter.all false
set_option linter.deprecated false
set_option linter.unnecessarySimpa false
set_option linter.unusedVariables false
set_option linter.unusedSimpArgs false
set_option linter.defProp false
namespace Go.Proofs.Eng
open Go Go.Proofs Go.Proofs.Ytfopdknkbnhlkaa
set_option maxRecDepth 100000
theorem oft_u8 {n : Nat} {l : List AV} (h : OfT Try.prog n 5 l) : ∃ i, l = [.v (.int .u8 i)] ∧ 0 ≤ i ∧ i < 256 := by
  cases n with
  | zero => exact h.elim
  | succ n =>
    simp only [OfT, Try.underlying5] at h
    obtain ⟨i, rfl, hw⟩ := h
    refine ⟨i, rfl, ?_⟩
    simp [Lit.wf, IntKind.min, IntKind.max, IntKind.signed, IntKind.bits] at hw
    omega
end Go.Proofs.Eng
