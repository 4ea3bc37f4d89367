/- The arguments of FarkasScales. No conditions beyond those in the theorems. -/
import Derived.Test.YtglembbmmnakaaaDoorL9
import Derived.Test.YtglembbmmnakaaaDoorL0
set_option linter.all false
set_option linter.deprecated false
set_option linter.unnecessarySimpa false
set_option linter.unusedVariables false
set_option linter.unusedSimpArgs false
set_option linter.defProp false
namespace Go.Proofs.Eng
open Go Go.Proofs
set_option maxRecDepth 100000
theorem oft_u8 {n : Nat} {l : List AV} (h : OfT Tryd.prog n 5 l) : ∃ i : Nat, l = [.v (.int .u8 i)] ∧ i < 256 := by
  cases n with
  | zero => exact h.elim
  | succ n =>
    simp only [OfT, Tryd.underlying5] at h
    obtain ⟨i, rfl, hw⟩ := h
    simp [Lit.wf, IntKind.min, IntKind.max, IntKind.signed, IntKind.bits] at hw
    exact ⟨i.toNat, by rw [Int.toNat_of_nonneg (by omega)], by omega⟩
end Go.Proofs.Eng
