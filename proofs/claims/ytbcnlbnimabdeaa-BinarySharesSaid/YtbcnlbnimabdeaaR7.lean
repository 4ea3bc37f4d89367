/- R7: what functions of the program return. No conditions beyond those in the theorems. -/
import Derived.Test.YtbcnlbnimabdeaaV1
set_option linter.all false
set_option linter.deprecated false
set_option linter.unnecessarySimpa false
set_option linter.unusedVariables false
set_option linter.unusedSimpArgs false
set_option linter.defProp false
namespace Go.Proofs.Eng
open Go Go.Proofs Go.Proofs.Ytbcnlbnimabdeaa
open Go.ChangeShapes Go.WideShapes Go.ChangeAt Go.RowKit
set_option maxRecDepth 100000
theorem hm : Try.prog.follows .mixedOrders = true := by kernel_rfl
theorem try_own : ownKnob Try.prog.godebug = none := by kernel_rfl
theorem try_laid : laidOutB Try.prog = true := by kernel_rfl
theorem hlaw : ∀ ls : List AV, ArgsT Try.prog Try.f7.params.toList ls → ∃ s', run md pfs 7 ls ⟨[], []⟩ = some (.ret (.v (.bool true)), s') := by
  intro ls h
  rw [show Try.f7.params.toList = [31] from by kernel_rfl] at h
  match ls, h with
  | [_], ⟨⟨n0, l0, e0, h0⟩, _⟩ =>
    subst e0
    obtain ⟨xs, al, tl, rfl, h1, h2, h3⟩ := oft_tms h0
    rw [show isAgg Try.prog 31 = false from by kernel_rfl]
    exact law_true (shares_law h1 h2 h3)
theorem lifted (os : Os) (started : os.Started) (H : Type) (enc : TypeId × Value → H) :
    ReturnsInHanded {} Try.checked os 7 .any (Rows.binarySharesSpec.pre6 enc Try.prog Try.f7 Rows.binarySharesRow.domain false) (Rows.binarySharesSpec.post enc Try.prog Try.f7 false true false false) := by
  refine returnsInHanded_of_change (C := Try.checked) try_own started (by kernel_rfl) Try.func7
    (ChangeSpec.witness6 (enc := enc) (C := Try.checked) false ⟨#[], #[.slice none 0 0], []⟩ 8 (by kernel_rfl) (by kernel_rfl) (by kernel_rfl) (by kernel_rfl)) ?_
  intro W base args ds gs before hval hW _ _
  exact law_contract hm pfsOK try_laid (by kernel_rfl) (by kernel_rfl) rfl Try.underlying4 (fun ds gs h1 h2 => by
    match ds, h1 with
    | [d0], _ => match gs, h2 with
      | [], _ => exact ⟨rfl, rfl, rfl⟩) hlaw hval hW
theorem binaryShares_holds : Rows.BinarySharesSaid :=
  OpenClaim.holds_of_wide 7 Try.f7 rfl rfl rfl rfl rfl rfl rfl ⟨rfl, rfl, rfl, rfl, rfl⟩ rfl rfl rfl rfl rfl (by kernel_rfl) Try.func7 (by kernel_rfl)
    (of_decide_eq_true (by kernel_rfl)) (by unfold Func.isWrapper; first | (rw [if_pos (by decide +kernel)]; kernel_rfl) | (rw [if_neg (by decide +kernel)]; exact ⟨rfl, rfl⟩))
    (fun os started H enc _ => lifted os started H enc)
end Go.Proofs.Eng
namespace Go.Proofs.Ytbcnlbnimabdeaa
/-- The given statement. -/
theorem binaryShares_holds : Rows.BinarySharesSaid := Go.Proofs.Eng.binaryShares_holds
end Go.Proofs.Ytbcnlbnimabdeaa
