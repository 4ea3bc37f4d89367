/- R10: what functions of the program return. No conditions beyond those in the theorems. -/
import Derived.Test.YtfopdknkbnhlkaaL10
set_option linter.all false
set_option linter.deprecated false
set_option linter.unnecessarySimpa false
set_option linter.unusedVariables false
set_option linter.unusedSimpArgs false
set_option linter.defProp false
namespace Go.Proofs.Eng
open Go Go.Proofs Go.Proofs.Ytfopdknkbnhlkaa
open Go.ChangeShapes Go.WideShapes Go.ChangeAt Go.RowKit
set_option maxRecDepth 100000
theorem hm : Try.prog.follows .mixedOrders = true := by kernel_rfl
theorem try_own : ownKnob Try.prog.godebug = none := by kernel_rfl
theorem try_laid : laidOutB Try.prog = true := by kernel_rfl
theorem hlaw : ∀ ls : List AV, ArgsT Try.prog Try.f10.params.toList ls → ∃ s', run md pfs 10 ls ⟨[], []⟩ = some (.ret (.v (.bool true)), s') := by
  intro ls h
  rw [show Try.f10.params.toList = [26] from by kernel_rfl] at h
  match ls, h with
  | [_], ⟨⟨n, l, e, h⟩, _⟩ =>
    subst e
    obtain ⟨x, hx⟩ := oft_ex n l h
    rw [show isAgg Try.prog 26 = true from by kernel_rfl]
    exact law_true (datas_law hx)
theorem lifted (os : Os) (started : os.Started) (H : Type) (enc : TypeId × Value → H) :
    ReturnsInHanded {} Try.checked os 10 .any (Rows.lambdaDatasSpec.pre6 enc Try.prog Try.f10 Rows.lambdaDatasRow.domain false) (Rows.lambdaDatasSpec.post enc Try.prog Try.f10 false true false false) := by
  refine returnsInHanded_of_change (C := Try.checked) try_own started (by kernel_rfl) Try.func10
    (ChangeSpec.witness6 (enc := enc) (C := Try.checked) false ⟨#[], #[.agg #[.int .i64 0, .int .i64 0, .string ⟨#[]⟩, .slice none 0 0, .slice none 0 0]], []⟩ 8 (by kernel_rfl) (by kernel_rfl) (by kernel_rfl) (by kernel_rfl)) ?_
  intro W base args ds gs before hval hW _ _
  exact law_contract hm pfsOK try_laid (by kernel_rfl) (by kernel_rfl) rfl Try.underlying4 (fun ds gs h1 h2 => by
    match ds, h1 with
    | [d0], _ => match gs, h2 with
      | [], _ => exact ⟨rfl, rfl, rfl⟩) hlaw hval hW
theorem lambdaDatas_holds : Rows.LambdaDatasSaid :=
  OpenClaim.holds_of_wide 10 Try.f10 rfl rfl rfl rfl rfl rfl rfl ⟨rfl, rfl, rfl, rfl, rfl⟩ rfl rfl rfl rfl rfl (by kernel_rfl) Try.func10 (by kernel_rfl)
    (of_decide_eq_true (by kernel_rfl)) (by unfold Func.isWrapper; first | (rw [if_pos (by decide +kernel)]; kernel_rfl) | (rw [if_neg (by decide +kernel)]; exact ⟨rfl, rfl⟩))
    (fun os started H enc _ => lifted os started H enc)
end Go.Proofs.Eng
namespace Go.Proofs.Ytfopdknkbnhlkaa
/-- The given statement. -/
theorem lambdaDatas_holds : Rows.LambdaDatasSaid := Go.Proofs.Eng.lambdaDatas_holds
end Go.Proofs.Ytfopdknkbnhlkaa
