/- R8: what functions of the program return. No conditions beyond those in the theorems. -/
import Derived.Test.YtflfmkkcnphdcaaGreatKN
set_option linter.all false
set_option linter.deprecated false
set_option linter.unnecessarySimpa false
set_option linter.unusedVariables false
set_option linter.unusedSimpArgs false
set_option linter.defProp false
namespace Go.Proofs.Eng
open Go Go.Proofs Go.Proofs.YtflfmkkcnphdcaaGreat
open Go.ChangeShapes Go.WideShapes Go.ChangeAt Go.RowKit
set_option maxRecDepth 100000
theorem hlaw : ∀ ls : List AV, ArgsT Tryz.prog Tryz.f8.params.toList ls → ∃ s', run md pfs3 8 ls ⟨[], []⟩ = some (.ret (.v (.bool true)), s') := by
  intro ls h
  rw [show Tryz.f8.params.toList = [26] from by kernel_rfl] at h
  match ls, h with
  | [_], ⟨⟨n, l, e, h⟩, _⟩ =>
    subst e
    obtain ⟨c, hc, h1, h2⟩ := oft_cd h
    rw [show isAgg Tryz.prog 26 = true from by kernel_rfl]
    exact law_true (news_law hc h1 h2)
theorem lifted (os : Os) (started : os.Started) (H : Type) (enc : TypeId × Value → H) :
    ReturnsInHanded {} Tryz.checked os 8 .any (Rows.vmNewsSpec.pre6 enc Tryz.prog Tryz.f8 Rows.vmNewsRow.domain false) (Rows.vmNewsSpec.post enc Tryz.prog Tryz.f8 false true false false) := by
  refine returnsInHanded_of_change (C := Tryz.checked) try_own started (by kernel_rfl) Tryz.func8
    (ChangeSpec.witness6 (enc := enc) (C := Tryz.checked) false ⟨#[], #[.agg #[.slice none 0 0, .slice none 0 0, .slice none 0 0]], []⟩ 8 (by kernel_rfl) (by kernel_rfl) (by kernel_rfl) (by kernel_rfl)) ?_
  intro W base args ds gs before hval hW _ _
  exact law_contract hm pfsOK3 try_laid (by kernel_rfl) (by kernel_rfl) rfl Tryz.underlying4 (fun ds gs h1 h2 => by
    match ds, h1 with
    | [d0], _ => match gs, h2 with
      | [], _ => exact ⟨rfl, rfl, rfl⟩) hlaw (kn57 W) hval hW
theorem vmNews_holds : Rows.VmNewsSaid :=
  OpenClaim.holds_of_wide 8 Tryz.f8 rfl rfl rfl rfl rfl rfl rfl ⟨rfl, rfl, rfl, rfl, rfl⟩ rfl rfl rfl rfl rfl (by kernel_rfl) Tryz.func8 (by kernel_rfl)
    (of_decide_eq_true (by kernel_rfl)) (by unfold Func.isWrapper; first | (rw [if_pos (by decide +kernel)]; kernel_rfl) | (rw [if_neg (by decide +kernel)]; exact ⟨rfl, rfl⟩))
    (fun os started H enc _ => lifted os started H enc)
end Go.Proofs.Eng
namespace Go.Proofs.YtflfmkkcnphdcaaGreat
/-- The given statement. -/
theorem vmNews_holds : Rows.VmNewsSaid := Go.Proofs.Eng.vmNews_holds
end Go.Proofs.YtflfmkkcnphdcaaGreat
