/- RD: what functions of the program return. No conditions beyond those in the theorems. -/
import Derived.Test.YtflfmkkcnphdcaaGreatN8
import Derived.Test.YtflfmkkcnphdcaaGreatQB
set_option linter.all false
set_option linter.deprecated false
set_option linter.unnecessarySimpa false
set_option linter.unusedVariables false
set_option linter.unusedSimpArgs false
set_option linter.defProp false
namespace Go.Proofs.Eng
open Go Go.Proofs Go.Proofs.YtflfmkkcnphdcaaGreat
open Go.ChangeShapes Go.WideShapes Go.ChangeAt Go.RowKit
set_option maxRecDepth 100000
theorem Vi : ∀ ls : List AV, Lb Tryz.prog Tryz.f7.params.toList ls -> ∃ s', run md pfs 7 ls ⟨[], []⟩ = some (.ret (.v (.bool true)), s') := by
  intro ls h
  rw [show Tryz.f7.params.toList = [5, 5] from by kernel_rfl] at h
  match ls, h with
  | [_, _], ⟨⟨n, l, e, h⟩, ⟨n2, l2, e2, h2⟩, _⟩ =>
    subst e e2
    obtain ⟨i, rfl, i1, i2⟩ := Vg h
    obtain ⟨j, rfl, j1, j2⟩ := Vg h2
    rw [show isAgg Tryz.prog 5 = false from by kernel_rfl]
    obtain ⟨a, rfl⟩ := Int.eq_ofNat_of_zero_le i1
    obtain ⟨b, rfl⟩ := Int.eq_ofNat_of_zero_le j1
    exact Ut (Tq (by omega) (by omega))
theorem lifted (os : Os) (started : os.Started) (H : Type) (enc : TypeId × Value -> H) :
    ReturnsInHanded {} Tryz.checked os 7 .any (Rows.vmAddsSpec.pre6 enc Tryz.prog Tryz.f7 Rows.vmAddsRow.domain false) (Rows.vmAddsSpec.post enc Tryz.prog Tryz.f7 false true false false) := by
  refine returnsInHanded_of_change (C := Tryz.checked) Y7 started (by kernel_rfl) Tryz.func7
    (ChangeSpec.witness6 (enc := enc) (C := Tryz.checked) false ⟨#[], #[.int .u8 0, .int .u8 0], []⟩ 8 (by kernel_rfl) (by kernel_rfl) (by kernel_rfl) (by kernel_rfl)) ?_
  intro W base args ds gs before hval hW _ _
  exact J7 hm a7q Sw (by kernel_rfl) (by kernel_rfl) rfl Tryz.underlying4 (λ ds gs h1 h2 => by
    match ds, h1 with
    | [d0, d1], _ => match gs, h2 with
      | [], _ => exact ⟨rfl, rfl, rfl⟩) Vi (a8f W) hval hW
theorem vmAdds_holds : Rows.VmAddsSaid :=
  OpenClaim.holds_of_wide 7 Tryz.f7 rfl rfl rfl rfl rfl rfl rfl ⟨rfl, rfl, rfl, rfl, rfl⟩ rfl rfl rfl rfl rfl (by kernel_rfl) Tryz.func7 (by kernel_rfl)
    (of_decide_eq_true (by kernel_rfl)) (by unfold Func.isWrapper; first | (rw [if_pos (by decide +kernel)]; kernel_rfl) | (rw [if_neg (by decide +kernel)]; exact ⟨rfl, rfl⟩))
    (λ os started H enc _ => lifted os started H enc)
end Go.Proofs.Eng
namespace Go.Proofs.YtflfmkkcnphdcaaGreat
/-- The given statement. -/
theorem vmAdds_holds : Rows.VmAddsSaid := Go.Proofs.Eng.vmAdds_holds
end Go.Proofs.YtflfmkkcnphdcaaGreat
