/- R9: what functions of the program return. No conditions beyond those in the theorems. -/
import Derived.Test.YtglembbmmnakaaaDoorL9b
import Derived.Test.YtglembbmmnakaaaDoorK0
import Derived.Test.YtglembbmmnakaaaDoorTie
import Derived.Test.YtglembbmmnakaaaDoorCards
import Derived.SevenTiedAt
set_option linter.all false
set_option linter.deprecated false
set_option linter.unnecessarySimpa false
set_option linter.unusedVariables false
set_option linter.unusedSimpArgs false
set_option linter.defProp false
namespace Go.Proofs.Eng
open Go Go.Proofs Go.Proofs.YtglembbmmnakaaaDoor
open Go.ChangeShapes Go.WideShapes Go.ChangeAt Go.RowKit
set_option maxRecDepth 100000
theorem hlaw : ∀ ls : List AV, ArgsT Tryd.prog Tryd.f9.params.toList ls → ∃ s', run md pfs 9 ls ⟨[], []⟩ = some (.ret (.v (.bool true)), s') := by
  intro ls h
  rw [show Tryd.f9.params.toList = [24, 5, 5] from by kernel_rfl] at h
  match ls, h with
  | [_, _, _], ⟨⟨n0, l0, e0, h0⟩, ⟨n1, l1, e1, h1⟩, ⟨n2, l2, e2, h2⟩, _⟩ =>
    subst e0; subst e1; subst e2
    obtain ⟨rows, al, tl, rfl, k1, k2, k3⟩ := oft_rows h0
    obtain ⟨i, rfl, b1⟩ := oft_u8 h1
    obtain ⟨k, rfl, b2⟩ := oft_u8 h2
    rw [show isAgg Tryd.prog 24 = false from by kernel_rfl, show isAgg Tryd.prog 5 = false from by kernel_rfl]
    exact law_true (scales_ret k1 k2 k3 b1 b2)
theorem lifted (os : Os) (started : os.Started) (H : Type) (enc : TypeId × Value → H) :
    ReturnsInHanded {} Tryd.checked os 9 .any (fun w args => (Rows.farkasScalesSpec.pre enc Tryd.prog Tryd.f9 [] false w args ∧ laidMetH Tryd.prog laid41 w) ∧ sizedMet enc Tryd.prog Tryd.f9 (OpenSpec.ofChange Rows.farkasScalesSpec) false w args)
      (Rows.farkasScalesSpec.post enc Tryd.prog Tryd.f9 false true false false) := by
  refine returnsInHanded_of_change_and (C := Tryd.checked) (X := fun w _ => laidMetH Tryd.prog laid41 w) (fun _ _ _ hh h => h.of_heap hh) try_own started (by kernel_rfl) Tryd.func9
    (ChangeSpec.witness_shaped (enc := enc) (C := Tryd.checked) (os := os) (X := fun w _ => laidMetH Tryd.prog laid41 w) false (World.laidAll Tryd.prog os laid41) #[.slice none 0 0, .int .u8 0, .int .u8 0] 8 (World.laidAll_os _ _ _)
      (World.shaped_of_ZipB (by kernel_rfl) (by kernel_rfl)) (by kernel_rfl) (by kernel_rfl) (by kernel_rfl)
      (by rw [MakeChecks.laidMetH_plain _ _ _ (by kernel_rfl)]; exact laidMet_laidAll _ (by kernel_rfl) (by kernel_rfl))) ?_
  intro W base args ds gs before hval hW _ _ hL _
  exact law_contract hm pfsOK try_laid (by kernel_rfl) (by kernel_rfl) rfl Tryd.underlying4 (fun ds gs h1 h2 => by
    match ds, h1 with
    | [d0, d1, d2], _ => match gs, h2 with
      | [], _ => exact ⟨rfl, rfl, rfl⟩) hlaw (kn_of hL) hval hW
theorem farkasScales_holds : Rows.FarkasScalesSaid :=
  OpenClaim.holds_of_wide 9 Tryd.f9 rfl rfl rfl rfl rfl rfl rfl ⟨rfl, rfl, rfl, rfl, rfl⟩ rfl rfl rfl rfl rfl (by kernel_rfl) Tryd.func9 (by kernel_rfl)
    (of_decide_eq_true (by kernel_rfl)) (by unfold Func.isWrapper; first | (rw [if_pos (by decide +kernel)]; kernel_rfl) | (rw [if_neg (by decide +kernel)]; exact ⟨rfl, rfl⟩))
    (fun os started H enc _ => lifted os started H enc)
theorem farkasScales_card : Rows.FarkasScalesCardSaid :=
  Claim7.holds_tied_plain_at .later [] _ _ _ _ farkasScales_holds (fun _ h => by cases h) (by kernel_rfl) (fun _ h => by cases h) farkasScales_row_tie rfl ⟨rfl, rfl⟩ (by kernel_rfl) rfl
    (fun f fn hf hfn => by
      obtain rfl : f = 9 := Option.some.inj ((show Tryd.prog.funcNamed Rows.farkasScalesRow.func = some 9 by kernel_rfl).symm.trans hf) |>.symm
      obtain rfl : fn = Tryd.f9 := (Option.some.inj (Tryd.func9.symm.trans hfn)).symm
      exact ⟨by kernel_rfl, fun j t ht => by
        rw [Tryd.params9] at ht
        have hm : t ∈ [24, 5, 5] := by simpa using Array.mem_of_getElem? ht
        have hall : ([24, 5, 5].all fun u => !Tryd.prog.wantsStandIn u) = true := by kernel_rfl
        exact (show Tryd.prog.wantsStandIn t = false by simpa using List.all_eq_true.1 hall t hm)⟩)
    (by kernel_rfl)
end Go.Proofs.Eng
namespace Go.Proofs.YtglembbmmnakaaaDoor
/-- The given statement. -/
theorem farkasScales_card : Rows.FarkasScalesCardSaid := Go.Proofs.Eng.farkasScales_card
end Go.Proofs.YtglembbmmnakaaaDoor
