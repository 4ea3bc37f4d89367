/- R4: what functions of the program return. No conditions beyond those in the theorems. -/
import Derived.Test.YtnipefcppecalaaDoorK0
import Derived.Test.YtnipefcppecalaaDoorTie
import Derived.Test.YtnipefcppecalaaDoorCards
import Derived.SevenTiedAt
set_option linter.all false
set_option linter.deprecated false
set_option linter.unnecessarySimpa false
set_option linter.unusedVariables false
set_option linter.unusedSimpArgs false
set_option linter.defProp false
namespace Go.Proofs.Eng
open Go Go.Proofs Go.Proofs.YtnipefcppecalaaDoor
open Go.ChangeShapes Go.WideShapes Go.ChangeAt Go.RowKit
set_option maxRecDepth 100000
theorem hlaw : ∀ ls : List AV, ArgsT Tryd.prog Tryd.f4.params.toList ls → ∃ s', run md pfs3 4 ls ⟨[], []⟩ = some (.ret (.v (.bool true)), s') := by
  intro ls h
  rw [show Tryd.f4.params.toList = [26] from by kernel_rfl] at h
  match ls, h with
  | [_], ⟨⟨n0, l0, e0, h0⟩, _⟩ =>
    subst e0
    obtain ⟨c, hc, hi⟩ := oft_cd h0
    rw [show isAgg Tryd.prog 26 = true from by kernel_rfl]
    exact law_true (texts_law hc hi)
theorem lifted (os : Os) (started : os.Started) (H : Type) (enc : TypeId × Value → H) :
    ReturnsInHanded {} Tryd.checked os 4 .any (fun w args => (Rows.bytecodeTextsSpec.pre enc Tryd.prog Tryd.f4 [] false w args ∧ laidMetH Tryd.prog laid56 w) ∧ sizedMet enc Tryd.prog Tryd.f4 (OpenSpec.ofChange Rows.bytecodeTextsSpec) false w args)
      (Rows.bytecodeTextsSpec.post enc Tryd.prog Tryd.f4 false true false false) := by
  refine returnsInHanded_of_change_and (C := Tryd.checked) (X := fun w _ => laidMetH Tryd.prog laid56 w) (fun _ _ _ hh h => h.of_heap hh) try_own started (by kernel_rfl) Tryd.func4
    (ChangeSpec.witness_shaped (enc := enc) (C := Tryd.checked) (os := os) (X := fun w _ => laidMetH Tryd.prog laid56 w) false (World.laidAll Tryd.prog os laid56) #[.agg #[.slice none 0 0, .slice none 0 0, .slice none 0 0]] 8 (World.laidAll_os _ _ _)
      (World.shaped_of_ZipB (by kernel_rfl) (by kernel_rfl)) (by kernel_rfl) (by kernel_rfl) (by kernel_rfl)
      (by rw [MakeChecks.laidMetH_plain _ _ _ (by kernel_rfl)]; exact laidMet_laidAll _ (by kernel_rfl) (by kernel_rfl))) ?_
  intro W base args ds gs before hval hW _ _ hL _
  exact law_contract hm pfsOK3 try_laid (by kernel_rfl) (by kernel_rfl) rfl Tryd.underlying4 (fun ds gs h1 h2 => by
    match ds, h1 with
    | [d0], _ => match gs, h2 with
      | [], _ => exact ⟨rfl, rfl, rfl⟩) hlaw (kn_of hL) hval hW
theorem bytecodeTexts_holds : Rows.BytecodeTextsSaid :=
  OpenClaim.holds_of_wide 4 Tryd.f4 rfl rfl rfl rfl rfl rfl rfl ⟨rfl, rfl, rfl, rfl, rfl⟩ rfl rfl rfl rfl rfl (by kernel_rfl) Tryd.func4 (by kernel_rfl)
    (of_decide_eq_true (by kernel_rfl)) (by unfold Func.isWrapper; first | (rw [if_pos (by decide +kernel)]; kernel_rfl) | (rw [if_neg (by decide +kernel)]; exact ⟨rfl, rfl⟩))
    (fun os started H enc _ => lifted os started H enc)
theorem bytecodeTexts_card : Rows.BytecodeTextsCardSaid :=
  Claim7.holds_tied_plain_at .later [] _ _ _ _ bytecodeTexts_holds (fun _ h => by cases h) (by kernel_rfl) (fun _ h => by cases h) bytecodeTexts_row_tie rfl ⟨rfl, rfl⟩ (by kernel_rfl) rfl
    (fun f fn hf hfn => by
      obtain rfl : f = 4 := Option.some.inj ((show Tryd.prog.funcNamed Rows.bytecodeTextsRow.func = some 4 by kernel_rfl).symm.trans hf) |>.symm
      obtain rfl : fn = Tryd.f4 := (Option.some.inj (Tryd.func4.symm.trans hfn)).symm
      exact ⟨by kernel_rfl, fun j t ht => by
        rw [Tryd.params4] at ht
        have hm : t ∈ [26] := by simpa using Array.mem_of_getElem? ht
        have hall : ([26].all fun u => !Tryd.prog.wantsStandIn u) = true := by kernel_rfl
        exact (show Tryd.prog.wantsStandIn t = false by simpa using List.all_eq_true.1 hall t hm)⟩)
    (by kernel_rfl)
end Go.Proofs.Eng
namespace Go.Proofs.YtnipefcppecalaaDoor
/-- The given statement. -/
theorem bytecodeTexts_card : Rows.BytecodeTextsCardSaid := Go.Proofs.Eng.bytecodeTexts_card
end Go.Proofs.YtnipefcppecalaaDoor
