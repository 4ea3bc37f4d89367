/- R3: what functions of the program return. No conditions beyond those in the theorems. -/
import Derived.Test.YtnipefcppecalaaGreatDoorK0
import Derived.Test.YtnipefcppecalaaGreatDoorTie
import Derived.Test.YtnipefcppecalaaGreatDoorCards
import Derived.SevenTiedAt
set_option linter.all false
set_option linter.deprecated false
set_option linter.unnecessarySimpa false
set_option linter.unusedVariables false
set_option linter.unusedSimpArgs false
set_option linter.defProp false
namespace Go.Proofs.Eng
open Go Go.Proofs Go.Proofs.YtnipefcppecalaaGreatDoor
open Go.ChangeShapes Go.WideShapes Go.ChangeAt Go.RowKit
set_option maxRecDepth 100000
theorem hlaw : ∀ ls : List AV, ArgsT Tryz.prog Tryz.f3.params.toList ls → ∃ s', run md pfs2 3 ls ⟨[], []⟩ = some (.ret (.v (.bool true)), s') := by
  intro ls h
  rw [show Tryz.f3.params.toList = [28] from by kernel_rfl] at h
  match ls, h with
  | [_], ⟨⟨n0, l0, e0, h0⟩, _⟩ =>
    subst e0
    obtain ⟨p, hp⟩ := oft_pr h0
    rw [show isAgg Tryz.prog 28 = true from by kernel_rfl]
    exact law_true (compiles_law hp)
theorem lifted (os : Os) (started : os.Started) (H : Type) (enc : TypeId × Value → H) :
    ReturnsInHanded {} Tryz.checked os 3 .any (fun w args => (Rows.bytecodeCompilesSpec.pre enc Tryz.prog Tryz.f3 [] false w args ∧ laidMetH Tryz.prog laid56 w) ∧ sizedMet enc Tryz.prog Tryz.f3 (OpenSpec.ofChange Rows.bytecodeCompilesSpec) false w args)
      (Rows.bytecodeCompilesSpec.post enc Tryz.prog Tryz.f3 false true false false) := by
  refine returnsInHanded_of_change_and (C := Tryz.checked) (X := fun w _ => laidMetH Tryz.prog laid56 w) (fun _ _ _ hh h => h.of_heap hh) try_own started (by kernel_rfl) Tryz.func3
    (ChangeSpec.witness_shaped (enc := enc) (C := Tryz.checked) (os := os) (X := fun w _ => laidMetH Tryz.prog laid56 w) false (World.laidAll Tryz.prog os laid56) #[.agg #[.slice none 0 0, .int .i64 0, .int .i64 0, .string ⟨#[]⟩, .slice none 0 0, .slice none 0 0]] 8 (World.laidAll_os _ _ _)
      (World.shaped_of_ZipB (by kernel_rfl) (by kernel_rfl)) (by kernel_rfl) (by kernel_rfl) (by kernel_rfl)
      (by rw [MakeChecks.laidMetH_plain _ _ _ (by kernel_rfl)]; exact laidMet_laidAll _ (by kernel_rfl) (by kernel_rfl))) ?_
  intro W base args ds gs before hval hW _ _ hL _
  exact law_contract hm pfsOK2 try_laid (by kernel_rfl) (by kernel_rfl) rfl Tryz.underlying4 (fun ds gs h1 h2 => by
    match ds, h1 with
    | [d0], _ => match gs, h2 with
      | [], _ => exact ⟨rfl, rfl, rfl⟩) hlaw (kn_of hL) hval hW
theorem bytecodeCompiles_holds : Rows.BytecodeCompilesSaid :=
  OpenClaim.holds_of_wide 3 Tryz.f3 rfl rfl rfl rfl rfl rfl rfl ⟨rfl, rfl, rfl, rfl, rfl⟩ rfl rfl rfl rfl rfl (by kernel_rfl) Tryz.func3 (by kernel_rfl)
    (of_decide_eq_true (by kernel_rfl)) (by unfold Func.isWrapper; first | (rw [if_pos (by decide +kernel)]; kernel_rfl) | (rw [if_neg (by decide +kernel)]; exact ⟨rfl, rfl⟩))
    (fun os started H enc _ => lifted os started H enc)
theorem bytecodeCompiles_card : Rows.BytecodeCompilesCardSaid :=
  Claim7.holds_tied_plain_at .later [] _ _ _ _ bytecodeCompiles_holds (fun _ h => by cases h) (by kernel_rfl) (fun _ h => by cases h) bytecodeCompiles_row_tie rfl ⟨rfl, rfl⟩ (by kernel_rfl) rfl
    (fun f fn hf hfn => by
      obtain rfl : f = 3 := Option.some.inj ((show Tryz.prog.funcNamed Rows.bytecodeCompilesRow.func = some 3 by kernel_rfl).symm.trans hf) |>.symm
      obtain rfl : fn = Tryz.f3 := (Option.some.inj (Tryz.func3.symm.trans hfn)).symm
      exact ⟨by kernel_rfl, fun j t ht => by
        rw [Tryz.params3] at ht
        have hm : t ∈ [28] := by simpa using Array.mem_of_getElem? ht
        have hall : ([28].all fun u => !Tryz.prog.wantsStandIn u) = true := by kernel_rfl
        exact (show Tryz.prog.wantsStandIn t = false by simpa using List.all_eq_true.1 hall t hm)⟩)
    (by kernel_rfl)
end Go.Proofs.Eng
namespace Go.Proofs.YtnipefcppecalaaGreatDoor
/-- The given statement. -/
theorem bytecodeCompiles_card : Rows.BytecodeCompilesCardSaid := Go.Proofs.Eng.bytecodeCompiles_card
end Go.Proofs.YtnipefcppecalaaGreatDoor
