/- R9: what functions of the program return. No conditions beyond those in the theorems. -/
import Derived.Test.YtodnkbnbjhcikaaDoorJ8
import Derived.Test.YtodnkbnbjhcikaaDoorK0
import Derived.Test.YtodnkbnbjhcikaaDoorTie
import Derived.Test.YtodnkbnbjhcikaaDoorCards
import Derived.SevenTiedAt
set_option linter.all false
set_option linter.deprecated false
set_option linter.unnecessarySimpa false
set_option linter.unusedVariables false
set_option linter.unusedSimpArgs false
set_option linter.defProp false
namespace Go.Proofs.Eng
open Go Go.Proofs Go.Proofs.YtodnkbnbjhcikaaDoor
open Go.ChangeShapes Go.WideShapes Go.ChangeAt Go.RowKit
set_option maxRecDepth 100000
theorem hlaw : ∀ ls : List AV, ArgsT Tryd.prog Tryd.f9.params.toList ls → ∃ s', run md pfs 9 ls ⟨[], []⟩ = some (.ret (.v (.bool true)), s') := by
  intro ls h
  rw [show Tryd.f9.params.toList = [22, 50] from by kernel_rfl] at h
  match ls, h with
  | [_, _], ⟨⟨n0, l0, e0, h0⟩, ⟨n1, l1, e1, h1⟩, _⟩ =>
    subst e0; subst e1
    obtain ⟨cs, al, tl, rfl, k1, k2, k3⟩ := oft_cls h0
    obtain ⟨ps, ql, tp, rfl, q1, _, _⟩ := oft_slice (R := fun (i : Nat) a => a = .v (.int .u8 (i : Int)) ∧ i < 256) Tryd.underlying50 (by rw [show Tryd.prog.cellsOf 5 = 1 from by kernel_rfl]; decide) (fun n l h => by
      obtain ⟨i, rfl, hi⟩ := oft_u8 Tryd.underlying5 h
      exact ⟨i, by rw [show isAgg Tryd.prog 5 = false from by kernel_rfl]; exact ⟨rfl, hi⟩⟩) h1
    obtain ⟨rfl, p1⟩ := u8_of q1
    rw [show isAgg Tryd.prog 22 = false from by kernel_rfl, show isAgg Tryd.prog 50 = false from by kernel_rfl]
    exact law_true (cycles_law k1 (Tl.fast.pure k2) k3 p1)
theorem lifted (os : Os) (started : os.Started) (H : Type) (enc : TypeId × Value → H) :
    ReturnsInHanded {} Tryd.checked os 9 .any (fun w args => (Rows.sizechangeCyclesSpec.pre enc Tryd.prog Tryd.f9 [] false w args ∧ laidMetH Tryd.prog laid22 w) ∧ sizedMet enc Tryd.prog Tryd.f9 (OpenSpec.ofChange Rows.sizechangeCyclesSpec) false w args)
      (Rows.sizechangeCyclesSpec.post enc Tryd.prog Tryd.f9 false true false false) := by
  refine returnsInHanded_of_change_and (C := Tryd.checked) (X := fun w _ => laidMetH Tryd.prog laid22 w) (fun _ _ _ hh h => h.of_heap hh) try_own started (by kernel_rfl) Tryd.func9
    (ChangeSpec.witness_shaped (enc := enc) (C := Tryd.checked) (os := os) (X := fun w _ => laidMetH Tryd.prog laid22 w) false (World.laidAll Tryd.prog os laid22) #[.slice none 0 0, .slice none 0 0] 8 (World.laidAll_os _ _ _)
      (World.shaped_of_ZipB (by kernel_rfl) (by kernel_rfl)) (by kernel_rfl) (by kernel_rfl) (by kernel_rfl)
      (by rw [MakeChecks.laidMetH_plain _ _ _ (by kernel_rfl)]; exact laidMet_laidAll _ (by kernel_rfl) (by kernel_rfl))) ?_
  intro W base args ds gs before hval hW _ _ hL _
  exact law_contract hm pfsOK try_laid (by kernel_rfl) (by kernel_rfl) rfl Tryd.underlying4 (fun ds gs h1 h2 => by
    match ds, h1 with
    | [d0, d1], _ => match gs, h2 with
      | [], _ => exact ⟨rfl, rfl, rfl⟩) hlaw (kn_of hL) hval hW
theorem sizechangeCycles_holds : Rows.SizechangeCyclesSaid :=
  OpenClaim.holds_of_wide 9 Tryd.f9 rfl rfl rfl rfl rfl rfl rfl ⟨rfl, rfl, rfl, rfl, rfl⟩ rfl rfl rfl rfl rfl (by kernel_rfl) Tryd.func9 (by kernel_rfl)
    (of_decide_eq_true (by kernel_rfl)) (by unfold Func.isWrapper; first | (rw [if_pos (by decide +kernel)]; kernel_rfl) | (rw [if_neg (by decide +kernel)]; exact ⟨rfl, rfl⟩))
    (fun os started H enc _ => lifted os started H enc)
theorem sizechangeCycles_card : Rows.SizechangeCyclesCardSaid :=
  Claim7.holds_tied_plain_at .later [] _ _ _ _ sizechangeCycles_holds (fun _ h => by cases h) (by kernel_rfl) (fun _ h => by cases h) sizechangeCycles_row_tie rfl ⟨rfl, rfl⟩ (by kernel_rfl) rfl
    (fun f fn hf hfn => by
      obtain rfl : f = 9 := Option.some.inj ((show Tryd.prog.funcNamed Rows.sizechangeCyclesRow.func = some 9 by kernel_rfl).symm.trans hf) |>.symm
      obtain rfl : fn = Tryd.f9 := (Option.some.inj (Tryd.func9.symm.trans hfn)).symm
      exact ⟨by kernel_rfl, fun j t ht => by
        rw [Tryd.params9] at ht
        have hm : t ∈ [22, 50] := by simpa using Array.mem_of_getElem? ht
        have hall : ([22, 50].all fun u => !Tryd.prog.wantsStandIn u) = true := by kernel_rfl
        exact (show Tryd.prog.wantsStandIn t = false by simpa using List.all_eq_true.1 hall t hm)⟩)
    (by kernel_rfl)
end Go.Proofs.Eng
namespace Go.Proofs.YtodnkbnbjhcikaaDoor
/-- The given statement. -/
theorem sizechangeCycles_card : Rows.SizechangeCyclesCardSaid := Go.Proofs.Eng.sizechangeCycles_card
end Go.Proofs.YtodnkbnbjhcikaaDoor
