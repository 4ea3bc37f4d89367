/- R11: what functions of the program return. No conditions beyond those in the theorems. -/
import Derived.Test.YtodnkbnbjhcikaaDoorLZ
import Derived.Test.YtodnkbnbjhcikaaDoorTie
import Derived.Test.YtodnkbnbjhcikaaDoorCards
import Derived.SevenTiedAt
set_option linter.all false
set_option linter.deprecated false
set_option linter.unnecessarySimpa false
set_option linter.unusedVariables false
set_option linter.unusedSimpArgs false
set_option linter.defProp false
namespace Go.Proofs.Eng
open Go Go.Proofs Go.Proofs.YtodnkbnbjhcikaaDoor
open Go.ChangeShapes Go.WideShapes Go.ChangeAt Go.RowKit
set_option maxRecDepth 100000
theorem hlaw : ∀ ls : List AV, ArgsT Tryd.prog Tryd.f11.params.toList ls → (∀ al t ls', ls = .sl al t :: ls' → al.length * Tryd.prog.bytesOf 33 ≤ reachBytes) → ∃ s', run T.md T.pfs 11 ls ⟨[], []⟩ = some (.ret (.v (.bool true)), s') := by
  intro ls h hs
  rw [show Tryd.f11.params.toList = [22] from by kernel_rfl] at h
  match ls, h with
  | [_], ⟨⟨n0, l0, e0, h0⟩, _⟩ =>
    subst e0
    obtain ⟨cs, al, tl, rfl, k1, k2, k3⟩ := oft_cls h0
    rw [show isAgg Tryd.prog 22 = false from by kernel_rfl] at hs ⊢
    have h1 := hs al tl [] rfl
    rw [show Tryd.prog.bytesOf 33 = 40 from by kernel_rfl] at h1
    unfold reachBytes at h1
    exact law_trueG (T.refused_law k1 (Tl.fast.pure k2) (by omega))
theorem lifted (os : Os) (started : os.Started) (H : Type) (enc : TypeId × Value → H) :
    ReturnsInHanded {} Tryd.checked os 11 .any (fun w args => (Rows.topSizeChangeRefusedSpec.pre enc Tryd.prog Tryd.f11 [] false w args ∧ laidMetH Tryd.prog laid22 w) ∧ sizedMet enc Tryd.prog Tryd.f11 (OpenSpec.ofChange Rows.topSizeChangeRefusedSpec) false w args)
      (Rows.topSizeChangeRefusedSpec.post enc Tryd.prog Tryd.f11 false true false false) := by
  refine returnsInHanded_of_change_and (C := Tryd.checked) (X := fun w _ => laidMetH Tryd.prog laid22 w) (fun _ _ _ hh h => h.of_heap hh) try_own started (by kernel_rfl) Tryd.func11
    (ChangeSpec.witness_shaped (enc := enc) (C := Tryd.checked) (os := os) (X := fun w _ => laidMetH Tryd.prog laid22 w) false (World.laidAll Tryd.prog os laid22) #[.slice none 0 0] 8 (World.laidAll_os _ _ _)
      (World.shaped_of_ZipB (by kernel_rfl) (by kernel_rfl)) (by kernel_rfl) (by kernel_rfl) (by kernel_rfl)
      (by rw [MakeChecks.laidMetH_plain _ _ _ (by kernel_rfl)]; exact laidMet_laidAll _ (by kernel_rfl) (by kernel_rfl))) ?_
  intro W base args ds gs before hval hW _ hwt hL _
  exact law_contract_sz hm T.pfsOK try_laid (by kernel_rfl) (by kernel_rfl) rfl Tryd.underlying4 (fun ds gs h1 h2 => by
    match ds, h1 with
    | [d0], _ => match gs, h2 with
      | [], _ => exact ⟨rfl, rfl, rfl⟩) (t0 := 22) (e0 := 33) (ts0 := []) (by kernel_rfl) Tryd.underlying22 hlaw (kn_of hL) hval hW hwt
theorem topSizeChangeRefused_holds : Rows.TopSizeChangeRefusedSaid :=
  OpenClaim.holds_of_wide 11 Tryd.f11 rfl rfl rfl rfl rfl rfl rfl ⟨rfl, rfl, rfl, rfl, rfl⟩ rfl rfl rfl rfl rfl (by kernel_rfl) Tryd.func11 (by kernel_rfl)
    (of_decide_eq_true (by kernel_rfl)) (by unfold Func.isWrapper; first | (rw [if_pos (by decide +kernel)]; kernel_rfl) | (rw [if_neg (by decide +kernel)]; exact ⟨rfl, rfl⟩))
    (fun os started H enc _ => lifted os started H enc)
theorem topSizeChangeRefused_card : Rows.TopSizeChangeRefusedCardSaid :=
  Claim7.holds_tied_plain_at .later [] _ _ _ _ topSizeChangeRefused_holds (fun _ h => by cases h) (by kernel_rfl) (fun _ h => by cases h) topSizeChangeRefused_row_tie rfl ⟨rfl, rfl⟩ (by kernel_rfl) rfl
    (fun f fn hf hfn => by
      obtain rfl : f = 11 := Option.some.inj ((show Tryd.prog.funcNamed Rows.topSizeChangeRefusedRow.func = some 11 by kernel_rfl).symm.trans hf) |>.symm
      obtain rfl : fn = Tryd.f11 := (Option.some.inj (Tryd.func11.symm.trans hfn)).symm
      exact ⟨by kernel_rfl, fun j t ht => by
        rw [Tryd.params11] at ht
        have hm : t ∈ [22] := by simpa using Array.mem_of_getElem? ht
        have hall : ([22].all fun u => !Tryd.prog.wantsStandIn u) = true := by kernel_rfl
        exact (show Tryd.prog.wantsStandIn t = false by simpa using List.all_eq_true.1 hall t hm)⟩)
    (by kernel_rfl)
end Go.Proofs.Eng
namespace Go.Proofs.YtodnkbnbjhcikaaDoor
/-- The given statement. -/
theorem topSizeChangeRefused_card : Rows.TopSizeChangeRefusedCardSaid := Go.Proofs.Eng.topSizeChangeRefused_card
end Go.Proofs.YtodnkbnbjhcikaaDoor
