/- R9: what functions of the program return. No conditions beyond those in the theorems. -/
import Derived.Test.YtflfmkkcnphdcaaGreatN8
import Derived.Test.YtflfmkkcnphdcaaGreatNV
import Derived.JoinedCond
set_option linter.all false
set_option linter.deprecated false
set_option linter.unnecessarySimpa false
set_option linter.unusedVariables false
set_option linter.unusedSimpArgs false
set_option linter.defProp false
namespace Go.Proofs.Eng
open Go Go.Proofs Go.Proofs.YtflfmkkcnphdcaaGreat
open Go.ChangeShapes Go.WideShapes Go.ChangeAt Go.RowKit
set_option maxRecDepth 100000
theorem a1j : ∀ ls : List AV, Ou Tryz.prog Tryz.f5.params.toList ls -> AV.nL ls <= 1048576 -> ∃ s', run md pfs 5 ls ⟨[], []⟩ = some (.ret (.v (.bool true)), s') := by
  intro ls h hb
  rw [show Tryz.f5.params.toList = [49, 5, 5] from by kernel_rfl] at h
  match ls, h with
  | [_, _, _], ⟨⟨n, l, e, h⟩, ⟨n2, l2, e2, h2⟩, ⟨n3, l3, e3, h3⟩, _⟩ =>
    subst e e2 e3
    obtain ⟨p, hp⟩ := a23 h
    obtain ⟨i, rfl, i1, i2⟩ := Tj h2
    obtain ⟨j, rfl, j1, j2⟩ := Tj h3
    rw [show isAgg Tryz.prog 49 = true from by kernel_rfl, show isAgg Tryz.prog 5 = false from by kernel_rfl] at hb ⊢
    have hn := a6y hp
    have hb : (AV.agg l).n <= 1048576 := by
      rw [AV.nL, show mkE true l = .agg l from rfl] at hb; omega
    exact Ty (Qo hp (by omega) i1 i2 j1 j2)
theorem lifted (os : Os) (started : os.Started) (H : Type) (enc : TypeId × Value -> H) (F : Stop.Interp) :
    ReturnsInHanded {} Tryz.checked os 5 .any ((Rows.OpenSpec.upto Rows.vmStopsSpec).pre6 enc Tryz.prog Tryz.f5 Rows.vmStopsUptoRow.domain false) (((Rows.OpenSpec.upto Rows.vmStopsSpec).at F).post enc Tryz.prog Tryz.f5 false true false false) := by
  refine returnsInHanded_of_cond (C := Tryz.checked) (s := Rows.OpenSpec.upto Rows.vmStopsSpec) (k := Rows.uptoSmall) rfl X7 started (by kernel_rfl) Tryz.func5
    (OpenSpec.witness (enc := enc) (C := Tryz.checked) (s := Rows.OpenSpec.upto Rows.vmStopsSpec) (k := Rows.uptoSmall) rfl false ⟨#[], #[.agg #[.slice none 0 0, .int .i64 0, .int .i64 0, .string ⟨#[]⟩, .slice none 0 0, .slice none 0 0], .int .u8 0, .int .u8 0], []⟩ 8 (by kernel_rfl) (by kernel_rfl) (by kernel_rfl)
      (x := ([.agg [.nil, .agg [.lit (.int .i64 0), .lit (.int .i64 0), .lit (.string []), .nil, .nil]], .lit (.int .u8 0), .lit (.int .u8 0)], [], [])) (by kernel_rfl) rfl (by kernel_rfl)) ?_
  intro W base args ds gs before hval hW _ hk _
  exact D5 hm a5v Ur (by kernel_rfl) (by kernel_rfl) rfl Tryz.underlying4 (fun ds gs h1 h2 => by
    match ds, h1 with
    | [d0, d1, d2], _ => match gs, h2 with
      | [], _ => exact ⟨rfl, rfl, rfl⟩) a1j (a79 W) hval hW (Vk hk)
theorem vmStops_upto : Rows.VmStopsUptoSaid :=
  OpenClaim.holds_of_cond 5 Tryz.f5 rfl rfl rfl rfl rfl rfl rfl ⟨rfl, rfl, rfl, rfl, rfl⟩ rfl rfl rfl rfl rfl (by kernel_rfl) Tryz.func5 (by kernel_rfl)
    (of_decide_eq_true (by kernel_rfl)) (by unfold Func.isWrapper; first | (rw [if_pos (by decide +kernel)]; kernel_rfl) | (rw [if_neg (by decide +kernel)]; exact ⟨rfl, rfl⟩))
    (fun os started H enc _ F => lifted os started H enc F)
end Go.Proofs.Eng
namespace Go.Proofs.YtflfmkkcnphdcaaGreat
/-- The given statement. -/
theorem vmStops_upto : Rows.VmStopsUptoSaid := Go.Proofs.Eng.vmStops_upto
end Go.Proofs.YtflfmkkcnphdcaaGreat
