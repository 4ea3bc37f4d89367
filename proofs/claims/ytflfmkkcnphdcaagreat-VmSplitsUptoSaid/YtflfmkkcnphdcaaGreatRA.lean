/- RA: what functions of the program return. No conditions beyond those in the theorems. -/
import Derived.Test.YtflfmkkcnphdcaaGreatN8
import Derived.Test.YtflfmkkcnphdcaaGreatNW
import Derived.JoinedCond
set_option linter.all false
set_option linter.deprecated false
set_option linter.unnecessarySimpa false
set_option linter.unusedVariables false
set_option linter.unusedSimpArgs false
set_option linter.defProp false
namespace Go.Proofs.Eng
open Go Go.Proofs Go.Proofs.YtflfmkkcnphdcaaGreat
open Go.ChangeShapes Go.WideShapes Go.ChangeAt Go.RowKit
set_option maxRecDepth 100000
theorem a60 : 0 < Tryz.prog.cellsOf 5 := by rw [show Tryz.prog.cellsOf 5 = 1 from by kernel_rfl]; decide
theorem Ys {n : Nat} {l : List AV} (h : OfT Tryz.prog n 50 l) : ∃ ul t, l = [.sl (u8s ul) t] /\ (∀ x ∈ ul, x < 256) /\ ul.length <= j7 := by
  obtain ⟨xs, al, tl, rfl, h1, h2, h3⟩ := C5 (R := λ (i : Nat) a => a = .v (.int .u8 (i : Nat)) /\ i < 256) Tryz.underlying50 a60 (λ n l h => by
    obtain ⟨i, rfl, h1, h2⟩ := a65 h
    refine ⟨i.toNat, ?_, by omega⟩
    rw [show isAgg Tryz.prog 5 = false from by kernel_rfl, Int.toNat_of_nonneg h1]; rfl) h
  have key : ∀ (xs : List Nat) (al : List AV), LIs (λ (i : Nat) a => a = .v (.int .u8 (i : Nat)) /\ i < 256) xs al -> al = u8s xs /\ ∀ x ∈ xs, x < 256 := by
    intro xs
    induction xs with
    | nil => intro al h; match al, h with | [], _ => exact ⟨rfl, λ x hx => by cases hx⟩
    | cons x xs ih =>
      intro al h
      match al, h with
      | a :: al, ⟨⟨e, g⟩, g2⟩ =>
        obtain ⟨k1, k2⟩ := ih al g2
        refine ⟨by rw [e, k1]; rfl, λ y hy => ?_⟩
        rcases List.mem_cons.1 hy with rfl | hy
        · exact g
        · exact k2 y hy
  obtain ⟨k1, k2⟩ := key xs al h1
  subst k1
  exact ⟨xs, tl, rfl, k2, by rw [zd] at h3; exact h3⟩
theorem a5m : ∀ ls : List AV, Ok Tryz.prog Tryz.f4.params.toList ls -> AV.nL ls <= 1048576 -> ∃ s', run md pfs 4 ls ⟨[], []⟩ = some (.ret (.v (.bool true)), s') := by
  intro ls h hb
  rw [show Tryz.f4.params.toList = [49, 50] from by kernel_rfl] at h
  match ls, h with
  | [_, _], ⟨⟨n, l, e, h⟩, ⟨n2, l2, e2, h2⟩, _⟩ =>
    subst e e2
    obtain ⟨p, hp⟩ := a5w h
    obtain ⟨ul, t, rfl, i1, i2⟩ := Ys h2
    rw [show isAgg Tryz.prog 49 = true from by kernel_rfl, show isAgg Tryz.prog 50 = false from by kernel_rfl] at hb ⊢
    have hn := a8e hp
    have hb : (AV.agg l).n <= 1048576 := by
      rw [AV.nL, show mkE true l = .agg l from rfl] at hb; omega
    exact Tq (N4 hp (by omega) i1 i2)
theorem lifted (os : Os) (started : os.Started) (H : Type) (enc : TypeId × Value -> H) (F : Stop.Interp) :
    ReturnsInHanded {} Tryz.checked os 4 .any ((Rows.OpenSpec.upto Rows.vmSplitsSpec).pre6 enc Tryz.prog Tryz.f4 Rows.vmSplitsUptoRow.domain false) (((Rows.OpenSpec.upto Rows.vmSplitsSpec).at F).post enc Tryz.prog Tryz.f4 false true false false) := by
  refine returnsInHanded_of_cond (C := Tryz.checked) (s := Rows.OpenSpec.upto Rows.vmSplitsSpec) (k := Rows.uptoSmall) rfl Yu started (by kernel_rfl) Tryz.func4
    (OpenSpec.witness (enc := enc) (C := Tryz.checked) (s := Rows.OpenSpec.upto Rows.vmSplitsSpec) (k := Rows.uptoSmall) rfl false ⟨#[], #[.agg #[.slice none 0 0, .int .i64 0, .int .i64 0, .string ⟨#[]⟩, .slice none 0 0, .slice none 0 0], .slice none 0 0], []⟩ 8 (by kernel_rfl) (by kernel_rfl) (by kernel_rfl)
      (x := ([.agg [.nil, .agg [.lit (.int .i64 0), .lit (.int .i64 0), .lit (.string []), .nil, .nil]], .nil], [], [])) (by kernel_rfl) rfl (by kernel_rfl)) ?_
  intro W base args ds gs before hval hW _ hk _
  exact Dk hm a6p Tj (by kernel_rfl) (by kernel_rfl) rfl Tryz.underlying4 (λ ds gs h1 h2 => by
    match ds, h1 with
    | [d0, d1], _ => match gs, h2 with
      | [], _ => exact ⟨rfl, rfl, rfl⟩) a5m (a8g W) hval hW (Wr hk)
theorem vmSplits_upto : Rows.VmSplitsUptoSaid :=
  OpenClaim.holds_of_cond 4 Tryz.f4 rfl rfl rfl rfl rfl rfl rfl ⟨rfl, rfl, rfl, rfl, rfl⟩ rfl rfl rfl rfl rfl (by kernel_rfl) Tryz.func4 (by kernel_rfl)
    (of_decide_eq_true (by kernel_rfl)) (by unfold Func.isWrapper; first | (rw [if_pos (by decide +kernel)]; kernel_rfl) | (rw [if_neg (by decide +kernel)]; exact ⟨rfl, rfl⟩))
    (λ os started H enc _ F => lifted os started H enc F)
end Go.Proofs.Eng
namespace Go.Proofs.YtflfmkkcnphdcaaGreat
/-- The given statement. -/
theorem vmSplits_upto : Rows.VmSplitsUptoSaid := Go.Proofs.Eng.vmSplits_upto
end Go.Proofs.YtflfmkkcnphdcaaGreat
