/- RE: what functions of the program return. No conditions beyond those in the theorems. -/
import Derived.Test.YtflfmkkcnphdcaaGreatKN
import Derived.Test.YtflfmkkcnphdcaaGreatHI
import Derived.JoinedCond
set_option linter.all false
set_option linter.deprecated false
set_option linter.unnecessarySimpa false
set_option linter.unusedVariables false
set_option linter.unusedSimpArgs false
set_option linter.defProp false
namespace Go.Proofs.Eng
open Go Go.Proofs Go.Proofs.YtflfmkkcnphdcaaGreat
open Go.ChangeShapes Go.WideShapes Go.ChangeAt Go.RowKit
set_option maxRecDepth 100000
theorem a0o : 0 < Tryz.prog.cellsOf 38 := by rw [show Tryz.prog.cellsOf 38 = 1 from by kernel_rfl]; decide
theorem Xo {n : Nat} {l : List AV} (h : OfT Tryz.prog n 38 l) : ∃ i, l = [.v (.int .i16 i)] /\ -32768 <= i /\ i <= 32767 := by
  cases n with
  | zero => exact h.elim
  | succ n =>
    simp only [OfT, Tryz.underlying38] at h
    obtain ⟨i, rfl, hw⟩ := h
    refine ⟨i, rfl, ?_⟩
    simp [Lit.wf, IntKind.min, IntKind.max, IntKind.signed, IntKind.bits] at hw
    omega
theorem T7 {n : Nat} {l : List AV} (h : OfT Tryz.prog n 27 l) : ∃ ul t, l = [.sl (Hz ul) t] /\ (∀ x ∈ ul, -32768 <= x /\ x <= 32767) /\ ul.length <= jj := by
  obtain ⟨xs, al, tl, rfl, h1, h2, h3⟩ := vj (R := λ (i : Int) a => a = .v (.int .i16 i) /\ -32768 <= i /\ i <= 32767) Tryz.underlying27 a0o (λ n l h => by
    obtain ⟨i, rfl, h1, h2⟩ := Xo h
    refine ⟨i, ?_, h1, h2⟩
    rw [show isAgg Tryz.prog 38 = false from by kernel_rfl]; rfl) h
  have key : ∀ (xs : List Int) (al : List AV), LIs (λ (i : Int) a => a = .v (.int .i16 i) /\ -32768 <= i /\ i <= 32767) xs al -> al = Hz xs /\ ∀ x ∈ xs, -32768 <= x /\ x <= 32767 := by
    intro xs
    induction xs with
    | nil => intro al h; match al, h with | [], _ => exact ⟨rfl, λ x hx => by cases hx⟩
    | cons x xs ih =>
      intro al h
      match al, h with
      | a :: al, ⟨⟨e, g⟩, g2⟩ =>
        obtain ⟨k1, k2⟩ := ih al g2
        refine ⟨by rw [e, k1]; rfl, λ y hy => ?_⟩
        rcases List.mem_cons.1 hy with rfl | hy
        · exact g
        · exact k2 y hy
  obtain ⟨k1, k2⟩ := key xs al h1
  subst k1
  exact ⟨xs, tl, rfl, k2, by rw [ti] at h3; exact h3⟩
theorem Rq : ∀ ls : List AV, Ks Tryz.prog Tryz.f3.params.toList ls -> ∃ s', run md yx 3 ls ⟨[], []⟩ = some (.ret (.v (.bool true)), s') := by
  intro ls h
  rw [show Tryz.f3.params.toList = [26, 27] from by kernel_rfl] at h
  match ls, h with
  | [_, _], ⟨⟨n, l, e, h⟩, ⟨n2, l2, e2, h2⟩, _⟩ =>
    subst e e2
    obtain ⟨c, hc, h1, h3⟩ := a42 h
    obtain ⟨ul, t, rfl, i1, i2⟩ := T7 h2
    rw [show isAgg Tryz.prog 26 = true from by kernel_rfl, show isAgg Tryz.prog 27 = false from by kernel_rfl]
    exact U5 (Sz hc h1 h3 i1 i2)
theorem lifted (os : Os) (started : os.Started) (H : Type) (enc : TypeId × Value -> H) :
    ReturnsInHanded {} Tryz.checked os 3 .any (Rows.vmRunsSpec.pre6 enc Tryz.prog Tryz.f3 Rows.vmRunsRow.domain false) (Rows.vmRunsSpec.post enc Tryz.prog Tryz.f3 false true false false) := by
  refine returnsInHanded_of_change (C := Tryz.checked) Z3 started (by kernel_rfl) Tryz.func3
    (ChangeSpec.witness6 (enc := enc) (C := Tryz.checked) false ⟨#[], #[.agg #[.slice none 0 0, .slice none 0 0, .slice none 0 0], .slice none 0 0], []⟩ 8 (by kernel_rfl) (by kernel_rfl) (by kernel_rfl) (by kernel_rfl)) ?_
  intro W base args ds gs before hval hW _ _
  exact I9 hm a3u Ur (by kernel_rfl) (by kernel_rfl) rfl Tryz.underlying4 (λ ds gs h1 h2 => by
    match ds, h1 with
    | [d0, d1], _ => match gs, h2 with
      | [], _ => exact ⟨rfl, rfl, rfl⟩) Rq (a7i W) hval hW
theorem vmRuns_holds : Rows.VmRunsSaid :=
  OpenClaim.holds_of_wide 3 Tryz.f3 rfl rfl rfl rfl rfl rfl rfl ⟨rfl, rfl, rfl, rfl, rfl⟩ rfl rfl rfl rfl rfl (by kernel_rfl) Tryz.func3 (by kernel_rfl)
    (of_decide_eq_true (by kernel_rfl)) (by unfold Func.isWrapper; first | (rw [if_pos (by decide +kernel)]; kernel_rfl) | (rw [if_neg (by decide +kernel)]; exact ⟨rfl, rfl⟩))
    (λ os started H enc _ => lifted os started H enc)
end Go.Proofs.Eng
namespace Go.Proofs.YtflfmkkcnphdcaaGreat
/-- The given statement. -/
theorem vmRuns_holds : Rows.VmRunsSaid := Go.Proofs.Eng.vmRuns_holds
end Go.Proofs.YtflfmkkcnphdcaaGreat
