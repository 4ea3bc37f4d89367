/- Arguments of the laws; what is known of the start. No conditions beyond those in the theorems. -/
import Derived.Test.YtglembbmmnakaaaDoorD41
import Derived.Test.YtglembbmmnakaaaDoorG4
set_option linter.all false
set_option linter.deprecated false
set_option linter.unnecessarySimpa false
set_option linter.unusedVariables false
set_option linter.unusedSimpArgs false
set_option linter.defProp false
namespace Go.Proofs.Eng
open Go Go.Proofs
set_option maxRecDepth 100000
theorem oft_slice {α : Type} {R : α → AV → Prop} {n : Nat} {t e : TypeId} {l : List AV} (hu : Tryd.prog.underlying t = some (.slice e)) (hc : 0 < Tryd.prog.cellsOf e) (hR : ∀ n l, OfT Tryd.prog n e l → ∃ x, R x (mkE (isAgg Tryd.prog e) l)) (h : OfT Tryd.prog n t l) : ∃ (xs : List α) (al : List AV) (tl : Tl), l = [.sl al tl] ∧ LIs R xs al ∧ tl.pure = true ∧ al.length ≤ lenB := by
  cases n with
  | zero => exact h.elim
  | succ n =>
    simp only [OfT, hu, if_pos hc] at h
    obtain ⟨xs, tl, rfl, h1, h2, h3⟩ := h
    have key : ∀ xs : List (List AV), (∀ x ∈ xs, OfT Tryd.prog n e x) → ∃ ys : List α, LIs R ys (xs.map (mkE (isAgg Tryd.prog e))) := by
      intro xs
      induction xs with
      | nil => intro _; exact ⟨[], trivial⟩
      | cons x xs ih =>
        intro h
        obtain ⟨y, hy⟩ := hR n x (h x (by simp))
        obtain ⟨ys, hys⟩ := ih fun z hz => h z (by simp [hz])
        exact ⟨y :: ys, hy, hys⟩
    obtain ⟨ys, hys⟩ := key xs h3
    refine ⟨ys, _, tl, rfl, hys, ?_, by rw [List.length_map]; unfold lenB; simpa [maxLen] using h2⟩
    rcases h1 with rfl | ⟨rfl, _⟩ <;> rfl
theorem purify_v_inv {n : Nat} {s : ASt} {x : AV} {y : Value} (h : purify n s x = some (.v y)) : x = .v y := by
  cases n with
  | zero => rw [purify] at h; cases h
  | succ n =>
    unfold purify at h
    split at h
    · cases h; rfl
    · split at h
      all_goals first
        | (cases h; done)
        | (rw [Option.map_eq_some_iff] at h; obtain ⟨_, _, h⟩ := h; cases h; done)
        | skip
      split at h
      · split at h
        · rw [Option.map_eq_some_iff] at h; obtain ⟨_, _, h⟩ := h; cases h
        · cases h
      · cases h
/-- A law that returns true. -/
theorem law_true {f : FuncId} {ls : List AV} (h : Out md pfs f ls (· = .bool true) fun _ => False) : ∃ s', run md pfs f ls ⟨[], []⟩ = some (.ret (.v (.bool true)), s') := by
  obtain ⟨out, s, out', h1, h2, h3⟩ := h
  cases out' with
  | pan v => exact h3.elim
  | ret v =>
    subst h3
    cases out with
    | pan w => simp [Outc.purify] at h2
    | ret w =>
      simp only [Outc.purify, Option.map_eq_some_iff] at h2
      obtain ⟨y, h2, h3⟩ := h2
      cases h3
      exact ⟨s, by rw [h1, purify_v_inv h2]⟩
end Go.Proofs.Eng
