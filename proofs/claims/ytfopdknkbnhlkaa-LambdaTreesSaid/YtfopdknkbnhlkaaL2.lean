/- L2: what functions of the program return. No conditions beyond those in the theorems. -/
import Derived.Test.YtfopdknkbnhlkaaD2
set_option linter.all false
set_option linter.deprecated false
set_option linter.unnecessarySimpa false
set_option linter.unusedVariables false
set_option linter.unusedSimpArgs false
set_option linter.defProp false
namespace Go.Proofs.Eng
open Go Go.Proofs Go.Proofs.Ytfopdknkbnhlkaa
set_option maxRecDepth 100000
theorem cells56 : 0 < Try.prog.cellsOf 56 := by rw [show Try.prog.cellsOf 56 = 2 from by kernel_rfl]; decide
theorem oft_dt : ∀ (n : Nat) (l : List AV), OfT Try.prog n 56 l → ∃ e : Dt, e.Is (.agg l)
  | 0, _, h => h.elim
  | 1, l, h => by
    simp only [OfT, Try.underlying56] at h
    rw [if_pos (by kernel_rfl)] at h
    obtain ⟨xs, rfl, hl, hx⟩ := h
    obtain ⟨a, b, rfl⟩ := two hl
    exact (hx 0 _ a rfl rfl).elim
  | n + 2, l, h => by
    unfold OfT at h
    simp only [Try.underlying56] at h
    rw [if_pos (by kernel_rfl)] at h
    obtain ⟨xs, rfl, hl, hx⟩ := h
    obtain ⟨a, b, rfl⟩ := two hl
    obtain ⟨nm, rfl, hn⟩ := oft_str (hx 0 _ a rfl rfl)
    have he : OfT Try.prog (n + 1) 54 b := hx 1 _ b rfl rfl
    unfold OfT at he
    simp only [Try.underlying54] at he
    rw [if_pos cells56] at he
    obtain ⟨ys, t2, rfl, g1, g2, g3⟩ := he
    have key : ∀ ys : List (List AV), (∀ x ∈ ys, OfT Try.prog n 56 x) → ∃ kids : List Dt, LIs Dt.Is kids (ys.map (mkE (isAgg Try.prog 56))) := by
      intro ys
      induction ys with
      | nil => intro _; exact ⟨[], trivial⟩
      | cons x xs ih =>
        intro h
        obtain ⟨y, hy⟩ := oft_dt n x (h x (by simp))
        obtain ⟨ys, hys⟩ := ih fun z hz => h z (by simp [hz])
        exact ⟨y :: ys, by rw [show isAgg Try.prog 56 = true from by kernel_rfl]; exact hy, hys⟩
    obtain ⟨kids, hk⟩ := key ys g3
    exact ⟨.mk nm kids, Dt.Is.mk (by rcases g1 with rfl | ⟨rfl, _⟩ <;> rfl) hn (by rw [List.length_map]; unfold lenB; simpa [maxLen] using g2) hk⟩
end Go.Proofs.Eng
