/- The argument of FarkasBounds. No conditions beyond those in the theorems. -/
import Derived.Test.YtglembbmmnakaaaDoorL0
import Derived.Test.YtglembbmmnakaaaDoorL3
set_option linter.all false
set_option linter.deprecated false
set_option linter.unnecessarySimpa false
set_option linter.unusedVariables false
set_option linter.unusedSimpArgs false
set_option linter.defProp false
namespace Go.Proofs.Eng
open Go Go.Proofs
set_option maxRecDepth 100000
theorem oft_i16 {n : Nat} {l : List AV} (h : OfT Tryd.prog n 25 l) : ∃ i, l = [.v (.int .i16 i)] ∧ -32768 ≤ i ∧ i ≤ 32767 := by
  cases n with
  | zero => exact h.elim
  | succ n =>
    simp only [OfT, Tryd.underlying25] at h
    obtain ⟨i, rfl, hw⟩ := h
    refine ⟨i, rfl, ?_⟩
    simp [Lit.wf, IntKind.min, IntKind.max, IntKind.signed, IntKind.bits] at hw
    omega
theorem oft_pair {n : Nat} {l : List AV} (h : OfT Tryd.prog n 26 l) : ∃ p, BIs p (.agg l) := by
  cases n with
  | zero => exact h.elim
  | succ n =>
    simp only [OfT, Tryd.underlying26] at h
    rw [if_pos (by rw [show Tryd.prog.cellsOf 26 = 2 from by kernel_rfl, show Tryd.prog.cellsOf 25 = 1 from by kernel_rfl])] at h
    obtain ⟨xs, rfl, hl, hx⟩ := h
    match xs, hl with
    | [a, b], _ =>
      obtain ⟨i, rfl, hi⟩ := oft_i16 (hx a (by simp))
      obtain ⟨j, rfl, hj⟩ := oft_i16 (hx b (by simp))
      exact ⟨(i, j), rfl, hi, hj⟩
theorem oft_pairs {n : Nat} {l : List AV} (h : OfT Tryd.prog n 22 l) : ∃ (ps : List (Int × Int)) (al : List AV) (tl : Tl), l = [.sl al tl] ∧ LIs BIs ps al ∧ tl.pure = true ∧ al.length ≤ lenB :=
  oft_slice Tryd.underlying22 (by rw [show Tryd.prog.cellsOf 26 = 2 from by kernel_rfl]; decide) (fun n l h => by
    obtain ⟨p, hp⟩ := oft_pair h
    exact ⟨p, by rw [show isAgg Tryd.prog 26 = true from by kernel_rfl]; exact hp⟩) h
end Go.Proofs.Eng
