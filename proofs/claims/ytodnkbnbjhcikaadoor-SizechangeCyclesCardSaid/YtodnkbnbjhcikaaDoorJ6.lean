/- Closed holds of all calls. No conditions beyond those in the theorems. -/
import Derived.Test.YtodnkbnbjhcikaaDoorJ5
set_option linter.all false
set_option linter.deprecated false
set_option linter.unnecessarySimpa false
set_option linter.unusedVariables false
set_option linter.unusedSimpArgs false
set_option linter.defProp false
namespace Go.Proofs.Eng
open Go Go.Proofs
set_option maxRecDepth 100000
set_option maxHeartbeats 16000000
theorem closL_ok {l : List Cl} (h : (closL l).2 = 0) : ∃ (ar : Int → Nat) (q : List Cl), (∀ c ∈ l, Good ar c) ∧ Clo ar l q ∧ (closL l).1 = srt q := by
  unfold closL at h ⊢
  split at h
  · rename_i h1
    rw [if_pos h1]
    obtain ⟨ar, hg⟩ := check_good h1
    cases hq : cloQ l with
    | none => rw [hq] at h; simp at h
    | some q => exact ⟨ar, q, hg, clo_of hg hq, rfl⟩
  · rename_i h1
    exact absurd h h1
end Go.Proofs.Eng
