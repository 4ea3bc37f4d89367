/- The reference's check of calls. No conditions beyond those in the theorems. -/
import Derived.Test.YtodnkbnbjhcikaaDoorH5
set_option linter.all false
set_option linter.deprecated false
set_option linter.unnecessarySimpa false
set_option linter.unusedVariables false
set_option linter.unusedSimpArgs false
set_option linter.defProp false
namespace Go.Proofs.Eng
open Go Go.Proofs
set_option maxRecDepth 100000
set_option maxHeartbeats 16000000
structure KnL (L ps : List (Int × Int)) : Prop where
  cons : consB ps = true
  mem : ∀ p, p ∈ L ↔ p ∈ ps
theorem KnL.old {L ps : List (Int × Int)} (h : KnL L ps) {p : Int × Int} (hp : p ∈ L) : KnL L (ps ++ [p]) := by
  refine ⟨?_, fun q => ?_⟩
  · rw [consB_snoc h.cons, List.all_eq_true]
    intro q hq
    by_cases e : q.1 = p.1
    · have := consB_iff.1 h.cons q hq p ((h.mem p).1 hp) e
      simp [this]
    · simp [e]
  · rw [List.mem_append, ← h.mem]
    simp only [List.mem_singleton]
    constructor
    · exact .inl
    · rintro (h' | rfl)
      · exact h'
      · exact hp
theorem KnL.new {L ps : List (Int × Int)} (h : KnL L ps) {p : Int × Int} (hp : ∀ q ∈ L, q.1 ≠ p.1) : KnL (L ++ [p]) (ps ++ [p]) := by
  refine ⟨?_, fun q => ?_⟩
  · rw [consB_snoc h.cons, List.all_eq_true]
    intro q hq
    have := hp q ((h.mem q).2 hq)
    simp [this]
  · rw [List.mem_append, List.mem_append, h.mem]
theorem KnL.bad {L ps qs : List (Int × Int)} (h : KnL L ps) {p q : Int × Int} (hq : q ∈ L) (h1 : q.1 = p.1) (h2 : q.2 ≠ p.2) : consB (ps ++ p :: qs) = false := by
  cases e : consB (ps ++ p :: qs) with
  | false => rfl
  | true => exact absurd (consB_iff.1 e q (List.mem_append_left _ ((h.mem q).1 hq)) p (by simp) h1) h2
theorem KnL.nil : KnL [] [] := ⟨rfl, fun _ => Iff.rfl⟩
end Go.Proofs.Eng
