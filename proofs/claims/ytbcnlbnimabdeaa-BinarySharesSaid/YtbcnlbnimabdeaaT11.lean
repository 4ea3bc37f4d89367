/- The reference's PutTerms. No conditions beyond those in the theorems. -/
import Derived.Test.YtbcnlbnimabdeaaT10
set_option linter.all false
set_option linter.deprecated false
set_option linter.unnecessarySimpa false
set_option linter.unusedVariables false
set_option linter.unusedSimpArgs false
set_option linter.defProp false
namespace Go.Proofs.Eng
open Go Go.Proofs
set_option maxRecDepth 100000
set_option maxHeartbeats 8000000
theorem allR_subs (t : Tm) : t.allR = true → ∀ x ∈ t.subs, x.right = true := by
  induction t using Tm.ind with
  | h k i n ls kids ih =>
    intro h x hx
    rw [Tm.allR, Bool.and_eq_true] at h
    rw [Tm.subs] at hx
    rcases List.mem_cons.1 hx with rfl | hx
    · exact h.1
    · obtain ⟨y, hy, hxy⟩ := mem_subsL.1 hx
      exact ih y hy ((allRL_iff kids).1 h.2 y hy) x hxy
theorem allRL_subs {l : List Tm} (h : allRL l = true) : ∀ x ∈ subsL l, x.right = true := fun x hx => by
  obtain ⟨y, hy, hxy⟩ := mem_subsL.1 hx
  exact allR_subs y ((allRL_iff l).1 h y hy) x hxy
theorem allRL_take {l : List Tm} {j : Nat} {x : Tm} (h : allRL (l.take j) = true) (d0 : l[j]? = some x) (hx : x.allR = true) : allRL (l.take (j + 1)) = true :=
  (allRL_iff _).2 (take_next (P := fun x => x.allR = true) d0 ((allRL_iff _).1 h) hx)
/-- PutTerms' results, for terms that are neither too large nor too deep. -/
def putR (l : List Tm) : List UInt8 × Int := if allRL l = true then (putT l, 0) else ([], 3)
theorem table_ok {l : List Tm} (h : allRL l = true) : EnterOK [] (enterL [] l) (· ∈ subsL l) ∧ entL [] l = (l.map fun x => (enterL [] l).idxOf x, textT (enterL [] l)) := by
  have := enterL_ok (l := l) (fun t _ => enter_ok t) Good.nil fun x hx => (right_facts (allRL_subs h x hx)).1
  rwa [show textT [] = [] from rfl] at this
end Go.Proofs.Eng
