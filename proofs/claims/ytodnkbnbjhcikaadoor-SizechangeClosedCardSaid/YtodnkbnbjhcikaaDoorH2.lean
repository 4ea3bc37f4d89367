/- Lists of calls, decreases, equal lists of numbers. No conditions beyond those in the theorems. -/
import Derived.Test.YtodnkbnbjhcikaaDoorH1
set_option linter.all false
set_option linter.deprecated false
set_option linter.unnecessarySimpa false
set_option linter.unusedVariables false
set_option linter.unusedSimpArgs false
set_option linter.defProp false
namespace Go.Proofs.Eng
open Go Go.Proofs
set_option maxRecDepth 100000
set_option maxHeartbeats 16000000
theorem has_ret {l : List Cl} {c : Cl} {al : List AV} {t : Tl} {a : AV} (h : LIs ClIs l al) (k : ClIs c a) (hl : al.length ≤ lenB) : Out md pfs 23 [.sl al t, a] (· = .bool (decide (c ∈ l))) fun _ => False := by
  have hal := h.all clAgg
  have hla := h.len
  obtain ⟨cl, tc, rfl, k1, k2, k3, k4, k5⟩ := k.of
  refine out_of pf23_is (Nat.le_of_ble_eq_true rfl) ?_
  simp only [pf23, ↓wpre, wset, wcore, wext, ne_eq, if_true, if_false, exists_eq_left', true_implies, false_implies, exists_const, exists_eq_right, binA, intA, loadA, storeA, pickC, setAt, mapO, argsE, X.isC, resA, oneA, unA, boundA, eqiA, eqsA, fillA, fillE, ASt.fz, strA, simprocAttr]
  refine W_loopE (fun j => al.length - j) (fun j E H T => E 0 = .sl al t ∧ E 3 = .ptr 0 0 ∧ H[0]? = some (.cells false [.int c.f, .int c.t, .sl cl tc]) ∧ E 5 = .int (j : Nat) ∧ j ≤ al.length ∧ ∀ x ∈ l.take j, ¬ x = c) ?_ 0 ⟨rfl, rfl, rfl, rfl, Nat.zero_le _, by simp⟩
  rintro j E H T ⟨e0, e3, h0, e5, hj, hr⟩
  rcases Nat.lt_or_ge j al.length with hlt | hge
  · have q1 := dlt hlt
    obtain ⟨d, b, g1, g2, g3, g4⟩ := cl_get h hlt
    obtain ⟨_, rfl, cc⟩ := (same_ret g4 k).call rfl (by simp [pvs_cons, pvs_nil, g4.pure, k.pure])
    obtain ⟨dl, td, rfl, _⟩ := g4.of
    by_cases hcd : d = c
    · rw [decide_eq_true hcd] at cc
      have dd : decide (c ∈ l) = true := decide_eq_true (hcd ▸ g2)
      simp only [↓wpre, wset, wcore, wext, ne_eq, if_true, if_false, exists_eq_left', true_implies, false_implies, exists_const, exists_eq_right, binA, intA, loadA, storeA, pickC, setAt, mapO, argsE, X.isC, resA, oneA, unA, boundA, eqiA, eqsA, fillA, fillE, ASt.fz, strA, simprocAttr, e0, e3, h0, e5, q1, hal, g3, cc, dd]
    · rw [decide_eq_false hcd] at cc
      simp only [↓wpre, wset, wcore, wext, ne_eq, if_true, if_false, exists_eq_left', true_implies, false_implies, exists_const, exists_eq_right, binA, intA, loadA, storeA, pickC, setAt, mapO, argsE, X.isC, resA, oneA, unA, boundA, eqiA, eqsA, fillA, fillE, ASt.fz, strA, simprocAttr, e0, e3, h0, e5, q1, hal, g3, cc]
      exact EQ_in ⟨j + 1, by omega, e0, e3, h0, next_ixv (by omega), by omega, all_snoc hr g1 hcd⟩
  · have q1 := dltf hge
    rw [List.take_of_length_le (by omega)] at hr
    have dd : decide (c ∈ l) = false := decide_eq_false fun e => hr c e rfl
    simp only [↓wpre, wset, wcore, wext, ne_eq, if_true, if_false, exists_eq_left', true_implies, false_implies, exists_const, exists_eq_right, binA, intA, loadA, storeA, pickC, setAt, mapO, argsE, X.isC, resA, oneA, unA, boundA, eqiA, eqsA, fillA, fillE, ASt.fz, strA, simprocAttr, e0, e3, h0, e5, q1, dd]
end Go.Proofs.Eng
