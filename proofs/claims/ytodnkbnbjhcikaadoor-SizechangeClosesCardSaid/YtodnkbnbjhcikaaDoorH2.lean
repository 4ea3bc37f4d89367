/- Lists of calls, decreases, equal lists of numbers. No conditions beyond those in the theorems. -/
import Derived.Test.YtodnkbnbjhcikaaDoorH1
set_option linter.all false
set_option linter.deprecated false
set_option linter.unnecessarySimpa false
set_option linter.unusedVariables false
set_option linter.unusedSimpArgs false
set_option linter.defProp false
namespace Go.Proofs.Eng
open Go Go.Proofs
set_option maxRecDepth 100000
set_option maxHeartbeats 16000000
theorem sameCalls_ret {l m : List Cl} {al bl : List AV} {t u : Tl} (h : LIs ClIs l al) (k : LIs ClIs m bl) (hl : al.length ≤ lenB) : Out md pfs 16 [.sl al t, .sl bl u] (· = .bool (decide (l = m))) fun _ => False := by
  have hal := h.all clAgg
  have hbl := k.all clAgg
  have hla := h.len
  have hlb := k.len
  refine out_of pf16_is (Nat.le_of_ble_eq_true rfl) ?_
  by_cases hn : al.length = bl.length
  case neg =>
    have d3 : ((al.length : Int) != bl.length) = true := ibne (by omega)
    have dd : decide (l = m) = false := decide_eq_false fun e => hn (by rw [e] at hla; omega)
    simp only [pf16, ↓wpre, wset, wcore, wext, ne_eq, if_true, if_false, exists_eq_left', true_implies, false_implies, exists_const, exists_eq_right, binA, intA, loadA, storeA, pickC, setAt, mapO, argsE, X.isC, resA, oneA, unA, boundA, eqiA, eqsA, fillA, fillE, ASt.fz, strA, simprocAttr, d3, dd]
  have d3 : ((al.length : Int) != bl.length) = false := ibne' (by omega)
  simp only [pf16, ↓wpre, wset, wcore, wext, ne_eq, if_true, if_false, exists_eq_left', true_implies, false_implies, exists_const, exists_eq_right, binA, intA, loadA, storeA, pickC, setAt, mapO, argsE, X.isC, resA, oneA, unA, boundA, eqiA, eqsA, fillA, fillE, ASt.fz, strA, simprocAttr, d3]
  refine W_loopE (fun j => al.length - j) (fun j E H T => E 0 = .sl al t ∧ E 1 = .sl bl u ∧ E 5 = .int (j : Nat) ∧ j ≤ al.length ∧ l.take j = m.take j) ?_ 0 ⟨rfl, rfl, rfl, Nat.zero_le _, by simp⟩
  rintro j E H T ⟨e0, e1, e5, hj, hr⟩
  rcases Nat.lt_or_ge j al.length with hlt | hge
  · have q1 := dlt hlt
    obtain ⟨c, a, g1, g2, g3, g4⟩ := cl_get h hlt
    obtain ⟨d, b, f1, f2, f3, f4⟩ := cl_get k (show j < bl.length by omega)
    obtain ⟨_, rfl, cc⟩ := (same_ret g4 f4).call rfl (by simp [pvs_cons, pvs_nil, g4.pure, f4.pure])
    obtain ⟨cl, tc, rfl, _⟩ := g4.of
    obtain ⟨dl, td, rfl, _⟩ := f4.of
    by_cases hcd : c = d
    · rw [decide_eq_true hcd] at cc
      simp only [↓wpre, wset, wcore, wext, ne_eq, if_true, if_false, exists_eq_left', true_implies, false_implies, exists_const, exists_eq_right, binA, intA, loadA, storeA, pickC, setAt, mapO, argsE, X.isC, resA, oneA, unA, boundA, eqiA, eqsA, fillA, fillE, ASt.fz, strA, simprocAttr, e0, e1, e5, q1, hal, hbl, g3, f3, cc]
      exact EQ_in ⟨j + 1, by omega, e0, e1, next_ixv (by omega), by omega, take_eq hr g1 (by rw [f1, hcd])⟩
    · rw [decide_eq_false hcd] at cc
      have dd : decide (l = m) = false := decide_eq_false (get_ne g1 f1 hcd)
      simp only [↓wpre, wset, wcore, wext, ne_eq, if_true, if_false, exists_eq_left', true_implies, false_implies, exists_const, exists_eq_right, binA, intA, loadA, storeA, pickC, setAt, mapO, argsE, X.isC, resA, oneA, unA, boundA, eqiA, eqsA, fillA, fillE, ASt.fz, strA, simprocAttr, e0, e1, e5, q1, hal, hbl, g3, f3, cc, dd]
  · have q1 := dltf hge
    have dd : decide (l = m) = true := decide_eq_true (take_all hr (by omega) (by omega))
    simp only [↓wpre, wset, wcore, wext, ne_eq, if_true, if_false, exists_eq_left', true_implies, false_implies, exists_const, exists_eq_right, binA, intA, loadA, storeA, pickC, setAt, mapO, argsE, X.isC, resA, oneA, unA, boundA, eqiA, eqsA, fillA, fillE, ASt.fz, strA, simprocAttr, e0, e1, e5, q1, dd]
end Go.Proofs.Eng
