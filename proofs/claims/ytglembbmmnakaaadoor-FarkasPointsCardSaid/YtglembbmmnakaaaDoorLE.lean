/- Equality of lists of numbers. No conditions beyond those in the theorems. -/
import Derived.Test.YtglembbmmnakaaaDoorF7
set_option linter.all false
set_option linter.deprecated false
set_option linter.unnecessarySimpa false
set_option linter.unusedVariables false
set_option linter.unusedSimpArgs false
set_option linter.defProp false
namespace Go.Proofs.Eng
open Go Go.Proofs
set_option maxRecDepth 100000
set_option maxHeartbeats 16000000
theorem equal_ret {a b : List Int} {t u : Tl} (hl : a.length ≤ lenB) : Out md pfs 14 [.sl (ints a) t, .sl (ints b) u] (· = .bool (decide (a = b))) fun _ => False := by
  refine out_of pf14_is (Nat.le_of_ble_eq_true rfl) ?_
  by_cases hab : a.length = b.length
  · have c0 : ((((ints a).length : Nat) : Int) != (((ints b).length : Nat) : Int)) = false := by rw [ints_len, ints_len, bne_eq_false_iff_eq]; omega
    simp only [pf14, ↓wpre, wset, wcore, ne_eq, if_true, if_false, exists_eq_left', true_implies, false_implies, exists_const, exists_eq_right, binA, intA, loadA, storeA, pickC, setAt, mapO, argsE, X.isC, resA, oneA, unA, boundA, eqiA, eqsA, fillA, fillE, ASt.fz, strA, Nat.reduceEqDiff, Nat.reduceLT, ↓reduceIte, reduceCtorEq, Nat.reduceAdd, Nat.reduceLeDiff, Int.reduceBEq, Int.reduceBNe, Int.reduceLT, Int.reduceLE, Int.reduceGT, Int.reduceGE, Nat.reduceDiv, Nat.reduceMul, Nat.reduceBEq, Nat.reduceMod, Nat.reduceSub, c0]
    refine W_loopE (fun j => a.length - j) (fun j E H T => E 0 = .sl (ints a) t ∧ E 1 = .sl (ints b) u ∧ E 11 = .sl (ints a) t ∧ E 12 = .int a.length ∧ E 13 = .int (j : Nat) ∧ j ≤ a.length ∧ a.take j = b.take j) ?_ 0 ⟨rfl, rfl, rfl, by show AV.int _ = _; rw [ints_len], rfl, Nat.zero_le _, rfl⟩
    rintro j E H T ⟨e0, e1, e11, e12, e13, hj, htk⟩
    rcases Nat.lt_or_ge j a.length with hlt | hge
    · have hdec : decide ((j : Int) < ((a.length : Nat) : Int)) = true := by simpa using hlt
      obtain ⟨x, q1, _, q3⟩ := ints_get hlt
      obtain ⟨y, r1, _, r3⟩ := ints_get (show j < b.length by omega)
      have ha := ints_all a
      have hb := ints_all b
      by_cases hxy : x = y
      · subst hxy
        have c1 : (x != x) = false := by simp
        simp only [↓wpre, wset, wcore, ne_eq, if_true, if_false, exists_eq_left', true_implies, false_implies, exists_const, exists_eq_right, binA, intA, loadA, storeA, pickC, setAt, mapO, argsE, X.isC, resA, oneA, unA, boundA, eqiA, eqsA, fillA, fillE, ASt.fz, strA, Nat.reduceEqDiff, Nat.reduceLT, ↓reduceIte, reduceCtorEq, Nat.reduceAdd, Nat.reduceLeDiff, Int.reduceBEq, Int.reduceBNe, Int.reduceLT, Int.reduceLE, Int.reduceGT, Int.reduceGE, Nat.reduceDiv, Nat.reduceMul, Nat.reduceBEq, Nat.reduceMod, Nat.reduceSub, e0, e1, e11, e12, e13, hdec, q3, r3, ha, hb, c1]
        exact EQ_in ⟨j + 1, by omega, e0, e1, e11, e12, next_ixv (by omega), by omega, by rw [List.take_add_one, List.take_add_one, htk, q1, r1]⟩
      · have c1 : (x != y) = true := by simp [hxy]
        simp only [↓wpre, wset, wcore, ne_eq, if_true, if_false, exists_eq_left', true_implies, false_implies, exists_const, exists_eq_right, binA, intA, loadA, storeA, pickC, setAt, mapO, argsE, X.isC, resA, oneA, unA, boundA, eqiA, eqsA, fillA, fillE, ASt.fz, strA, Nat.reduceEqDiff, Nat.reduceLT, ↓reduceIte, reduceCtorEq, Nat.reduceAdd, Nat.reduceLeDiff, Int.reduceBEq, Int.reduceBNe, Int.reduceLT, Int.reduceLE, Int.reduceGT, Int.reduceGE, Nat.reduceDiv, Nat.reduceMul, Nat.reduceBEq, Nat.reduceMod, Nat.reduceSub, e0, e1, e11, e12, e13, hdec, q3, r3, ha, hb, c1]
        rw [decide_eq_false]
        rintro rfl
        rw [q1] at r1; cases r1; exact hxy rfl
    · have hdec : decide ((j : Int) < ((a.length : Nat) : Int)) = false := by simpa using hge
      simp only [↓wpre, wset, wcore, ne_eq, if_true, if_false, exists_eq_left', true_implies, false_implies, exists_const, exists_eq_right, binA, intA, loadA, storeA, pickC, setAt, mapO, argsE, X.isC, resA, oneA, unA, boundA, eqiA, eqsA, fillA, fillE, ASt.fz, strA, Nat.reduceEqDiff, Nat.reduceLT, ↓reduceIte, reduceCtorEq, Nat.reduceAdd, Nat.reduceLeDiff, Int.reduceBEq, Int.reduceBNe, Int.reduceLT, Int.reduceLE, Int.reduceGT, Int.reduceGE, Nat.reduceDiv, Nat.reduceMul, Nat.reduceBEq, Nat.reduceMod, Nat.reduceSub, e0, e1, e11, e12, e13, hdec]
      rw [List.take_of_length_le (by omega), List.take_of_length_le (by omega)] at htk
      rw [decide_eq_true htk]
  · have c0 : ((((ints a).length : Nat) : Int) != (((ints b).length : Nat) : Int)) = true := by rw [ints_len, ints_len, bne_iff_ne]; omega
    simp only [pf14, ↓wpre, wset, wcore, ne_eq, if_true, if_false, exists_eq_left', true_implies, false_implies, exists_const, exists_eq_right, binA, intA, loadA, storeA, pickC, setAt, mapO, argsE, X.isC, resA, oneA, unA, boundA, eqiA, eqsA, fillA, fillE, ASt.fz, strA, Nat.reduceEqDiff, Nat.reduceLT, ↓reduceIte, reduceCtorEq, Nat.reduceAdd, Nat.reduceLeDiff, Int.reduceBEq, Int.reduceBNe, Int.reduceLT, Int.reduceLE, Int.reduceGT, Int.reduceGE, Nat.reduceDiv, Nat.reduceMul, Nat.reduceBEq, Nat.reduceMod, Nat.reduceSub, c0]
    rw [decide_eq_false (fun h => hab (by rw [h]))]
end Go.Proofs.Eng
