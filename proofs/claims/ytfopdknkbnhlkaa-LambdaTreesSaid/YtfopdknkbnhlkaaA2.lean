/- A2: what functions of the program return. No conditions beyond those in the theorems. -/
import Derived.Test.YtfopdknkbnhlkaaD55
set_option linter.all false
set_option linter.deprecated false
set_option linter.unnecessarySimpa false
set_option linter.unusedVariables false
set_option linter.unusedSimpArgs false
set_option linter.defProp false
namespace Go.Proofs.Eng
open Go Go.Proofs
set_option maxRecDepth 100000
/-- How many variables a node binds in a kid. -/
def under (k : Int) (s : List Int) (j : Nat) : Int := if k = 1 ∨ k = 7 ∧ j = 1 then 1 else if k = 4 ∧ 1 ≤ j ∧ j ≤ s.length then (if s.getD (j - 1) 0 > 0 then s.getD (j - 1) 0 else 0) else 0
theorem under_ret (k i : Int) (n : ByteArray) (s : List Int) (t1 t2 : Tl) (kas : List AV) (j : Nat) (hj : j ≤ lenB) (hs : s.length ≤ lenB) : Out md pfs 72 [.agg [.int k, .int i, .str n, .sl (ints s) t1, .sl kas t2], .int j] (· = .int (under k s j)) fun _ => False := by
  refine out_of pf72_is (Nat.le_of_ble_eq_true rfl) ?_
  cases h1 : (k == 1)
  · cases h7 : (k == 7)
    · cases h4 : (k == 4)
      · simp only [pf72, ↓wpre, wset, wcore, ne_eq, if_true, if_false, exists_eq_left', true_implies, false_implies, exists_const, exists_eq_right, binA, intA, loadA, storeA, pickC, setAt, mapO, argsE, X.isC, resA, oneA, unA, boundA, eqiA, eqsA, fillA, fillE, ASt.fz, strA, Nat.reduceEqDiff, Nat.reduceLT, ↓reduceIte, reduceCtorEq, Nat.reduceAdd, Nat.reduceLeDiff, Int.reduceBEq, Int.reduceBNe, Int.reduceLT, Int.reduceLE, Int.reduceGT, Int.reduceGE, Nat.reduceDiv, Nat.reduceMul, h1, h7, h4]
        simp at h1 h7 h4
        simp [under, h1, h7, h4]
      · cases hj1 : decide ((j : Int) ≥ 1)
        · simp only [pf72, ↓wpre, wset, wcore, ne_eq, if_true, if_false, exists_eq_left', true_implies, false_implies, exists_const, exists_eq_right, binA, intA, loadA, storeA, pickC, setAt, mapO, argsE, X.isC, resA, oneA, unA, boundA, eqiA, eqsA, fillA, fillE, ASt.fz, strA, Nat.reduceEqDiff, Nat.reduceLT, ↓reduceIte, reduceCtorEq, Nat.reduceAdd, Nat.reduceLeDiff, Int.reduceBEq, Int.reduceBNe, Int.reduceLT, Int.reduceLE, Int.reduceGT, Int.reduceGE, Nat.reduceDiv, Nat.reduceMul, h1, h7, h4, hj1]
          simp at h1 h7 hj1
          simp [under, h1, h7, show ¬ 1 ≤ j by omega]
        · cases hj2 : decide ((j : Int) ≤ ((ints s).length : Int))
          · simp only [pf72, ↓wpre, wset, wcore, ne_eq, if_true, if_false, exists_eq_left', true_implies, false_implies, exists_const, exists_eq_right, binA, intA, loadA, storeA, pickC, setAt, mapO, argsE, X.isC, resA, oneA, unA, boundA, eqiA, eqsA, fillA, fillE, ASt.fz, strA, Nat.reduceEqDiff, Nat.reduceLT, ↓reduceIte, reduceCtorEq, Nat.reduceAdd, Nat.reduceLeDiff, Int.reduceBEq, Int.reduceBNe, Int.reduceLT, Int.reduceLE, Int.reduceGT, Int.reduceGE, Nat.reduceDiv, Nat.reduceMul, h1, h7, h4, hj1, hj2]
            simp [ints_len] at h1 h7 hj1 hj2
            simp [under, h1, h7, show ¬ j ≤ s.length by omega]
          · have hw : IntKind.i64.wrap ((j : Int) - 1) = ((j - 1 : Nat) : Int) := by
              simp at hj1
              rw [wrap_in (by unfold in64; unfold lenB at hj; omega)]; omega
            simp [ints_len] at hj1 hj2
            obtain ⟨x, g1, g2, g3⟩ := ints_get (l := s) (i := j - 1) (by omega)
            have hj1' : decide ((j : Int) ≥ 1) = true := by simp; omega
            have hj2' : decide ((j : Int) ≤ ((ints s).length : Int)) = true := by simp [ints_len]; omega
            simp only [pf72, ↓wpre, wset, wcore, ne_eq, if_true, if_false, exists_eq_left', true_implies, false_implies, exists_const, exists_eq_right, binA, intA, loadA, storeA, pickC, setAt, mapO, argsE, X.isC, resA, oneA, unA, boundA, eqiA, eqsA, fillA, fillE, ASt.fz, strA, Nat.reduceEqDiff, Nat.reduceLT, ↓reduceIte, reduceCtorEq, Nat.reduceAdd, Nat.reduceLeDiff, Int.reduceBEq, Int.reduceBNe, Int.reduceLT, Int.reduceLE, Int.reduceGT, Int.reduceGE, Nat.reduceDiv, Nat.reduceMul, h1, h7, h4, hj1', hj2', hw, g3, ints_all, Int.natCast_nonneg, gt_iff_lt]
            simp at h1 h7 h4
            have : s.getD (j - 1) 0 = x := by simp [List.getD, g1]
            simp only [under, h1, h7, h4, this, hj1, hj2]
            simp [show 1 ≤ j by omega]
    · cases hj1 : ((j : Int) == 1)
      · simp at h7
        subst h7
        simp only [pf72, ↓wpre, wset, wcore, ne_eq, if_true, if_false, exists_eq_left', true_implies, false_implies, exists_const, exists_eq_right, binA, intA, loadA, storeA, pickC, setAt, mapO, argsE, X.isC, resA, oneA, unA, boundA, eqiA, eqsA, fillA, fillE, ASt.fz, strA, Nat.reduceEqDiff, Nat.reduceLT, ↓reduceIte, reduceCtorEq, Nat.reduceAdd, Nat.reduceLeDiff, Int.reduceBEq, Int.reduceBNe, Int.reduceLT, Int.reduceLE, Int.reduceGT, Int.reduceGE, Nat.reduceDiv, Nat.reduceMul, h1, hj1]
        simp at hj1
        simp [under, show ¬ j = 1 by omega]
      · simp only [pf72, ↓wpre, wset, wcore, ne_eq, if_true, if_false, exists_eq_left', true_implies, false_implies, exists_const, exists_eq_right, binA, intA, loadA, storeA, pickC, setAt, mapO, argsE, X.isC, resA, oneA, unA, boundA, eqiA, eqsA, fillA, fillE, ASt.fz, strA, Nat.reduceEqDiff, Nat.reduceLT, ↓reduceIte, reduceCtorEq, Nat.reduceAdd, Nat.reduceLeDiff, Int.reduceBEq, Int.reduceBNe, Int.reduceLT, Int.reduceLE, Int.reduceGT, Int.reduceGE, Nat.reduceDiv, Nat.reduceMul, h1, h7, hj1]
        simp at h7 hj1
        simp [under, h7, show j = 1 by omega]
  · simp only [pf72, ↓wpre, wset, wcore, ne_eq, if_true, if_false, exists_eq_left', true_implies, false_implies, exists_const, exists_eq_right, binA, intA, loadA, storeA, pickC, setAt, mapO, argsE, X.isC, resA, oneA, unA, boundA, eqiA, eqsA, fillA, fillE, ASt.fz, strA, Nat.reduceEqDiff, Nat.reduceLT, ↓reduceIte, reduceCtorEq, Nat.reduceAdd, Nat.reduceLeDiff, Int.reduceBEq, Int.reduceBNe, Int.reduceLT, Int.reduceLE, Int.reduceGT, Int.reduceGE, Nat.reduceDiv, Nat.reduceMul, h1]
    simp at h1
    simp [under, h1]
theorem binds_ret (k i : Int) (n : ByteArray) (s : List Int) (t1 t2 : Tl) (kas : List AV) (j : Nat) (hj : j ≤ lenB) (hs : s.length ≤ lenB) : Out md pfs 75 [.agg [.int k, .int i, .str n, .sl (ints s) t1, .sl kas t2], .int j] (· = .int (under k s j)) fun _ => False := by
  refine out_of pf75_is (Nat.le_of_ble_eq_true rfl) ?_
  cases h1 : (k == 1)
  · cases h7 : (k == 7)
    · cases h4 : (k == 4)
      · simp only [pf75, ↓wpre, wset, wcore, ne_eq, if_true, if_false, exists_eq_left', true_implies, false_implies, exists_const, exists_eq_right, binA, intA, loadA, storeA, pickC, setAt, mapO, argsE, X.isC, resA, oneA, unA, boundA, eqiA, eqsA, fillA, fillE, ASt.fz, strA, Nat.reduceEqDiff, Nat.reduceLT, ↓reduceIte, reduceCtorEq, Nat.reduceAdd, Nat.reduceLeDiff, Int.reduceBEq, Int.reduceBNe, Int.reduceLT, Int.reduceLE, Int.reduceGT, Int.reduceGE, Nat.reduceDiv, Nat.reduceMul, h1, h7, h4]
        simp at h1 h7 h4
        simp [under, h1, h7, h4]
      · cases hj1 : decide ((j : Int) > 0)
        · simp only [pf75, ↓wpre, wset, wcore, ne_eq, if_true, if_false, exists_eq_left', true_implies, false_implies, exists_const, exists_eq_right, binA, intA, loadA, storeA, pickC, setAt, mapO, argsE, X.isC, resA, oneA, unA, boundA, eqiA, eqsA, fillA, fillE, ASt.fz, strA, Nat.reduceEqDiff, Nat.reduceLT, ↓reduceIte, reduceCtorEq, Nat.reduceAdd, Nat.reduceLeDiff, Int.reduceBEq, Int.reduceBNe, Int.reduceLT, Int.reduceLE, Int.reduceGT, Int.reduceGE, Nat.reduceDiv, Nat.reduceMul, h1, h7, h4, hj1]
          simp at h1 h7 hj1
          simp [under, h1, h7, show ¬ 1 ≤ j by omega]
        · cases hj2 : decide ((j : Int) ≤ ((ints s).length : Int))
          · simp only [pf75, ↓wpre, wset, wcore, ne_eq, if_true, if_false, exists_eq_left', true_implies, false_implies, exists_const, exists_eq_right, binA, intA, loadA, storeA, pickC, setAt, mapO, argsE, X.isC, resA, oneA, unA, boundA, eqiA, eqsA, fillA, fillE, ASt.fz, strA, Nat.reduceEqDiff, Nat.reduceLT, ↓reduceIte, reduceCtorEq, Nat.reduceAdd, Nat.reduceLeDiff, Int.reduceBEq, Int.reduceBNe, Int.reduceLT, Int.reduceLE, Int.reduceGT, Int.reduceGE, Nat.reduceDiv, Nat.reduceMul, h1, h7, h4, hj1, hj2]
            simp [ints_len] at h1 h7 hj1 hj2
            simp [under, h1, h7, show ¬ j ≤ s.length by omega]
          · have hw : IntKind.i64.wrap ((j : Int) - 1) = ((j - 1 : Nat) : Int) := by
              simp at hj1
              rw [wrap_in (by unfold in64; unfold lenB at hj; omega)]; omega
            simp [ints_len] at hj1 hj2
            obtain ⟨x, g1, g2, g3⟩ := ints_get (l := s) (i := j - 1) (by omega)
            have hj1' : decide ((j : Int) > 0) = true := by simp; omega
            have hj2' : decide ((j : Int) ≤ ((ints s).length : Int)) = true := by simp [ints_len]; omega
            simp only [pf75, ↓wpre, wset, wcore, ne_eq, if_true, if_false, exists_eq_left', true_implies, false_implies, exists_const, exists_eq_right, binA, intA, loadA, storeA, pickC, setAt, mapO, argsE, X.isC, resA, oneA, unA, boundA, eqiA, eqsA, fillA, fillE, ASt.fz, strA, Nat.reduceEqDiff, Nat.reduceLT, ↓reduceIte, reduceCtorEq, Nat.reduceAdd, Nat.reduceLeDiff, Int.reduceBEq, Int.reduceBNe, Int.reduceLT, Int.reduceLE, Int.reduceGT, Int.reduceGE, Nat.reduceDiv, Nat.reduceMul, h1, h7, h4, hj1', hj2', hw, g3, ints_all, Int.natCast_nonneg]
            simp at h1 h7 h4
            have : s.getD (j - 1) 0 = x := by simp [List.getD, g1]
            simp only [under, h1, h7, h4, this, hj1, hj2]
            simp [show 1 ≤ j by omega]
    · cases hj1 : ((j : Int) == 1)
      · simp at h7
        subst h7
        simp only [pf75, ↓wpre, wset, wcore, ne_eq, if_true, if_false, exists_eq_left', true_implies, false_implies, exists_const, exists_eq_right, binA, intA, loadA, storeA, pickC, setAt, mapO, argsE, X.isC, resA, oneA, unA, boundA, eqiA, eqsA, fillA, fillE, ASt.fz, strA, Nat.reduceEqDiff, Nat.reduceLT, ↓reduceIte, reduceCtorEq, Nat.reduceAdd, Nat.reduceLeDiff, Int.reduceBEq, Int.reduceBNe, Int.reduceLT, Int.reduceLE, Int.reduceGT, Int.reduceGE, Nat.reduceDiv, Nat.reduceMul, h1, hj1]
        simp at hj1
        simp [under, show ¬ j = 1 by omega]
      · simp only [pf75, ↓wpre, wset, wcore, ne_eq, if_true, if_false, exists_eq_left', true_implies, false_implies, exists_const, exists_eq_right, binA, intA, loadA, storeA, pickC, setAt, mapO, argsE, X.isC, resA, oneA, unA, boundA, eqiA, eqsA, fillA, fillE, ASt.fz, strA, Nat.reduceEqDiff, Nat.reduceLT, ↓reduceIte, reduceCtorEq, Nat.reduceAdd, Nat.reduceLeDiff, Int.reduceBEq, Int.reduceBNe, Int.reduceLT, Int.reduceLE, Int.reduceGT, Int.reduceGE, Nat.reduceDiv, Nat.reduceMul, h1, h7, hj1]
        simp at h7 hj1
        simp [under, h7, show j = 1 by omega]
  · simp only [pf75, ↓wpre, wset, wcore, ne_eq, if_true, if_false, exists_eq_left', true_implies, false_implies, exists_const, exists_eq_right, binA, intA, loadA, storeA, pickC, setAt, mapO, argsE, X.isC, resA, oneA, unA, boundA, eqiA, eqsA, fillA, fillE, ASt.fz, strA, Nat.reduceEqDiff, Nat.reduceLT, ↓reduceIte, reduceCtorEq, Nat.reduceAdd, Nat.reduceLeDiff, Int.reduceBEq, Int.reduceBNe, Int.reduceLT, Int.reduceLE, Int.reduceGT, Int.reduceGE, Nat.reduceDiv, Nat.reduceMul, h1]
    simp at h1
    simp [under, h1]
end Go.Proofs.Eng
