/- The reference's GetTerms; SameTerms. No conditions beyond those in the theorems. -/
import Derived.Test.YtbcnlbnimabdeaaU13
import Derived.Test.YtbcnlbnimabdeaaT1
set_option linter.all false
set_option linter.deprecated false
set_option linter.unnecessarySimpa false
set_option linter.unusedVariables false
set_option linter.unusedSimpArgs false
set_option linter.defProp false
namespace Go.Proofs.Eng
open Go Go.Proofs
set_option maxRecDepth 100000
set_option maxHeartbeats 8000000
theorem SameTerms_ret {l m : List Tm} {al bl : List AV} {t u : Tl} (h : LIs Tm.Is l al) (h' : LIs Tm.Is m bl) (ht : t.pure = true) (hu : u.pure = true) (hal : al.length ≤ lenB) (hbl : bl.length ≤ lenB) : Out md pfs 21 [.sl al t, .sl bl u] (· = .bool (decide (l = m))) fun _ => False := by
  refine out_of pf21_is (Nat.le_of_ble_eq_true rfl) ?_
  have hl := h.len
  have hl' := h'.len
  have hall := h.all tmAgg
  have hall2 := h'.all tmAgg
  cases hne : ((al.length : Int) != bl.length)
  rotate_left
  · have : l ≠ m := by
      rintro rfl
      simp only [bne_iff_ne, ne_eq] at hne
      omega
    simp only [pf21, ↓wpre, wset, wcore, ne_eq, if_true, if_false, exists_eq_left', true_implies, false_implies, exists_const, exists_eq_right, binA, intA, loadA, storeA, pickC, setAt, mapO, argsE, X.isC, resA, oneA, unA, boundA, eqiA, eqsA, fillA, fillE, ASt.fz, strA, Nat.reduceEqDiff, Nat.reduceLT, ↓reduceIte, reduceCtorEq, Nat.reduceAdd, Nat.reduceLeDiff, Int.reduceBEq, Int.reduceBNe, Int.reduceLT, Int.reduceLE, Int.reduceGT, Int.reduceGE, Nat.reduceDiv, Nat.reduceMul, Nat.reduceBEq, Nat.reduceMod, Nat.reduceSub, hne, decide_eq_false this]
  · have hlen : al.length = bl.length := by simp only [bne_eq_false_iff_eq] at hne; omega
    simp only [pf21, ↓wpre, wset, wcore, ne_eq, if_true, if_false, exists_eq_left', true_implies, false_implies, exists_const, exists_eq_right, binA, intA, loadA, storeA, pickC, setAt, mapO, argsE, X.isC, resA, oneA, unA, boundA, eqiA, eqsA, fillA, fillE, ASt.fz, strA, Nat.reduceEqDiff, Nat.reduceLT, ↓reduceIte, reduceCtorEq, Nat.reduceAdd, Nat.reduceLeDiff, Int.reduceBEq, Int.reduceBNe, Int.reduceLT, Int.reduceLE, Int.reduceGT, Int.reduceGE, Nat.reduceDiv, Nat.reduceMul, Nat.reduceBEq, Nat.reduceMod, Nat.reduceSub, hne]
    refine W_loopE (fun j => al.length - j) (fun j E H T => E 0 = .sl al t ∧ E 1 = .sl bl u ∧ E 5 = .int (j : Nat) ∧ j ≤ al.length ∧ l.take j = m.take j) ?_ 0 ⟨rfl, rfl, rfl, Nat.zero_le _, rfl⟩
    rintro j E H T ⟨e0, e1, e5, hj, hp⟩
    rcases Nat.lt_or_ge j al.length with hlt | hge
    · have hdec : decide ((j : Int) < al.length) = true := by simpa using hlt
      obtain ⟨x, c, d0, d1, d3, d4, d5, d6, d7, d8⟩ := h.get tmAgg hlt
      obtain ⟨y, c', f0, f1, f3, f4, f5, f6, f7, f8⟩ := h'.get tmAgg (i := j) (by omega)
      obtain ⟨_, rfl, cr⟩ := (tsame_ret x d8 f8).call rfl (by simp [pvs_cons, pvs_nil, tmPure _ d8, tmPure _ f8])
      by_cases hxy : x = y
      · rw [decide_eq_true hxy] at cr
        simp only [↓wpre, wset, wcore, ne_eq, if_true, if_false, exists_eq_left', true_implies, false_implies, exists_const, exists_eq_right, binA, intA, loadA, storeA, pickC, setAt, mapO, argsE, X.isC, resA, oneA, unA, boundA, eqiA, eqsA, fillA, fillE, ASt.fz, strA, Nat.reduceEqDiff, Nat.reduceLT, ↓reduceIte, reduceCtorEq, Nat.reduceAdd, Nat.reduceLeDiff, Int.reduceBEq, Int.reduceBNe, Int.reduceLT, Int.reduceLE, Int.reduceGT, Int.reduceGE, Nat.reduceDiv, Nat.reduceMul, Nat.reduceBEq, Nat.reduceMod, Nat.reduceSub, e0, e1, e5, hdec, d4, d5, d6, d7, f4, f5, f6, f7, hall, hall2, cr]
        refine EQ_in ⟨j + 1, by omega, e0, e1, next_ixv (by unfold lenB at *; omega), by omega, ?_⟩
        rw [List.take_add_one, List.take_add_one, d0, f0, hp, hxy]
      · rw [decide_eq_false hxy] at cr
        have : l ≠ m := by
          rintro rfl
          rw [d0] at f0
          exact hxy (Option.some.inj f0)
        simp only [↓wpre, wset, wcore, ne_eq, if_true, if_false, exists_eq_left', true_implies, false_implies, exists_const, exists_eq_right, binA, intA, loadA, storeA, pickC, setAt, mapO, argsE, X.isC, resA, oneA, unA, boundA, eqiA, eqsA, fillA, fillE, ASt.fz, strA, Nat.reduceEqDiff, Nat.reduceLT, ↓reduceIte, reduceCtorEq, Nat.reduceAdd, Nat.reduceLeDiff, Int.reduceBEq, Int.reduceBNe, Int.reduceLT, Int.reduceLE, Int.reduceGT, Int.reduceGE, Nat.reduceDiv, Nat.reduceMul, Nat.reduceBEq, Nat.reduceMod, Nat.reduceSub, e0, e1, e5, hdec, d4, d5, d6, d7, f4, f5, f6, f7, hall, hall2, cr, decide_eq_false this]
    · have hdec : decide ((j : Int) < al.length) = false := by simpa using hge
      rw [List.take_of_length_le (by omega), List.take_of_length_le (by omega)] at hp
      simp only [↓wpre, wset, wcore, ne_eq, if_true, if_false, exists_eq_left', true_implies, false_implies, exists_const, exists_eq_right, binA, intA, loadA, storeA, pickC, setAt, mapO, argsE, X.isC, resA, oneA, unA, boundA, eqiA, eqsA, fillA, fillE, ASt.fz, strA, Nat.reduceEqDiff, Nat.reduceLT, ↓reduceIte, reduceCtorEq, Nat.reduceAdd, Nat.reduceLeDiff, Int.reduceBEq, Int.reduceBNe, Int.reduceLT, Int.reduceLE, Int.reduceGT, Int.reduceGE, Nat.reduceDiv, Nat.reduceMul, Nat.reduceBEq, Nat.reduceMod, Nat.reduceSub, e0, e1, e5, hdec, decide_eq_true hp]
end Go.Proofs.Eng
