/- few; the reference's sum of rows. No conditions beyond those in the theorems. -/
import Derived.Test.YtglembbmmnakaaaDoorF2
set_option linter.all false
set_option linter.deprecated false
set_option linter.unnecessarySimpa false
set_option linter.unusedVariables false
set_option linter.unusedSimpArgs false
set_option linter.defProp false
namespace Go.Proofs.Eng
open Go Go.Proofs
set_option maxRecDepth 100000
set_option maxHeartbeats 16000000
theorem few1_ret {r : List Int} {t : Tl} : Out md pfs 27 [.sl (ints r) t] (· = .bool (decide (r.length > 10))) fun _ => False := by
  refine out_of pf27_is (Nat.le_of_ble_eq_true rfl) ?_
  have e : decide (((ints r).length : Int) > 10) = decide (r.length > 10) := by rw [ints_len]; rw [decide_eq_decide]; omega
  simp only [pf27, ↓wpre, wset, wcore, ne_eq, if_true, if_false, exists_eq_left', true_implies, false_implies, exists_const, exists_eq_right, binA, intA, loadA, storeA, pickC, setAt, mapO, argsE, X.isC, resA, oneA, unA, boundA, eqiA, eqsA, fillA, fillE, ASt.fz, strA, Nat.reduceEqDiff, Nat.reduceLT, ↓reduceIte, reduceCtorEq, Nat.reduceAdd, Nat.reduceLeDiff, Int.reduceBEq, Int.reduceBNe, Int.reduceLT, Int.reduceLE, Int.reduceGT, Int.reduceGE, Nat.reduceDiv, Nat.reduceMul, Nat.reduceBEq, Nat.reduceMod, Nat.reduceSub, e]
theorem index_ret {rows : List (List Int)} {al : List AV} {t : Tl} (h : LIs RowIs rows al) (hl : al.length ≤ lenB) : Out md pfs 37 [.sl al t, .fn 27 []] (fun v => ∃ k : Int, v = .int k ∧ (k < 0 → ∀ r ∈ rows, r.length ≤ 10)) fun _ => False := by
  have hlen := h.len
  refine out_of pf37_is (Nat.le_of_ble_eq_true rfl) ?_
  simp only [pf37, ↓wpre, wset, wcore, ne_eq, if_true, if_false, exists_eq_left', true_implies, false_implies, exists_const, exists_eq_right, binA, intA, loadA, storeA, pickC, setAt, mapO, argsE, X.isC, resA, oneA, unA, boundA, eqiA, eqsA, fillA, fillE, ASt.fz, strA, Nat.reduceEqDiff, Nat.reduceLT, ↓reduceIte, reduceCtorEq, Nat.reduceAdd, Nat.reduceLeDiff, Int.reduceBEq, Int.reduceBNe, Int.reduceLT, Int.reduceLE, Int.reduceGT, Int.reduceGE, Nat.reduceDiv, Nat.reduceMul, Nat.reduceBEq, Nat.reduceMod, Nat.reduceSub]
  refine W_loopE (fun j => al.length - j) (fun j E H T => E 0 = .sl al t ∧ E 1 = .fn 27 [] ∧ E 6 = .sl al t ∧ E 7 = .int al.length ∧ E 8 = .int (j : Nat) ∧ j ≤ al.length ∧ ∀ r ∈ rows.take j, r.length ≤ 10) ?_ 0 ⟨rfl, rfl, rfl, rfl, rfl, Nat.zero_le _, by simp⟩
  rintro j E H T ⟨e0, e1, e6, e7, e8, hj, hs⟩
  have hall := rows_all h
  rcases Nat.lt_or_ge j al.length with hlt | hge
  · have hdec : decide ((j : Int) < al.length) = true := by simpa using hlt
    obtain ⟨x, tx, g1, g2, g3, g4, g5, g6⟩ := row_get h hlt
    obtain ⟨_, rfl, c⟩ := (few1_ret (r := x) (t := tx)).call rfl (by simp [pvs_cons, pvs_nil, pv_sl, g4, ints_pure])
    cases hd : decide (x.length > 10)
    · rw [hd] at c
      simp only [↓wpre, wset, wcore, ne_eq, if_true, if_false, exists_eq_left', true_implies, false_implies, exists_const, exists_eq_right, binA, intA, loadA, storeA, pickC, setAt, mapO, argsE, X.isC, resA, oneA, unA, boundA, eqiA, eqsA, fillA, fillE, ASt.fz, strA, Nat.reduceEqDiff, Nat.reduceLT, ↓reduceIte, reduceCtorEq, Nat.reduceAdd, Nat.reduceLeDiff, Int.reduceBEq, Int.reduceBNe, Int.reduceLT, Int.reduceLE, Int.reduceGT, Int.reduceGE, Nat.reduceDiv, Nat.reduceMul, Nat.reduceBEq, Nat.reduceMod, Nat.reduceSub, e0, e1, e6, e7, e8, hdec, g3, hall, c]
      exact EQ_in ⟨j + 1, by omega, e0, e1, e6, e7, next_ixv (by omega), by omega, fun r hr => by
        have : rows.take (j + 1) = rows.take j ++ [x] := by rw [List.take_add_one, g1]; rfl
        rw [this, List.mem_append, List.mem_singleton] at hr
        rcases hr with hr | rfl
        · exact hs r hr
        · simp only [decide_eq_false_iff_not] at hd; omega⟩
    · rw [hd] at c
      simp only [↓wpre, wset, wcore, ne_eq, if_true, if_false, exists_eq_left', true_implies, false_implies, exists_const, exists_eq_right, binA, intA, loadA, storeA, pickC, setAt, mapO, argsE, X.isC, resA, oneA, unA, boundA, eqiA, eqsA, fillA, fillE, ASt.fz, strA, Nat.reduceEqDiff, Nat.reduceLT, ↓reduceIte, reduceCtorEq, Nat.reduceAdd, Nat.reduceLeDiff, Int.reduceBEq, Int.reduceBNe, Int.reduceLT, Int.reduceLE, Int.reduceGT, Int.reduceGE, Nat.reduceDiv, Nat.reduceMul, Nat.reduceBEq, Nat.reduceMod, Nat.reduceSub, e0, e1, e6, e7, e8, hdec, g3, hall, c]
      exact ⟨_, rfl, fun h => by omega⟩
  · have hdec : decide ((j : Int) < al.length) = false := by simpa using hge
    rw [List.take_of_length_le (by omega)] at hs
    simp only [↓wpre, wset, wcore, ne_eq, if_true, if_false, exists_eq_left', true_implies, false_implies, exists_const, exists_eq_right, binA, intA, loadA, storeA, pickC, setAt, mapO, argsE, X.isC, resA, oneA, unA, boundA, eqiA, eqsA, fillA, fillE, ASt.fz, strA, Nat.reduceEqDiff, Nat.reduceLT, ↓reduceIte, reduceCtorEq, Nat.reduceAdd, Nat.reduceLeDiff, Int.reduceBEq, Int.reduceBNe, Int.reduceLT, Int.reduceLE, Int.reduceGT, Int.reduceGE, Nat.reduceDiv, Nat.reduceMul, Nat.reduceBEq, Nat.reduceMod, Nat.reduceSub, e0, e1, e6, e7, e8, hdec]
    exact ⟨_, rfl, fun _ => hs⟩
def FewS (rows : List (List Int)) : Prop := rows.length ≤ 25 ∧ ∀ r ∈ rows, r.length ≤ 10
theorem few_ret {rows : List (List Int)} {al : List AV} {t : Tl} (h : LIs RowIs rows al) (ht : t.pure = true) (hl : al.length ≤ lenB) : Out md pfs 12 [.sl al t] (fun v => ∃ b, v = .bool b ∧ (b = true → FewS rows)) fun _ => False := by
  have hlen := h.len
  have hp := rowsPure h
  obtain ⟨_, ⟨k, rfl, hk⟩, c37⟩ := (index_ret (t := t) h hl).call rfl (by simp [pvs_cons, pvs_nil, pv_sl, ht, hp, pureAV, pureAVs])
  have c26 : Out md pfs 26 [.sl al t, .fn 27 []] (· = .bool (decide (k ≥ 0))) fun _ => False := by
    refine out_of pf26_is (Nat.le_of_ble_eq_true rfl) ?_
    simp only [pf26, ↓wpre, wset, wcore, ne_eq, if_true, if_false, exists_eq_left', true_implies, false_implies, exists_const, exists_eq_right, binA, intA, loadA, storeA, pickC, setAt, mapO, argsE, X.isC, resA, oneA, unA, boundA, eqiA, eqsA, fillA, fillE, ASt.fz, strA, Nat.reduceEqDiff, Nat.reduceLT, ↓reduceIte, reduceCtorEq, Nat.reduceAdd, Nat.reduceLeDiff, Int.reduceBEq, Int.reduceBNe, Int.reduceLT, Int.reduceLE, Int.reduceGT, Int.reduceGE, Nat.reduceDiv, Nat.reduceMul, Nat.reduceBEq, Nat.reduceMod, Nat.reduceSub, c37]
  obtain ⟨_, rfl, c⟩ := c26.call rfl (by simp [pvs_cons, pvs_nil, pv_sl, ht, hp, pureAV, pureAVs])
  refine out_of pf12_is (Nat.le_of_ble_eq_true rfl) ?_
  cases hd : decide ((al.length : Int) ≤ 25)
  · simp only [pf12, ↓wpre, wset, wcore, ne_eq, if_true, if_false, exists_eq_left', true_implies, false_implies, exists_const, exists_eq_right, binA, intA, loadA, storeA, pickC, setAt, mapO, argsE, X.isC, resA, oneA, unA, boundA, eqiA, eqsA, fillA, fillE, ASt.fz, strA, Nat.reduceEqDiff, Nat.reduceLT, ↓reduceIte, reduceCtorEq, Nat.reduceAdd, Nat.reduceLeDiff, Int.reduceBEq, Int.reduceBNe, Int.reduceLT, Int.reduceLE, Int.reduceGT, Int.reduceGE, Nat.reduceDiv, Nat.reduceMul, Nat.reduceBEq, Nat.reduceMod, Nat.reduceSub, hd]
    exact ⟨_, rfl, fun h => by cases h⟩
  · simp only [pf12, ↓wpre, wset, wcore, ne_eq, if_true, if_false, exists_eq_left', true_implies, false_implies, exists_const, exists_eq_right, binA, intA, loadA, storeA, pickC, setAt, mapO, argsE, X.isC, resA, oneA, unA, boundA, eqiA, eqsA, fillA, fillE, ASt.fz, strA, Nat.reduceEqDiff, Nat.reduceLT, ↓reduceIte, reduceCtorEq, Nat.reduceAdd, Nat.reduceLeDiff, Int.reduceBEq, Int.reduceBNe, Int.reduceLT, Int.reduceLE, Int.reduceGT, Int.reduceGE, Nat.reduceDiv, Nat.reduceMul, Nat.reduceBEq, Nat.reduceMod, Nat.reduceSub, hd, c]
    refine ⟨_, rfl, fun hb => ?_⟩
    simp only [decide_eq_true_eq] at hd
    simp only [Bool.not_eq_true', decide_eq_false_iff_not] at hb
    exact ⟨by omega, hk (by omega)⟩
/-- Multiples added. -/
def addM (p q : Int) (a b : List Int) : List Int := List.zipWith (fun x y => p * x + q * y) a b
theorem addM_len {p q : Int} {a b : List Int} (h : a.length = b.length) : (addM p q a b).length = a.length := by simp [addM, h]
end Go.Proofs.Eng
