/- few; the reference's sum of rows. No conditions beyond those in the theorems. -/
import Derived.Test.YtglembbmmnakaaaDoorF2
set_option linter.all false
set_option linter.deprecated false
set_option linter.unnecessarySimpa false
set_option linter.unusedVariables false
set_option linter.unusedSimpArgs false
set_option linter.defProp false
namespace Go.Proofs.Eng
open Go Go.Proofs
set_option maxRecDepth 100000
set_option maxHeartbeats 16000000
theorem few1_ret {r : List Int} {t : Tl} : Out md pfs 27 [.sl (ints r) t] (· = .bool (decide (r.length > 10))) fun _ => False := by
  refine out_of pf27_is (Nat.le_of_ble_eq_true rfl) ?_
  have e : decide (((ints r).length : Int) > 10) = decide (r.length > 10) := by rw [ints_len]; rw [decide_eq_decide]; omega
  simp only [pf27, ↓wpre, wset, wcore, ne_eq, if_true, if_false, exists_eq_left', true_implies, false_implies, exists_const, exists_eq_right, binA, intA, loadA, storeA, pickC, setAt, mapO, argsE, X.isC, resA, oneA, unA, boundA, eqiA, eqsA, fillA, fillE, ASt.fz, strA, Nat.reduceEqDiff, Nat.reduceLT, ↓reduceIte, reduceCtorEq, Nat.reduceAdd, Nat.reduceLeDiff, Int.reduceBEq, Int.reduceBNe, Int.reduceLT, Int.reduceLE, Int.reduceGT, Int.reduceGE, Nat.reduceDiv, Nat.reduceMul, Nat.reduceBEq, Nat.reduceMod, Nat.reduceSub, e]
theorem index_ret {rows : List (List Int)} {al : List AV} {t : Tl} (h : LIs RowIs rows al) (hl : al.length ≤ lenB) : Out md pfs 37 [.sl al t, .fn 27 []] (fun v => ∃ k : Int, v = .int k ∧ (k < 0 → ∀ r ∈ rows, r.length ≤ 10)) fun _ => False := by
  have hlen := h.len
  refine out_of pf37_is (Nat.le_of_ble_eq_true rfl) ?_
  simp only [pf37, ↓wpre, wset, wcore, ne_eq, if_true, if_false, exists_eq_left', true_implies, false_implies, exists_const, exists_eq_right, binA, intA, loadA, storeA, pickC, setAt, mapO, argsE, X.isC, resA, oneA, unA, boundA, eqiA, eqsA, fillA, fillE, ASt.fz, strA, Nat.reduceEqDiff, Nat.reduceLT, ↓reduceIte, reduceCtorEq, Nat.reduceAdd, Nat.reduceLeDiff, Int.reduceBEq, Int.reduceBNe, Int.reduceLT, Int.reduceLE, Int.reduceGT, Int.reduceGE, Nat.reduceDiv, Nat.reduceMul, Nat.reduceBEq, Nat.reduceMod, Nat.reduceSub]
  refine W_loopE (fun j => al.length - j) (fun j E H T => E 0 = .sl al t ∧ E 1 = .fn 27 [] ∧ E 6 = .sl al t ∧ E 7 = .int al.length ∧ E 8 = .int (j : Nat) ∧ j ≤ al.length ∧ ∀ r ∈ rows.take j, r.length ≤ 10) ?_ 0 ⟨rfl, rfl, rfl, rfl, rfl, Nat.zero_le _, by simp⟩
  rintro j E H T ⟨e0, e1, e6, e7, e8, hj, hs⟩
  have hall := rows_all h
  rcases Nat.lt_or_ge j al.length with hlt | hge
  · have hdec : decide ((j : Int) < al.length) = true := by simpa using hlt
    obtain ⟨x, tx, g1, g2, g3, g4, g5, g6⟩ := row_get h hlt
    obtain ⟨_, rfl, c⟩ := (few1_ret (r := x) (t := tx)).call rfl (by simp [pvs_cons, pvs_nil, pv_sl, g4, ints_pure])
    cases hd : decide (x.length > 10)
    · rw [hd] at c
      simp only [↓wpre, wset, wcore, ne_eq, if_true, if_false, exists_eq_left', true_implies, false_implies, exists_const, exists_eq_right, binA, intA, loadA, storeA, pickC, setAt, mapO, argsE, X.isC, resA, oneA, unA, boundA, eqiA, eqsA, fillA, fillE, ASt.fz, strA, Nat.reduceEqDiff, Nat.reduceLT, ↓reduceIte, reduceCtorEq, Nat.reduceAdd, Nat.reduceLeDiff, Int.reduceBEq, Int.reduceBNe, Int.reduceLT, Int.reduceLE, Int.reduceGT, Int.reduceGE, Nat.reduceDiv, Nat.reduceMul, Nat.reduceBEq, Nat.reduceMod, Nat.reduceSub, e0, e1, e6, e7, e8, hdec, g3, hall, c]
      exact EQ_in ⟨j + 1, by omega, e0, e1, e6, e7, next_ixv (by omega), by omega, fun r hr => by
        have : rows.take (j + 1) = rows.take j ++ [x] := by rw [List.take_add_one, g1]; rfl
        rw [this, List.mem_append, List.mem_singleton] at hr
        rcases hr with hr | rfl
        · exact hs r hr
        · simp only [decide_eq_false_iff_not] at hd; omega⟩
    · rw [hd] at c
      simp only [↓wpre, wset, wcore, ne_eq, if_true, if_false, exists_eq_left', true_implies, false_implies, exists_const, exists_eq_right, binA, intA, loadA, storeA, pickC, setAt, mapO, argsE, X.isC, resA, oneA, unA, boundA, eqiA, eqsA, fillA, fillE, ASt.fz, strA, Nat.reduceEqDiff, Nat.reduceLT, ↓reduceIte, reduceCtorEq, Nat.reduceAdd, Nat.reduceLeDiff, Int.reduceBEq, Int.reduceBNe, Int.reduceLT, Int.reduceLE, Int.reduceGT, Int.reduceGE, Nat.reduceDiv, Nat.reduceMul, Nat.reduceBEq, Nat.reduceMod, Nat.reduceSub, e0, e1, e6, e7, e8, hdec, g3, hall, c]
      exact ⟨_, rfl, fun h => by omega⟩
  · have hdec : decide ((j : Int) < al.length) = false := by simpa using hge
    rw [List.take_of_length_le (by omega)] at hs
    simp only [↓wpre, wset, wcore, ne_eq, if_true, if_false, exists_eq_left', true_implies, false_implies, exists_const, exists_eq_right, binA, intA, loadA, storeA, pickC, setAt, mapO, argsE, X.isC, resA, oneA, unA, boundA, eqiA, eqsA, fillA, fillE, ASt.fz, strA, Nat.reduceEqDiff, Nat.reduceLT, ↓reduceIte, reduceCtorEq, Nat.reduceAdd, Nat.reduceLeDiff, Int.reduceBEq, Int.reduceBNe, Int.reduceLT, Int.reduceLE, Int.reduceGT, Int.reduceGE, Nat.reduceDiv, Nat.reduceMul, Nat.reduceBEq, Nat.reduceMod, Nat.reduceSub, e0, e1, e6, e7, e8, hdec]
    exact ⟨_, rfl, fun _ => hs⟩
def FewS (rows : List (List Int)) : Prop := rows.length ≤ 25 ∧ ∀ r ∈ rows, r.length ≤ 10
theorem few_ret {rows : List (List Int)} {al : List AV} {t : Tl} (h : LIs RowIs rows al) (ht : t.pure = true) (hl : al.length ≤ lenB) : Out md pfs 12 [.sl al t] (fun v => ∃ b, v = .bool b ∧ (b = true → FewS rows)) fun _ => False := by
  have hlen := h.len
  have hp := rowsPure h
  obtain ⟨_, ⟨k, rfl, hk⟩, c37⟩ := (index_ret (t := t) h hl).call rfl (by simp [pvs_cons, pvs_nil, pv_sl, ht, hp, pureAV, pureAVs])
  have c26 : Out md pfs 26 [.sl al t, .fn 27 []] (· = .bool (decide (k ≥ 0))) fun _ => False := by
    refine out_of pf26_is (Nat.le_of_ble_eq_true rfl) ?_
    simp only [pf26, ↓wpre, wset, wcore, ne_eq, if_true, if_false, exists_eq_left', true_implies, false_implies, exists_const, exists_eq_right, binA, intA, loadA, storeA, pickC, setAt, mapO, argsE, X.isC, resA, oneA, unA, boundA, eqiA, eqsA, fillA, fillE, ASt.fz, strA, Nat.reduceEqDiff, Nat.reduceLT, ↓reduceIte, reduceCtorEq, Nat.reduceAdd, Nat.reduceLeDiff, Int.reduceBEq, Int.reduceBNe, Int.reduceLT, Int.reduceLE, Int.reduceGT, Int.reduceGE, Nat.reduceDiv, Nat.reduceMul, Nat.reduceBEq, Nat.reduceMod, Nat.reduceSub, c37]
  obtain ⟨_, rfl, c⟩ := c26.call rfl (by simp [pvs_cons, pvs_nil, pv_sl, ht, hp, pureAV, pureAVs])
  refine out_of pf12_is (Nat.le_of_ble_eq_true rfl) ?_
  cases hd : decide ((al.length : Int) ≤ 25)
  · simp only [pf12, ↓wpre, wset, wcore, ne_eq, if_true, if_false, exists_eq_left', true_implies, false_implies, exists_const, exists_eq_right, binA, intA, loadA, storeA, pickC, setAt, mapO, argsE, X.isC, resA, oneA, unA, boundA, eqiA, eqsA, fillA, fillE, ASt.fz, strA, Nat.reduceEqDiff, Nat.reduceLT, ↓reduceIte, reduceCtorEq, Nat.reduceAdd, Nat.reduceLeDiff, Int.reduceBEq, Int.reduceBNe, Int.reduceLT, Int.reduceLE, Int.reduceGT, Int.reduceGE, Nat.reduceDiv, Nat.reduceMul, Nat.reduceBEq, Nat.reduceMod, Nat.reduceSub, hd]
    exact ⟨_, rfl, fun h => by cases h⟩
  · simp only [pf12, ↓wpre, wset, wcore, ne_eq, if_true, if_false, exists_eq_left', true_implies, false_implies, exists_const, exists_eq_right, binA, intA, loadA, storeA, pickC, setAt, mapO, argsE, X.isC, resA, oneA, unA, boundA, eqiA, eqsA, fillA, fillE, ASt.fz, strA, Nat.reduceEqDiff, Nat.reduceLT, ↓reduceIte, reduceCtorEq, Nat.reduceAdd, Nat.reduceLeDiff, Int.reduceBEq, Int.reduceBNe, Int.reduceLT, Int.reduceLE, Int.reduceGT, Int.reduceGE, Nat.reduceDiv, Nat.reduceMul, Nat.reduceBEq, Nat.reduceMod, Nat.reduceSub, hd, c]
    refine ⟨_, rfl, fun hb => ?_⟩
    simp only [decide_eq_true_eq] at hd
    simp only [Bool.not_eq_true', decide_eq_false_iff_not] at hb
    exact ⟨by omega, hk (by omega)⟩
/-- Multiples added. -/
def addM (p q : Int) (a b : List Int) : List Int := List.zipWith (fun x y => p * x + q * y) a b
theorem addM_len {p q : Int} {a b : List Int} (h : a.length = b.length) : (addM p q a b).length = a.length := by simp [addM, h]
theorem addM_take {p q x y : Int} {a b : List Int} {j : Nat} (h1 : a[j]? = some x) (h2 : b[j]? = some y) : addM p q (a.take (j + 1)) (b.take (j + 1)) = addM p q (a.take j) (b.take j) ++ [p * x + q * y] := by
  have e1 : a.take (j + 1) = a.take j ++ [x] := by rw [List.take_add_one, h1]; rfl
  have e2 : b.take (j + 1) = b.take j ++ [y] := by rw [List.take_add_one, h2]; rfl
  have l1 := (List.getElem?_eq_some_iff.1 h1).1
  have l2 := (List.getElem?_eq_some_iff.1 h2).1
  rw [addM, addM, e1, e2, List.zipWith_append (by simp; omega)]
  rfl
theorem rsum_ret {a b : List Int} {t u : Tl} {p q : Int} (hab : a.length = b.length) (hl : a.length ≤ 1000) (hr : ∀ x ∈ a, ∀ y ∈ b, in64 (p * x) ∧ in64 (q * y) ∧ in64 (p * x + q * y)) : Out md pfs 30 [.sl (ints a) t, .sl (ints b) u, .int p, .int q] (fun v => ∃ t', v = .sl (ints (addM p q a b)) t' ∧ t'.pure = true) fun _ => False := by
  refine out_of pf30_is (Nat.le_of_ble_eq_true rfl) ?_
  simp only [pf30, ↓wpre, wset, wcore, ne_eq, if_true, if_false, exists_eq_left', true_implies, false_implies, exists_const, exists_eq_right, binA, intA, loadA, storeA, pickC, setAt, mapO, argsE, X.isC, resA, oneA, unA, boundA, eqiA, eqsA, fillA, fillE, ASt.fz, strA, Nat.reduceEqDiff, Nat.reduceLT, ↓reduceIte, reduceCtorEq, Nat.reduceAdd, Nat.reduceLeDiff, Int.reduceBEq, Int.reduceBNe, Int.reduceLT, Int.reduceLE, Int.reduceGT, Int.reduceGE, Nat.reduceDiv, Nat.reduceMul, Nat.reduceBEq, Nat.reduceMod, Nat.reduceSub]
  refine W_loopE (fun j => a.length - j) (fun j E H T => ∃ tt, E 0 = .sl (ints a) t ∧ E 1 = .sl (ints b) u ∧ E 2 = .int p ∧ E 3 = .int q ∧ E 9 = .sl (ints (addM p q (a.take j) (b.take j))) tt ∧ E 10 = .int (j : Nat) ∧ j ≤ a.length ∧ App T (ints (addM p q (a.take j) (b.take j))) tt) ?_ 0 ⟨.nil, rfl, rfl, rfl, rfl, rfl, rfl, Nat.zero_le _, app_start _⟩
  rintro j E H T ⟨tt, e0, e1, e2, e3, e9, e10, hj, hA⟩
  rcases Nat.lt_or_ge j a.length with hlt | hge
  · have hdec : decide ((j : Int) < (((ints a).length : Nat) : Int)) = true := by rw [ints_len]; simpa using hlt
    obtain ⟨x, q1, _, q3⟩ := ints_get hlt
    obtain ⟨y, r1, _, r3⟩ := ints_get (show j < b.length by omega)
    have ha := ints_all a
    have hb := ints_all b
    obtain ⟨w1, w2, w3⟩ := hr x (List.mem_of_getElem? q1) y (List.mem_of_getElem? r1)
    have x1 := wrap_in w1
    have x2 := wrap_in w2
    have x3 := wrap_in w3
    obtain ⟨t', T', ap, hA', _⟩ := app_one (x := .int (p * x + q * y)) hA (by rw [ints_len, addM_len (by simp; omega), List.length_take]; unfold capB; omega) (ints_all _) rfl rfl
    simp only [↓wpre, wset, wcore, ne_eq, if_true, if_false, exists_eq_left', true_implies, false_implies, exists_const, exists_eq_right, binA, intA, loadA, storeA, pickC, setAt, mapO, argsE, X.isC, resA, oneA, unA, boundA, eqiA, eqsA, fillA, fillE, ASt.fz, strA, Nat.reduceEqDiff, Nat.reduceLT, ↓reduceIte, reduceCtorEq, Nat.reduceAdd, Nat.reduceLeDiff, Int.reduceBEq, Int.reduceBNe, Int.reduceLT, Int.reduceLE, Int.reduceGT, Int.reduceGE, Nat.reduceDiv, Nat.reduceMul, Nat.reduceBEq, Nat.reduceMod, Nat.reduceSub, e0, e1, e2, e3, e9, e10, hdec, q3, r3, ha, hb, x1, x2, x3, ap]
    exact EQ_in ⟨j + 1, by omega, t', e0, e1, e2, e3, by show AV.sl (ints _ ++ [_]) t' = _; rw [addM_take q1 r1]; simp [ints], next_ixv (by unfold lenB; omega), by omega, by rw [addM_take q1 r1]; simpa [ints] using hA'⟩
  · have hdec : decide ((j : Int) < (((ints a).length : Nat) : Int)) = false := by rw [ints_len]; simpa using hge
    rw [List.take_of_length_le (by omega), List.take_of_length_le (by omega)] at e9 hA
    simp only [↓wpre, wset, wcore, ne_eq, if_true, if_false, exists_eq_left', true_implies, false_implies, exists_const, exists_eq_right, binA, intA, loadA, storeA, pickC, setAt, mapO, argsE, X.isC, resA, oneA, unA, boundA, eqiA, eqsA, fillA, fillE, ASt.fz, strA, Nat.reduceEqDiff, Nat.reduceLT, ↓reduceIte, reduceCtorEq, Nat.reduceAdd, Nat.reduceLeDiff, Int.reduceBEq, Int.reduceBNe, Int.reduceLT, Int.reduceLE, Int.reduceGT, Int.reduceGE, Nat.reduceDiv, Nat.reduceMul, Nat.reduceBEq, Nat.reduceMod, Nat.reduceSub, e0, e1, e2, e3, e9, e10, hdec]
    obtain ⟨t', h1, h2⟩ := app_purify (s := ⟨H, T⟩) (n := 20) hA (ints_pure _) (by omega)
    exact ⟨_, h2, t', rfl, h1⟩
end Go.Proofs.Eng
