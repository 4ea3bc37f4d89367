/- The choice of a value: the program's. No conditions beyond those in the theorems. -/
import Derived.Test.YtglembbmmnakaaaDoorF20
import Derived.Test.YtglembbmmnakaaaDoorF6
set_option linter.all false
set_option linter.deprecated false
set_option linter.unnecessarySimpa false
set_option linter.unusedVariables false
set_option linter.unusedSimpArgs false
set_option linter.defProp false
namespace Go.Proofs.Eng
open Go Go.Proofs
set_option maxRecDepth 100000
set_option maxHeartbeats 16000000
def chV : Option Int → AV
  | some x => .tup [.int x, .bool true]
  | none => .tup [.int 0, .bool false]
theorem foldl_take {α β : Type} {f : β → α → β} {b : β} {l : List α} {j : Nat} {x : α} (h : l[j]? = some x) : (l.take (j + 1)).foldl f b = f ((l.take j).foldl f b) x := by
  rw [List.take_add_one, h, List.foldl_append]; rfl
theorem value_sh {l : List Rw} {al : List AV} {t : Tl} {k i n m : Nat} {pt : List Int} {H0 : List AObj} {T0 : List Nat} (h : LIs RwIs l al) (hl : al.length ≤ 500) (hE : ∀ r ∈ l, RowE (n + 1) m r) (hpt : pt.length = n) (hp : Bnd limP pt) (hk : k < n) (hn : n ≤ 8) (hi : H0[i]? = some (.cells false (ints pt))) :
    Sh md pfs 32 [.sl al t, .int (k : Nat), .bs i 0 n 1 false] ⟨H0, T0⟩ (fun v s' => v = chV (chooseR l k pt) ∧ ∃ Z, s' = ⟨H0 ++ Z, T0⟩) fun _ _ => False := by
  have hln := h.len
  have hall := h.all rwAgg
  refine sh_of pf32_is (Nat.le_of_ble_eq_true rfl) ?_
  simp only [pf32, ↓wpre, wset, wcore, ne_eq, if_true, if_false, exists_eq_left', true_implies, false_implies, exists_const, exists_eq_right, binA, intA, loadA, storeA, pickC, setAt, mapO, argsE, X.isC, resA, oneA, unA, boundA, eqiA, eqsA, fillA, fillE, ASt.fz, strA, Nat.reduceEqDiff, Nat.reduceLT, ↓reduceIte, reduceCtorEq, Nat.reduceAdd, Nat.reduceLeDiff, Int.reduceBEq, Int.reduceBNe, Int.reduceLT, Int.reduceLE, Int.reduceGT, Int.reduceGE, Nat.reduceDiv, Nat.reduceMul, Nat.reduceBEq, Nat.reduceMod, Nat.reduceSub]
  refine W_loopE (fun j => al.length - j) (fun j E H T => ∃ Z b, H = H0 ++ Z ∧ T = T0 ∧ b = (l.take j).foldl (stepC k pt) (none, none) ∧ E 0 = .sl al t ∧ E 1 = .int (k : Nat) ∧ E 2 = .bs i 0 n 1 false ∧ E 8 = .int (b.1.getD 0) ∧ E 9 = .int (b.2.getD 0) ∧ E 10 = .bool b.1.isSome ∧ E 11 = .bool b.2.isSome ∧ E 19 = .sl al t ∧ E 20 = .int al.length ∧ E 21 = .int (j : Nat) ∧ j ≤ al.length) ?_ 0 ⟨[], (none, none), by simp, rfl, rfl, rfl, rfl, rfl, rfl, rfl, rfl, rfl, rfl, rfl, rfl, Nat.zero_le _⟩
  rintro j E H T ⟨Z, b, rfl, rfl, hb, e0, e1, e2, e8, e9, e10, e11, e19, e20, e21, hj⟩
  rcases Nat.lt_or_ge j al.length with hlt | hge
  · have hdec : decide ((j : Int) < (al.length : Int)) = true := by simpa using hlt
    obtain ⟨r, c, g1, g2, g3, g4, g5, g6, g7, g8⟩ := h.get rwAgg hlt
    have hrE := hE r g3
    obtain ⟨tr, ur, hc, hr1, hr2⟩ := g8
    cases hc
    have hat := hrE.at (show k < n + 1 by omega)
    have hat2 := hrE.at (show n < n + 1 by omega)
    have hra := ints_all r.A
    have hfold := foldl_take (f := stepC k pt) (b := (none, none)) g1
    rw [← hb] at hfold
    have hsm := fun d hd => sumTo_bnd (k := k) hrE.bA hp d hd
    simp only [↓wpre, wset, wcore, ne_eq, if_true, if_false, exists_eq_left', true_implies, false_implies, exists_const, exists_eq_right, binA, intA, loadA, storeA, pickC, setAt, mapO, argsE, X.isC, resA, oneA, unA, boundA, eqiA, eqsA, fillA, fillE, ASt.fz, strA, Nat.reduceEqDiff, Nat.reduceLT, ↓reduceIte, reduceCtorEq, Nat.reduceAdd, Nat.reduceLeDiff, Int.reduceBEq, Int.reduceBNe, Int.reduceLT, Int.reduceLE, Int.reduceGT, Int.reduceGE, Nat.reduceDiv, Nat.reduceMul, Nat.reduceBEq, Nat.reduceMod, Nat.reduceSub, List.length_append, List.append_assoc, app_get_len, app_get_add, app_set_len, app_set_add, e0, e1, e2, e8, e9, e10, e11, e19, e20, e21, hdec, g4, hall, hat, hat2, hra]
    refine W_loopE (fun d => n - (k + 1) - d) (fun d E H' T' => ∃ i13, H'[i]? = some (.cells false (ints pt)) ∧ H'[i13]? = some (.cells false [.sl (ints r.A) tr, .sl (ints r.F) ur]) ∧ (∃ Z, H' = H0 ++ Z) ∧ T' = T ∧ E 0 = .sl al t ∧ E 1 = .int (k : Nat) ∧ E 2 = .bs i 0 n 1 false ∧ E 8 = .int (b.1.getD 0) ∧ E 9 = .int (b.2.getD 0) ∧ E 10 = .bool b.1.isSome ∧ E 11 = .bool b.2.isSome ∧ E 13 = .ptr i13 0 ∧ E 14 = .int (r.A.getD k 0) ∧ E 15 = .int (sumTo r.A pt k d) ∧ E 16 = .int ((k + 1 + d : Nat) : Int) ∧ E 19 = .sl al t ∧ E 20 = .int al.length ∧ E 21 = .int (j : Nat) ∧ d ≤ n - (k + 1)) ?_ 0 ⟨H0.length + Z.length, app_get_of hi _, by rw [app_get_add, app_get_len]; rfl, ⟨_, rfl⟩, rfl, e0, e1, e2, e8, e9, e10, e11, rfl, rfl, by rw [sumTo, hpt]; rfl, by rw [Nat.add_zero]; exact next_ixv (by unfold lenB; omega), e19, e20, e21, Nat.zero_le _⟩
    clear e0 e1 e2 e8 e9 e10 e11 e19 e20 e21 hdec
    rintro d E H' T' ⟨i13, hi', h13, ⟨Z', rfl⟩, rfl, e0, e1, e2, e8, e9, e10, e11, e13, e14, e15, e16, e19, e20, e21, hd⟩
    rcases Nat.lt_or_ge d (n - (k + 1)) with hdl | hdg
    · have hdec : decide (((k + 1 + d : Nat) : Int) < (n : Int)) = true := decide_eq_true (by omega)
      have hat3 := hrE.at (show k + 1 + d < n + 1 by omega)
      have hs1 : pt[k + 1 + d]? = some (pt.getD (k + 1 + d) 0) := by rw [List.getD_eq_getElem?_getD, List.getElem?_eq_getElem (by omega)]; rfl
      have hdg := drop_get hs1
      have hml : (ints pt).length = n := by rw [ints_len, hpt]
      have hkw : (((k + 1 + d : Nat) : Int) < (n : Int)) = True := eq_true (by omega)
      have hb1 := hsm d (by omega)
      have hb2 := hsm (d + 1) (by omega)
      rw [sumTo] at hb2
      have x1 : IntKind.i64.wrap (r.A.getD (k + 1 + d) 0 * pt.getD (k + 1 + d) 0) = r.A.getD (k + 1 + d) 0 * pt.getD (k + 1 + d) 0 := wrap_in (by unfold Eng.in64; omega)
      have x2 : IntKind.i64.wrap (sumTo r.A pt k d + r.A.getD (k + 1 + d) 0 * pt.getD (k + 1 + d) 0) = sumTo r.A pt k d + r.A.getD (k + 1 + d) 0 * pt.getD (k + 1 + d) 0 := wrap_in (by unfold Eng.in64; omega)
      simp only [↓wpre, wset, wcore, ne_eq, if_true, if_false, exists_eq_left', true_implies, false_implies, exists_const, exists_eq_right, binA, intA, loadA, storeA, pickC, setAt, mapO, argsE, X.isC, resA, oneA, unA, boundA, eqiA, eqsA, fillA, fillE, ASt.fz, strA, Nat.reduceEqDiff, Nat.reduceLT, ↓reduceIte, reduceCtorEq, Nat.reduceAdd, Nat.reduceLeDiff, Int.reduceBEq, Int.reduceBNe, Int.reduceLT, Int.reduceLE, Int.reduceGT, Int.reduceGE, Nat.reduceDiv, Nat.reduceMul, Nat.reduceBEq, Nat.reduceMod, Nat.reduceSub, List.length_append, List.append_assoc, app_get_len, app_get_add, app_set_len, app_set_add, e0, e1, e2, e8, e9, e10, e11, e13, e14, e15, e16, e19, e20, e21, hdec, h13, hi', hat3, hra, hdg, hml, hkw, x1, x2, Nat.mul_one, List.head?_cons]
      exact EQ_in ⟨d + 1, by omega, i13, hi', h13, ⟨Z', rfl⟩, rfl, e0, e1, e2, e8, e9, e10, e11, e13, e14, rfl, next_ixv (by unfold lenB; omega), e19, e20, e21, by omega⟩
    · have hdec : decide (((k + 1 + d : Nat) : Int) < (n : Int)) = false := decide_eq_false (by omega)
      obtain rfl : d = pt.length - (k + 1) := by omega
      rw [← sumR] at e15
      have hb1 := hsm (pt.length - (k + 1)) (by omega)
      rw [← sumR] at hb1
      have hS : sumR r.A pt k = sumR r.A pt k := rfl
      have hka := hrE.bA _ (List.mem_of_getElem? (show r.A[k]? = some (r.A.getD k 0) by rw [List.getD_eq_getElem?_getD, List.getElem?_eq_getElem (by rw [hrE.lA]; omega)]; rfl))
      unfold limB at hka
      have hstep : stepC k pt b r = if r.A.getD k 0 > 0 then (b.1, if b.2.isNone || decide (flD (-sumR r.A pt k) (r.A.getD k 0) < b.2.getD 0) then some (flD (-sumR r.A pt k) (r.A.getD k 0)) else b.2)
        else if r.A.getD k 0 < 0 then (if b.1.isNone || decide (-flD (-sumR r.A pt k) (-r.A.getD k 0) > b.1.getD 0) then some (-flD (-sumR r.A pt k) (-r.A.getD k 0)) else b.1, b.2)
        else b := rfl
      rw [hstep] at hfold
      generalize sumR r.A pt k = S at *
      generalize r.A.getD k 0 = a at *
      clear hS hstep
      obtain ⟨blo, bhi⟩ := b
      simp only at e8 e9 e10 e11 hfold
      by_cases ha : a > 0
      · have ca : decide (a > 0) = true := decide_eq_true ha
        rw [if_pos ha] at hfold
        have x1 : IntKind.i64.wrap (0 - S) = -S := by rw [wrap_in (by unfold Eng.in64; omega)]; omega
        obtain ⟨_, rfl, c40⟩ := (floor_ret (n := -S) (d := a) (by omega) ha).call rfl (by simp [pvs_cons, pvs_nil, pv_v])
        cases hn : bhi with
        | none =>
          rw [hn] at e9 e11
          simp only [hn, Option.isNone_none, Bool.true_or, if_true] at hfold
          simp only [↓wpre, wset, wcore, ne_eq, if_true, if_false, exists_eq_left', true_implies, false_implies, exists_const, exists_eq_right, binA, intA, loadA, storeA, pickC, setAt, mapO, argsE, X.isC, resA, oneA, unA, boundA, eqiA, eqsA, fillA, fillE, ASt.fz, strA, Nat.reduceEqDiff, Nat.reduceLT, ↓reduceIte, reduceCtorEq, Nat.reduceAdd, Nat.reduceLeDiff, Int.reduceBEq, Int.reduceBNe, Int.reduceLT, Int.reduceLE, Int.reduceGT, Int.reduceGE, Nat.reduceDiv, Nat.reduceMul, Nat.reduceBEq, Nat.reduceMod, Nat.reduceSub, List.length_append, List.append_assoc, app_get_len, app_get_add, app_set_len, app_set_add, e0, e1, e2, e8, e9, e10, e11, e13, e14, e15, e16, e19, e20, e21, hdec, ca, x1, c40]
          exact EQ_in ⟨j + 1, by omega, Z', (blo, some (flD (-S) a)), rfl, rfl, hfold.symm, e0, e1, e2, e8, rfl, e10, rfl, e19, e20, next_ixv (by unfold lenB; omega), by omega⟩
        | some hi =>
          rw [hn] at e9 e11
          simp only [hn, Option.isNone_some, Bool.false_or, Option.getD_some] at hfold
          cases cv : decide (flD (-S) a < hi)
          · simp only [cv, Bool.false_eq_true, if_false] at hfold
            simp only [↓wpre, wset, wcore, ne_eq, if_true, if_false, exists_eq_left', true_implies, false_implies, exists_const, exists_eq_right, binA, intA, loadA, storeA, pickC, setAt, mapO, argsE, X.isC, resA, oneA, unA, boundA, eqiA, eqsA, fillA, fillE, ASt.fz, strA, Nat.reduceEqDiff, Nat.reduceLT, ↓reduceIte, reduceCtorEq, Nat.reduceAdd, Nat.reduceLeDiff, Int.reduceBEq, Int.reduceBNe, Int.reduceLT, Int.reduceLE, Int.reduceGT, Int.reduceGE, Nat.reduceDiv, Nat.reduceMul, Nat.reduceBEq, Nat.reduceMod, Nat.reduceSub, List.length_append, List.append_assoc, app_get_len, app_get_add, app_set_len, app_set_add, e0, e1, e2, e8, e9, e10, e11, e13, e14, e15, e16, e19, e20, e21, hdec, ca, x1, c40, cv]
            exact EQ_in ⟨j + 1, by omega, Z', (blo, some hi), rfl, rfl, hfold.symm, e0, e1, e2, e8, e9, e10, e11, e19, e20, next_ixv (by unfold lenB; omega), by omega⟩
          · simp only [cv, if_true] at hfold
            simp only [↓wpre, wset, wcore, ne_eq, if_true, if_false, exists_eq_left', true_implies, false_implies, exists_const, exists_eq_right, binA, intA, loadA, storeA, pickC, setAt, mapO, argsE, X.isC, resA, oneA, unA, boundA, eqiA, eqsA, fillA, fillE, ASt.fz, strA, Nat.reduceEqDiff, Nat.reduceLT, ↓reduceIte, reduceCtorEq, Nat.reduceAdd, Nat.reduceLeDiff, Int.reduceBEq, Int.reduceBNe, Int.reduceLT, Int.reduceLE, Int.reduceGT, Int.reduceGE, Nat.reduceDiv, Nat.reduceMul, Nat.reduceBEq, Nat.reduceMod, Nat.reduceSub, List.length_append, List.append_assoc, app_get_len, app_get_add, app_set_len, app_set_add, e0, e1, e2, e8, e9, e10, e11, e13, e14, e15, e16, e19, e20, e21, hdec, ca, x1, c40, cv]
            exact EQ_in ⟨j + 1, by omega, Z', (blo, some (flD (-S) a)), rfl, rfl, hfold.symm, e0, e1, e2, e8, rfl, e10, rfl, e19, e20, next_ixv (by unfold lenB; omega), by omega⟩
      · have ca : decide (a > 0) = false := decide_eq_false ha
        rw [if_neg ha] at hfold
        by_cases hb' : a < 0
        · have cb : decide (a < 0) = true := decide_eq_true hb'
          rw [if_pos hb'] at hfold
          have x1 : IntKind.i64.wrap (0 - S) = -S := by rw [wrap_in (by unfold Eng.in64; omega)]; omega
          have x2 : IntKind.i64.wrap (0 - a) = -a := by rw [wrap_in (by unfold Eng.in64; omega)]; omega
          have hfb := flD_bnd (n := -S) (d := -a) (by omega)
          have x3 : IntKind.i64.wrap (0 - flD (-S) (-a)) = -flD (-S) (-a) := by rw [wrap_in (by unfold Eng.in64; omega)]; omega
          obtain ⟨_, rfl, c40⟩ := (floor_ret (n := -S) (d := -a) (by omega) (by omega)).call rfl (by simp [pvs_cons, pvs_nil, pv_v])
          cases hn : blo with
          | none =>
            rw [hn] at e8 e10
            simp only [hn, Option.isNone_none, Bool.true_or, if_true] at hfold
            simp only [↓wpre, wset, wcore, ne_eq, if_true, if_false, exists_eq_left', true_implies, false_implies, exists_const, exists_eq_right, binA, intA, loadA, storeA, pickC, setAt, mapO, argsE, X.isC, resA, oneA, unA, boundA, eqiA, eqsA, fillA, fillE, ASt.fz, strA, Nat.reduceEqDiff, Nat.reduceLT, ↓reduceIte, reduceCtorEq, Nat.reduceAdd, Nat.reduceLeDiff, Int.reduceBEq, Int.reduceBNe, Int.reduceLT, Int.reduceLE, Int.reduceGT, Int.reduceGE, Nat.reduceDiv, Nat.reduceMul, Nat.reduceBEq, Nat.reduceMod, Nat.reduceSub, List.length_append, List.append_assoc, app_get_len, app_get_add, app_set_len, app_set_add, e0, e1, e2, e8, e9, e10, e11, e13, e14, e15, e16, e19, e20, e21, hdec, ca, cb, x1, x2, x3, c40]
            exact EQ_in ⟨j + 1, by omega, Z', (some (-flD (-S) (-a)), bhi), rfl, rfl, hfold.symm, e0, e1, e2, rfl, e9, rfl, e11, e19, e20, next_ixv (by unfold lenB; omega), by omega⟩
          | some lo =>
            rw [hn] at e8 e10
            simp only [hn, Option.isNone_some, Bool.false_or, Option.getD_some] at hfold
            cases cv : decide (-flD (-S) (-a) > lo)
            · simp only [cv, Bool.false_eq_true, if_false] at hfold
              simp only [↓wpre, wset, wcore, ne_eq, if_true, if_false, exists_eq_left', true_implies, false_implies, exists_const, exists_eq_right, binA, intA, loadA, storeA, pickC, setAt, mapO, argsE, X.isC, resA, oneA, unA, boundA, eqiA, eqsA, fillA, fillE, ASt.fz, strA, Nat.reduceEqDiff, Nat.reduceLT, ↓reduceIte, reduceCtorEq, Nat.reduceAdd, Nat.reduceLeDiff, Int.reduceBEq, Int.reduceBNe, Int.reduceLT, Int.reduceLE, Int.reduceGT, Int.reduceGE, Nat.reduceDiv, Nat.reduceMul, Nat.reduceBEq, Nat.reduceMod, Nat.reduceSub, List.length_append, List.append_assoc, app_get_len, app_get_add, app_set_len, app_set_add, e0, e1, e2, e8, e9, e10, e11, e13, e14, e15, e16, e19, e20, e21, hdec, ca, cb, x1, x2, x3, c40, cv]
              exact EQ_in ⟨j + 1, by omega, Z', (some lo, bhi), rfl, rfl, hfold.symm, e0, e1, e2, e8, e9, e10, e11, e19, e20, next_ixv (by unfold lenB; omega), by omega⟩
            · simp only [cv, if_true] at hfold
              simp only [↓wpre, wset, wcore, ne_eq, if_true, if_false, exists_eq_left', true_implies, false_implies, exists_const, exists_eq_right, binA, intA, loadA, storeA, pickC, setAt, mapO, argsE, X.isC, resA, oneA, unA, boundA, eqiA, eqsA, fillA, fillE, ASt.fz, strA, Nat.reduceEqDiff, Nat.reduceLT, ↓reduceIte, reduceCtorEq, Nat.reduceAdd, Nat.reduceLeDiff, Int.reduceBEq, Int.reduceBNe, Int.reduceLT, Int.reduceLE, Int.reduceGT, Int.reduceGE, Nat.reduceDiv, Nat.reduceMul, Nat.reduceBEq, Nat.reduceMod, Nat.reduceSub, List.length_append, List.append_assoc, app_get_len, app_get_add, app_set_len, app_set_add, e0, e1, e2, e8, e9, e10, e11, e13, e14, e15, e16, e19, e20, e21, hdec, ca, cb, x1, x2, x3, c40, cv]
              exact EQ_in ⟨j + 1, by omega, Z', (some (-flD (-S) (-a)), bhi), rfl, rfl, hfold.symm, e0, e1, e2, rfl, e9, rfl, e11, e19, e20, next_ixv (by unfold lenB; omega), by omega⟩
        · have cb : decide (a < 0) = false := decide_eq_false hb'
          rw [if_neg hb'] at hfold
          simp only [↓wpre, wset, wcore, ne_eq, if_true, if_false, exists_eq_left', true_implies, false_implies, exists_const, exists_eq_right, binA, intA, loadA, storeA, pickC, setAt, mapO, argsE, X.isC, resA, oneA, unA, boundA, eqiA, eqsA, fillA, fillE, ASt.fz, strA, Nat.reduceEqDiff, Nat.reduceLT, ↓reduceIte, reduceCtorEq, Nat.reduceAdd, Nat.reduceLeDiff, Int.reduceBEq, Int.reduceBNe, Int.reduceLT, Int.reduceLE, Int.reduceGT, Int.reduceGE, Nat.reduceDiv, Nat.reduceMul, Nat.reduceBEq, Nat.reduceMod, Nat.reduceSub, List.length_append, List.append_assoc, app_get_len, app_get_add, app_set_len, app_set_add, e0, e1, e2, e8, e9, e10, e11, e13, e14, e15, e16, e19, e20, e21, hdec, ca, cb]
          exact EQ_in ⟨j + 1, by omega, Z', (blo, bhi), rfl, rfl, hfold.symm, e0, e1, e2, e8, e9, e10, e11, e19, e20, next_ixv (by unfold lenB; omega), by omega⟩
  · have hdec : decide ((j : Int) < (al.length : Int)) = false := by simpa using hge
    rw [List.take_of_length_le (by omega)] at hb
    have hch : chooseR l k pt = endC b := by rw [chooseR, ← hb]
    obtain ⟨blo, bhi⟩ := b
    clear hb
    rw [hch, endC]
    simp only at e8 e9 e10 e11
    cases blo with
    | none =>
      cases bhi with
      | none =>
        simp only [↓wpre, wset, wcore, ne_eq, if_true, if_false, exists_eq_left', true_implies, false_implies, exists_const, exists_eq_right, binA, intA, loadA, storeA, pickC, setAt, mapO, argsE, X.isC, resA, oneA, unA, boundA, eqiA, eqsA, fillA, fillE, ASt.fz, strA, Nat.reduceEqDiff, Nat.reduceLT, ↓reduceIte, reduceCtorEq, Nat.reduceAdd, Nat.reduceLeDiff, Int.reduceBEq, Int.reduceBNe, Int.reduceLT, Int.reduceLE, Int.reduceGT, Int.reduceGE, Nat.reduceDiv, Nat.reduceMul, Nat.reduceBEq, Nat.reduceMod, Nat.reduceSub, e0, e1, e2, e8, e9, e10, e11, e19, e20, e21, hdec]
        exact ⟨rfl, Z, rfl⟩
      | some hi =>
        cases cd : decide (hi < 0)
        · simp only [↓wpre, wset, wcore, ne_eq, if_true, if_false, exists_eq_left', true_implies, false_implies, exists_const, exists_eq_right, binA, intA, loadA, storeA, pickC, setAt, mapO, argsE, X.isC, resA, oneA, unA, boundA, eqiA, eqsA, fillA, fillE, ASt.fz, strA, Nat.reduceEqDiff, Nat.reduceLT, ↓reduceIte, reduceCtorEq, Nat.reduceAdd, Nat.reduceLeDiff, Int.reduceBEq, Int.reduceBNe, Int.reduceLT, Int.reduceLE, Int.reduceGT, Int.reduceGE, Nat.reduceDiv, Nat.reduceMul, Nat.reduceBEq, Nat.reduceMod, Nat.reduceSub, e0, e1, e2, e8, e9, e10, e11, e19, e20, e21, hdec, cd]
          exact ⟨rfl, Z, rfl⟩
        · simp only [↓wpre, wset, wcore, ne_eq, if_true, if_false, exists_eq_left', true_implies, false_implies, exists_const, exists_eq_right, binA, intA, loadA, storeA, pickC, setAt, mapO, argsE, X.isC, resA, oneA, unA, boundA, eqiA, eqsA, fillA, fillE, ASt.fz, strA, Nat.reduceEqDiff, Nat.reduceLT, ↓reduceIte, reduceCtorEq, Nat.reduceAdd, Nat.reduceLeDiff, Int.reduceBEq, Int.reduceBNe, Int.reduceLT, Int.reduceLE, Int.reduceGT, Int.reduceGE, Nat.reduceDiv, Nat.reduceMul, Nat.reduceBEq, Nat.reduceMod, Nat.reduceSub, e0, e1, e2, e8, e9, e10, e11, e19, e20, e21, hdec, cd]
          exact ⟨rfl, Z, rfl⟩
    | some lo =>
      cases bhi with
      | none =>
        cases cc : decide (lo > 0)
        · simp only [↓wpre, wset, wcore, ne_eq, if_true, if_false, exists_eq_left', true_implies, false_implies, exists_const, exists_eq_right, binA, intA, loadA, storeA, pickC, setAt, mapO, argsE, X.isC, resA, oneA, unA, boundA, eqiA, eqsA, fillA, fillE, ASt.fz, strA, Nat.reduceEqDiff, Nat.reduceLT, ↓reduceIte, reduceCtorEq, Nat.reduceAdd, Nat.reduceLeDiff, Int.reduceBEq, Int.reduceBNe, Int.reduceLT, Int.reduceLE, Int.reduceGT, Int.reduceGE, Nat.reduceDiv, Nat.reduceMul, Nat.reduceBEq, Nat.reduceMod, Nat.reduceSub, e0, e1, e2, e8, e9, e10, e11, e19, e20, e21, hdec, cc]
          exact ⟨rfl, Z, rfl⟩
        · simp only [↓wpre, wset, wcore, ne_eq, if_true, if_false, exists_eq_left', true_implies, false_implies, exists_const, exists_eq_right, binA, intA, loadA, storeA, pickC, setAt, mapO, argsE, X.isC, resA, oneA, unA, boundA, eqiA, eqsA, fillA, fillE, ASt.fz, strA, Nat.reduceEqDiff, Nat.reduceLT, ↓reduceIte, reduceCtorEq, Nat.reduceAdd, Nat.reduceLeDiff, Int.reduceBEq, Int.reduceBNe, Int.reduceLT, Int.reduceLE, Int.reduceGT, Int.reduceGE, Nat.reduceDiv, Nat.reduceMul, Nat.reduceBEq, Nat.reduceMod, Nat.reduceSub, e0, e1, e2, e8, e9, e10, e11, e19, e20, e21, hdec, cc]
          exact ⟨rfl, Z, rfl⟩
      | some hi =>
        cases ce : decide (lo > hi)
        · cases cc : decide (lo > 0)
          · cases cd : decide (hi < 0)
            · simp only [↓wpre, wset, wcore, ne_eq, if_true, if_false, exists_eq_left', true_implies, false_implies, exists_const, exists_eq_right, binA, intA, loadA, storeA, pickC, setAt, mapO, argsE, X.isC, resA, oneA, unA, boundA, eqiA, eqsA, fillA, fillE, ASt.fz, strA, Nat.reduceEqDiff, Nat.reduceLT, ↓reduceIte, reduceCtorEq, Nat.reduceAdd, Nat.reduceLeDiff, Int.reduceBEq, Int.reduceBNe, Int.reduceLT, Int.reduceLE, Int.reduceGT, Int.reduceGE, Nat.reduceDiv, Nat.reduceMul, Nat.reduceBEq, Nat.reduceMod, Nat.reduceSub, e0, e1, e2, e8, e9, e10, e11, e19, e20, e21, hdec, ce, cc, cd]
              exact ⟨rfl, Z, rfl⟩
            · simp only [↓wpre, wset, wcore, ne_eq, if_true, if_false, exists_eq_left', true_implies, false_implies, exists_const, exists_eq_right, binA, intA, loadA, storeA, pickC, setAt, mapO, argsE, X.isC, resA, oneA, unA, boundA, eqiA, eqsA, fillA, fillE, ASt.fz, strA, Nat.reduceEqDiff, Nat.reduceLT, ↓reduceIte, reduceCtorEq, Nat.reduceAdd, Nat.reduceLeDiff, Int.reduceBEq, Int.reduceBNe, Int.reduceLT, Int.reduceLE, Int.reduceGT, Int.reduceGE, Nat.reduceDiv, Nat.reduceMul, Nat.reduceBEq, Nat.reduceMod, Nat.reduceSub, e0, e1, e2, e8, e9, e10, e11, e19, e20, e21, hdec, ce, cc, cd]
              exact ⟨rfl, Z, rfl⟩
          · simp only [↓wpre, wset, wcore, ne_eq, if_true, if_false, exists_eq_left', true_implies, false_implies, exists_const, exists_eq_right, binA, intA, loadA, storeA, pickC, setAt, mapO, argsE, X.isC, resA, oneA, unA, boundA, eqiA, eqsA, fillA, fillE, ASt.fz, strA, Nat.reduceEqDiff, Nat.reduceLT, ↓reduceIte, reduceCtorEq, Nat.reduceAdd, Nat.reduceLeDiff, Int.reduceBEq, Int.reduceBNe, Int.reduceLT, Int.reduceLE, Int.reduceGT, Int.reduceGE, Nat.reduceDiv, Nat.reduceMul, Nat.reduceBEq, Nat.reduceMod, Nat.reduceSub, e0, e1, e2, e8, e9, e10, e11, e19, e20, e21, hdec, ce, cc]
            exact ⟨rfl, Z, rfl⟩
        · simp only [↓wpre, wset, wcore, ne_eq, if_true, if_false, exists_eq_left', true_implies, false_implies, exists_const, exists_eq_right, binA, intA, loadA, storeA, pickC, setAt, mapO, argsE, X.isC, resA, oneA, unA, boundA, eqiA, eqsA, fillA, fillE, ASt.fz, strA, Nat.reduceEqDiff, Nat.reduceLT, ↓reduceIte, reduceCtorEq, Nat.reduceAdd, Nat.reduceLeDiff, Int.reduceBEq, Int.reduceBNe, Int.reduceLT, Int.reduceLE, Int.reduceGT, Int.reduceGE, Nat.reduceDiv, Nat.reduceMul, Nat.reduceBEq, Nat.reduceMod, Nat.reduceSub, e0, e1, e2, e8, e9, e10, e11, e19, e20, e21, hdec, ce]
          exact ⟨rfl, Z, rfl⟩
end Go.Proofs.Eng
