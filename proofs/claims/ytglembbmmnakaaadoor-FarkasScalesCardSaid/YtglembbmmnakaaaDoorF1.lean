/- Which systems are right: the program's check and the reference's Right. No conditions beyond those in the theorems. -/
import Derived.Test.YtglembbmmnakaaaDoorD41
set_option linter.all false
set_option linter.deprecated false
set_option linter.unnecessarySimpa false
set_option linter.unusedVariables false
set_option linter.unusedSimpArgs false
set_option linter.defProp false
namespace Go.Proofs.Eng
open Go Go.Proofs
set_option maxRecDepth 100000
set_option maxHeartbeats 16000000
def badLen (h : Nat) (r : List Int) : Bool := decide (r.length = 0) || decide (r.length ≠ h)
def badNum (n : Int) : Bool := decide (n < -1000000) || decide (n > 1000000)
/-- The error of a system. -/
def rightR (rows : List (List Int)) : Int :=
  if rows.length > 24 then 6
  else if rows.any (badLen (rows.headD []).length) = true then 3
  else if rows.length > 0 ∧ (rows.headD []).length > 9 then 6
  else if rows.any (fun r => r.any badNum) = true then 2 else 0
theorem any_step {α : Type} {l : List α} {j : Nat} {x : α} {P : α → Bool} (h : (l.take j).any P = false) (hx : l[j]? = some x) (hp : P x = false) : (l.take (j + 1)).any P = false := by
  have : l.take (j + 1) = l.take j ++ [x] := by rw [List.take_add_one, hx]; rfl
  rw [this, List.any_append, h]; simp [hp]
theorem any_hit {α : Type} {l : List α} {j : Nat} {x : α} {P : α → Bool} (hx : l[j]? = some x) (hp : P x = true) : l.any P = true := List.any_eq_true.2 ⟨x, List.mem_of_getElem? hx, hp⟩
theorem any_all {α : Type} {l : List α} {j : Nat} {P : α → Bool} (h : (l.take j).any P = false) (hj : l.length ≤ j) : l.any P = false := by rw [List.take_of_length_le hj] at h; exact h
theorem head_of {rows : List (List Int)} {al : List AV} (h : LIs RowIs rows al) (hl : 0 < al.length) : ∃ t, al[0]? = some (.sl (ints (rows.headD [])) t) ∧ (rows.headD []).length ≤ lenB := by
  obtain ⟨x, t, h1, _, h3, _, h5, _⟩ := row_get h hl
  cases rows with
  | nil => simp at h1
  | cons r rows => simp at h1; subst h1; exact ⟨t, h3, h5⟩
theorem badLen_0 {h : Nat} {r : List Int} (h0 : r.length = 0) : badLen h r = true := by unfold badLen; rw [decide_eq_true h0]; rfl
theorem badLen_1 {h : Nat} {r : List Int} (h0 : ¬ r.length = h) : badLen h r = true := by unfold badLen; rw [decide_eq_true (p := r.length ≠ h) h0, Bool.or_true]
theorem badLen_f {h : Nat} {r : List Int} (h0 : ¬ r.length = 0) (h1 : r.length = h) : badLen h r = false := by unfold badLen; rw [decide_eq_false h0, decide_eq_false (by omega)]; rfl
theorem check_ret {rows : List (List Int)} {al : List AV} {t : Tl} (h : LIs RowIs rows al) (hl : al.length ≤ lenB) : Out md pfs 22 [.sl al t] (· = .int (rightR rows)) fun _ => False := by
  have hlen := h.len
  refine out_of pf22_is (Nat.le_of_ble_eq_true rfl) ?_
  by_cases h24 : rows.length > 24
  · have d1 : decide ((al.length : Int) > 24) = true := by simp only [decide_eq_true_eq]; omega
    simp only [pf22, ↓wpre, wset, wcore, ne_eq, if_true, if_false, exists_eq_left', true_implies, false_implies, exists_const, exists_eq_right, binA, intA, loadA, storeA, pickC, setAt, mapO, argsE, X.isC, resA, oneA, unA, boundA, eqiA, eqsA, fillA, fillE, ASt.fz, strA, Nat.reduceEqDiff, Nat.reduceLT, ↓reduceIte, reduceCtorEq, Nat.reduceAdd, Nat.reduceLeDiff, Int.reduceBEq, Int.reduceBNe, Int.reduceLT, Int.reduceLE, Int.reduceGT, Int.reduceGE, Nat.reduceDiv, Nat.reduceMul, Nat.reduceBEq, Nat.reduceMod, Nat.reduceSub, d1]
    rw [rightR, if_pos h24]
  · have d1 : decide ((al.length : Int) > 24) = false := by simp only [decide_eq_false_iff_not]; omega
    simp only [pf22, ↓wpre, wset, wcore, ne_eq, if_true, if_false, exists_eq_left', true_implies, false_implies, exists_const, exists_eq_right, binA, intA, loadA, storeA, pickC, setAt, mapO, argsE, X.isC, resA, oneA, unA, boundA, eqiA, eqsA, fillA, fillE, ASt.fz, strA, Nat.reduceEqDiff, Nat.reduceLT, ↓reduceIte, reduceCtorEq, Nat.reduceAdd, Nat.reduceLeDiff, Int.reduceBEq, Int.reduceBNe, Int.reduceLT, Int.reduceLE, Int.reduceGT, Int.reduceGE, Nat.reduceDiv, Nat.reduceMul, Nat.reduceBEq, Nat.reduceMod, Nat.reduceSub, d1]
    refine W_loopE (fun j => al.length - j) (fun j E H T => E 0 = .sl al t ∧ E 12 = .sl al t ∧ E 13 = .int al.length ∧ E 14 = .int (j : Nat) ∧ j ≤ al.length ∧ (rows.take j).any (badLen (rows.headD []).length) = false) ?_ 0 ⟨rfl, rfl, rfl, rfl, Nat.zero_le _, by simp⟩
    rintro j E H T ⟨e0, e12, e13, e14, hj, hany⟩
    have hall := rows_all h
    rcases Nat.lt_or_ge j al.length with hlt | hge
    · have hdec : decide ((j : Int) < al.length) = true := by simpa using hlt
      obtain ⟨x, tx, g1, g2, g3, g4, g5, g6⟩ := row_get h hlt
      obtain ⟨t0, k1, k2⟩ := head_of h (by omega)
      by_cases hx0 : x.length = 0
      · have c1 : (((ints x).length : Int) == 0) = true := by simp [ints_len, hx0]
        simp only [↓wpre, wset, wcore, ne_eq, if_true, if_false, exists_eq_left', true_implies, false_implies, exists_const, exists_eq_right, binA, intA, loadA, storeA, pickC, setAt, mapO, argsE, X.isC, resA, oneA, unA, boundA, eqiA, eqsA, fillA, fillE, ASt.fz, strA, Nat.reduceEqDiff, Nat.reduceLT, ↓reduceIte, reduceCtorEq, Nat.reduceAdd, Nat.reduceLeDiff, Int.reduceBEq, Int.reduceBNe, Int.reduceLT, Int.reduceLE, Int.reduceGT, Int.reduceGE, Nat.reduceDiv, Nat.reduceMul, Nat.reduceBEq, Nat.reduceMod, Nat.reduceSub, e0, e12, e13, e14, hdec, g3, hall, c1]
        rw [rightR, if_neg h24, if_pos (any_hit g1 (badLen_0 hx0))]
      · have c1 : (((ints x).length : Int) == 0) = false := by simp [ints_len, hx0]
        by_cases hxh : x.length = (rows.headD []).length
        · have c2 : (((ints x).length : Int) != ((ints (rows.headD [])).length : Int)) = false := by simp [ints_len, hxh]
          simp only [↓wpre, wset, wcore, ne_eq, if_true, if_false, exists_eq_left', true_implies, false_implies, exists_const, exists_eq_right, binA, intA, loadA, storeA, pickC, setAt, mapO, argsE, X.isC, resA, oneA, unA, boundA, eqiA, eqsA, fillA, fillE, ASt.fz, strA, Nat.reduceEqDiff, Nat.reduceLT, ↓reduceIte, reduceCtorEq, Nat.reduceAdd, Nat.reduceLeDiff, Int.reduceBEq, Int.reduceBNe, Int.reduceLT, Int.reduceLE, Int.reduceGT, Int.reduceGE, Nat.reduceDiv, Nat.reduceMul, Nat.reduceBEq, Nat.reduceMod, Nat.reduceSub, e0, e12, e13, e14, hdec, g3, hall, c1, k1, c2]
          exact EQ_in ⟨j + 1, by omega, e0, e12, e13, next_ixv (by omega), by omega, any_step hany g1 (badLen_f hx0 hxh)⟩
        · have c2 : (((ints x).length : Int) != ((ints (rows.headD [])).length : Int)) = true := by simp only [ints_len, bne_iff_ne, ne_eq]; omega
          simp only [↓wpre, wset, wcore, ne_eq, if_true, if_false, exists_eq_left', true_implies, false_implies, exists_const, exists_eq_right, binA, intA, loadA, storeA, pickC, setAt, mapO, argsE, X.isC, resA, oneA, unA, boundA, eqiA, eqsA, fillA, fillE, ASt.fz, strA, Nat.reduceEqDiff, Nat.reduceLT, ↓reduceIte, reduceCtorEq, Nat.reduceAdd, Nat.reduceLeDiff, Int.reduceBEq, Int.reduceBNe, Int.reduceLT, Int.reduceLE, Int.reduceGT, Int.reduceGE, Nat.reduceDiv, Nat.reduceMul, Nat.reduceBEq, Nat.reduceMod, Nat.reduceSub, e0, e12, e13, e14, hdec, g3, hall, c1, k1, c2]
          rw [rightR, if_neg h24, if_pos (any_hit g1 (badLen_1 hxh))]
    · have hdec : decide ((j : Int) < al.length) = false := by simpa using hge
      have hA := any_all hany (by omega)
      by_cases h0 : rows.length > 0
      · have c0 : decide ((al.length : Int) > 0) = true := by simp only [decide_eq_true_eq]; omega
        obtain ⟨t0, k1, k2⟩ := head_of h (by omega)
        by_cases h9 : (rows.headD []).length > 9
        · have c1 : decide ((((ints (rows.headD [])).length : Nat) : Int) > 9) = true := by rw [ints_len]; simp only [decide_eq_true_eq]; omega
          simp only [↓wpre, wset, wcore, ne_eq, if_true, if_false, exists_eq_left', true_implies, false_implies, exists_const, exists_eq_right, binA, intA, loadA, storeA, pickC, setAt, mapO, argsE, X.isC, resA, oneA, unA, boundA, eqiA, eqsA, fillA, fillE, ASt.fz, strA, Nat.reduceEqDiff, Nat.reduceLT, ↓reduceIte, reduceCtorEq, Nat.reduceAdd, Nat.reduceLeDiff, Int.reduceBEq, Int.reduceBNe, Int.reduceLT, Int.reduceLE, Int.reduceGT, Int.reduceGE, Nat.reduceDiv, Nat.reduceMul, Nat.reduceBEq, Nat.reduceMod, Nat.reduceSub, e0, e12, e13, e14, hdec, c0, hall, k1, c1]
          rw [rightR, if_neg h24, if_neg (by rw [hA]; exact Bool.false_ne_true), if_pos ⟨h0, h9⟩]
        · have c1 : decide ((((ints (rows.headD [])).length : Nat) : Int) > 9) = false := by rw [ints_len]; simp only [decide_eq_false_iff_not]; omega
          simp only [↓wpre, wset, wcore, ne_eq, if_true, if_false, exists_eq_left', true_implies, false_implies, exists_const, exists_eq_right, binA, intA, loadA, storeA, pickC, setAt, mapO, argsE, X.isC, resA, oneA, unA, boundA, eqiA, eqsA, fillA, fillE, ASt.fz, strA, Nat.reduceEqDiff, Nat.reduceLT, ↓reduceIte, reduceCtorEq, Nat.reduceAdd, Nat.reduceLeDiff, Int.reduceBEq, Int.reduceBNe, Int.reduceLT, Int.reduceLE, Int.reduceGT, Int.reduceGE, Nat.reduceDiv, Nat.reduceMul, Nat.reduceBEq, Nat.reduceMod, Nat.reduceSub, e0, e12, e13, e14, hdec, c0, hall, k1, c1]
          refine W_loopE (fun j => al.length - j) (fun j E H T => E 0 = .sl al t ∧ E 41 = .sl al t ∧ E 42 = .int al.length ∧ E 43 = .int (j : Nat) ∧ j ≤ al.length ∧ (rows.take j).any (fun r => r.any badNum) = false) ?_ 0 ⟨e0, rfl, rfl, rfl, Nat.zero_le _, by simp⟩
          clear e0 e12 e13 e14 hj hdec hge hany E H T j
          rintro j E H T ⟨e0, e41, e42, e43, hj, hany⟩
          rcases Nat.lt_or_ge j al.length with hlt | hge
          · have hdec : decide ((j : Int) < al.length) = true := by simpa using hlt
            obtain ⟨x, tx, g1, g2, g3, g4, g5, g6⟩ := row_get h hlt
            simp only [↓wpre, wset, wcore, ne_eq, if_true, if_false, exists_eq_left', true_implies, false_implies, exists_const, exists_eq_right, binA, intA, loadA, storeA, pickC, setAt, mapO, argsE, X.isC, resA, oneA, unA, boundA, eqiA, eqsA, fillA, fillE, ASt.fz, strA, Nat.reduceEqDiff, Nat.reduceLT, ↓reduceIte, reduceCtorEq, Nat.reduceAdd, Nat.reduceLeDiff, Int.reduceBEq, Int.reduceBNe, Int.reduceLT, Int.reduceLE, Int.reduceGT, Int.reduceGE, Nat.reduceDiv, Nat.reduceMul, Nat.reduceBEq, Nat.reduceMod, Nat.reduceSub, e0, e41, e42, e43, hdec, g3, hall, ints_len]
            refine W_loopE (fun k => x.length - k) (fun k E H T => E 0 = .sl al t ∧ E 41 = .sl al t ∧ E 42 = .int al.length ∧ E 43 = .int (j : Nat) ∧ E 47 = .sl (ints x) tx ∧ E 48 = .int x.length ∧ E 49 = .int (k : Nat) ∧ k ≤ x.length ∧ (x.take k).any badNum = false) ?_ 0 ⟨e0, e41, e42, e43, rfl, rfl, rfl, Nat.zero_le _, by simp⟩
            clear e0 e41 e42 e43 hdec
            rintro k E H T ⟨e0, e41, e42, e43, e47, e48, e49, hk, hka⟩
            rcases Nat.lt_or_ge k x.length with hkl | hkg
            · have hdec : decide ((k : Int) < x.length) = true := by simpa using hkl
              obtain ⟨n, q1, _, q3⟩ := ints_get hkl
              have hai := ints_all x
              cases c1 : decide (n < -1000000)
              · cases c2 : decide (n > 1000000)
                · simp only [↓wpre, wset, wcore, ne_eq, if_true, if_false, exists_eq_left', true_implies, false_implies, exists_const, exists_eq_right, binA, intA, loadA, storeA, pickC, setAt, mapO, argsE, X.isC, resA, oneA, unA, boundA, eqiA, eqsA, fillA, fillE, ASt.fz, strA, Nat.reduceEqDiff, Nat.reduceLT, ↓reduceIte, reduceCtorEq, Nat.reduceAdd, Nat.reduceLeDiff, Int.reduceBEq, Int.reduceBNe, Int.reduceLT, Int.reduceLE, Int.reduceGT, Int.reduceGE, Nat.reduceDiv, Nat.reduceMul, Nat.reduceBEq, Nat.reduceMod, Nat.reduceSub, e0, e41, e42, e43, e47, e48, e49, hdec, q3, hai, c1, c2]
                  exact EQ_in ⟨k + 1, by omega, e0, e41, e42, e43, e47, e48, next_ixv (by omega), by omega, any_step hka q1 (by rw [badNum, c1, c2]; rfl)⟩
                · simp only [↓wpre, wset, wcore, ne_eq, if_true, if_false, exists_eq_left', true_implies, false_implies, exists_const, exists_eq_right, binA, intA, loadA, storeA, pickC, setAt, mapO, argsE, X.isC, resA, oneA, unA, boundA, eqiA, eqsA, fillA, fillE, ASt.fz, strA, Nat.reduceEqDiff, Nat.reduceLT, ↓reduceIte, reduceCtorEq, Nat.reduceAdd, Nat.reduceLeDiff, Int.reduceBEq, Int.reduceBNe, Int.reduceLT, Int.reduceLE, Int.reduceGT, Int.reduceGE, Nat.reduceDiv, Nat.reduceMul, Nat.reduceBEq, Nat.reduceMod, Nat.reduceSub, e0, e41, e42, e43, e47, e48, e49, hdec, q3, hai, c1, c2]
                  rw [rightR, if_neg h24, if_neg (by rw [hA]; exact Bool.false_ne_true), if_neg (fun h => h9 h.2), if_pos (any_hit g1 (any_hit q1 (by rw [badNum, c1, c2]; rfl)))]
              · simp only [↓wpre, wset, wcore, ne_eq, if_true, if_false, exists_eq_left', true_implies, false_implies, exists_const, exists_eq_right, binA, intA, loadA, storeA, pickC, setAt, mapO, argsE, X.isC, resA, oneA, unA, boundA, eqiA, eqsA, fillA, fillE, ASt.fz, strA, Nat.reduceEqDiff, Nat.reduceLT, ↓reduceIte, reduceCtorEq, Nat.reduceAdd, Nat.reduceLeDiff, Int.reduceBEq, Int.reduceBNe, Int.reduceLT, Int.reduceLE, Int.reduceGT, Int.reduceGE, Nat.reduceDiv, Nat.reduceMul, Nat.reduceBEq, Nat.reduceMod, Nat.reduceSub, e0, e41, e42, e43, e47, e48, e49, hdec, q3, hai, c1]
                rw [rightR, if_neg h24, if_neg (by rw [hA]; exact Bool.false_ne_true), if_neg (fun h => h9 h.2), if_pos (any_hit g1 (any_hit q1 (by rw [badNum, c1]; rfl)))]
            · have hdec : decide ((k : Int) < x.length) = false := by simpa using hkg
              simp only [↓wpre, wset, wcore, ne_eq, if_true, if_false, exists_eq_left', true_implies, false_implies, exists_const, exists_eq_right, binA, intA, loadA, storeA, pickC, setAt, mapO, argsE, X.isC, resA, oneA, unA, boundA, eqiA, eqsA, fillA, fillE, ASt.fz, strA, Nat.reduceEqDiff, Nat.reduceLT, ↓reduceIte, reduceCtorEq, Nat.reduceAdd, Nat.reduceLeDiff, Int.reduceBEq, Int.reduceBNe, Int.reduceLT, Int.reduceLE, Int.reduceGT, Int.reduceGE, Nat.reduceDiv, Nat.reduceMul, Nat.reduceBEq, Nat.reduceMod, Nat.reduceSub, e0, e41, e42, e43, e47, e48, e49, hdec]
              exact EQ_in ⟨j + 1, by omega, e0, e41, e42, next_ixv (by omega), by omega, any_step hany g1 (any_all hka hkg)⟩
          · have hdec : decide ((j : Int) < al.length) = false := by simpa using hge
            simp only [↓wpre, wset, wcore, ne_eq, if_true, if_false, exists_eq_left', true_implies, false_implies, exists_const, exists_eq_right, binA, intA, loadA, storeA, pickC, setAt, mapO, argsE, X.isC, resA, oneA, unA, boundA, eqiA, eqsA, fillA, fillE, ASt.fz, strA, Nat.reduceEqDiff, Nat.reduceLT, ↓reduceIte, reduceCtorEq, Nat.reduceAdd, Nat.reduceLeDiff, Int.reduceBEq, Int.reduceBNe, Int.reduceLT, Int.reduceLE, Int.reduceGT, Int.reduceGE, Nat.reduceDiv, Nat.reduceMul, Nat.reduceBEq, Nat.reduceMod, Nat.reduceSub, e0, e41, e42, e43, hdec]
            rw [rightR, if_neg h24, if_neg (by rw [hA]; exact Bool.false_ne_true), if_neg (fun h => h9 h.2), if_neg (by rw [any_all hany (by omega)]; exact Bool.false_ne_true)]
      · have c0 : decide ((al.length : Int) > 0) = false := by simp only [decide_eq_false_iff_not]; omega
        simp only [↓wpre, wset, wcore, ne_eq, if_true, if_false, exists_eq_left', true_implies, false_implies, exists_const, exists_eq_right, binA, intA, loadA, storeA, pickC, setAt, mapO, argsE, X.isC, resA, oneA, unA, boundA, eqiA, eqsA, fillA, fillE, ASt.fz, strA, Nat.reduceEqDiff, Nat.reduceLT, ↓reduceIte, reduceCtorEq, Nat.reduceAdd, Nat.reduceLeDiff, Int.reduceBEq, Int.reduceBNe, Int.reduceLT, Int.reduceLE, Int.reduceGT, Int.reduceGE, Nat.reduceDiv, Nat.reduceMul, Nat.reduceBEq, Nat.reduceMod, Nat.reduceSub, e0, e12, e13, e14, hdec, c0]
        refine W_loopE (fun j => j) (fun j E H T => E 42 = .int al.length ∧ E 43 = .int 0) ?_ 0 ⟨rfl, rfl⟩
        clear e0 e12 e13 e14 hj hdec hge hany E H T j
        rintro j E H T ⟨e42, e43⟩
        have hdec : decide ((0 : Int) < al.length) = false := by simp only [decide_eq_false_iff_not]; omega
        simp only [↓wpre, wset, wcore, ne_eq, if_true, if_false, exists_eq_left', true_implies, false_implies, exists_const, exists_eq_right, binA, intA, loadA, storeA, pickC, setAt, mapO, argsE, X.isC, resA, oneA, unA, boundA, eqiA, eqsA, fillA, fillE, ASt.fz, strA, Nat.reduceEqDiff, Nat.reduceLT, ↓reduceIte, reduceCtorEq, Nat.reduceAdd, Nat.reduceLeDiff, Int.reduceBEq, Int.reduceBNe, Int.reduceLT, Int.reduceLE, Int.reduceGT, Int.reduceGE, Nat.reduceDiv, Nat.reduceMul, Nat.reduceBEq, Nat.reduceMod, Nat.reduceSub, e42, e43, hdec]
        obtain rfl : rows = [] := List.length_eq_zero_iff.1 (by omega)
        rfl
end Go.Proofs.Eng
