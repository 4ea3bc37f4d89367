/- A1: what functions of the program return. No conditions beyond those in the theorems. -/
import Derived.Test.YtfopdknkbnhlkaaD55
set_option linter.all false
set_option linter.deprecated false
set_option linter.unnecessarySimpa false
set_option linter.unusedVariables false
set_option linter.unusedSimpArgs false
set_option linter.defProp false
namespace Go.Proofs.Eng
open Go Go.Proofs
set_option maxRecDepth 100000
abbrev AV.u8 (c : Int) : AV := .v (.int .u8 c)
def letB (c : Int) : Bool := decide (97 ≤ c ∧ c ≤ 122) || decide (65 ≤ c ∧ c ≤ 90) || decide (c = 95)
theorem letter (c : Int) : Out md pfs 67 [.u8 c] (· = .bool (letB c)) fun _ => False := by
  refine out_of pf67_is (Nat.le_of_ble_eq_true rfl) ?_
  cases h1 : decide (c ≥ 97) <;> cases h2 : decide (c ≤ 122) <;> cases h3 : decide (c ≥ 65) <;> cases h4 : decide (c ≤ 90) <;> cases h5 : c == 95
  all_goals
    simp only [pf67, ↓wpre, wset, wcore, ne_eq, if_true, if_false, exists_eq_left', true_implies, false_implies, exists_const, exists_eq_right, binA, intA, loadA, storeA, pickC, setAt, mapO, argsE, X.isC, resA, oneA, unA, boundA, eqiA, eqsA, fillA, fillE, ASt.fz, strA, Nat.reduceEqDiff, Nat.reduceLT, ↓reduceIte, reduceCtorEq, Nat.reduceAdd, Nat.reduceLeDiff, Int.reduceBEq, Int.reduceBNe, Int.reduceLT, Int.reduceLE, Int.reduceGT, Int.reduceGE, Nat.reduceDiv, Nat.reduceMul, h1, h2, h3, h4, h5]
    simp only [decide_eq_false_iff_not, decide_eq_true_eq, beq_iff_eq, beq_eq_false_iff_ne] at h1 h2 h3 h4 h5
    refine boolAV ?_
    simp [letB]
    omega
theorem refLetter (c : Int) : Out md pfs 69 [.u8 c] (· = .bool (letB c)) fun _ => False := by
  refine out_of pf69_is (Nat.le_of_ble_eq_true rfl) ?_
  cases h1 : decide (c ≥ 97) <;> cases h2 : decide (c ≤ 122) <;> cases h3 : decide (c ≥ 65) <;> cases h4 : decide (c ≤ 90) <;> cases h5 : c == 95
  all_goals
    simp only [pf69, ↓wpre, wset, wcore, ne_eq, if_true, if_false, exists_eq_left', true_implies, false_implies, exists_const, exists_eq_right, binA, intA, loadA, storeA, pickC, setAt, mapO, argsE, X.isC, resA, oneA, unA, boundA, eqiA, eqsA, fillA, fillE, ASt.fz, strA, Nat.reduceEqDiff, Nat.reduceLT, ↓reduceIte, reduceCtorEq, Nat.reduceAdd, Nat.reduceLeDiff, Int.reduceBEq, Int.reduceBNe, Int.reduceLT, Int.reduceLE, Int.reduceGT, Int.reduceGE, Nat.reduceDiv, Nat.reduceMul, h1, h2, h3, h4, h5]
    simp only [decide_eq_false_iff_not, decide_eq_true_eq, beq_iff_eq, beq_eq_false_iff_ne] at h1 h2 h3 h4 h5
    refine boolAV ?_
    simp [letB]
    omega
/-- The rest of a name, where b says that a part begins. -/
def nameGo : List UInt8 → Bool → Bool
  | [], b => !b
  | c :: cs, b => if letB c.toNat then nameGo cs false else if b then false else if (c.toNat : Int) = 46 then nameGo cs true else if ((c.toNat : Int) < 48 ∨ 57 < (c.toNat : Int)) ∧ (c.toNat : Int) ≠ 39 then false else nameGo cs false
def isName (s : ByteArray) : Bool := nameGo s.toList true && decide (s.size ≤ 64)
theorem name_ret (s : ByteArray) (hs : s.size ≤ lenB) : Out md pfs 39 [.str s] (· = .bool (isName s)) fun _ => False := by
  refine out_of pf39_is (Nat.le_of_ble_eq_true rfl) ?_
  simp only [pf39, ↓wpre, wset, wcore, ne_eq, if_true, if_false, exists_eq_left', true_implies, false_implies, exists_const, exists_eq_right, binA, intA, loadA, storeA, pickC, setAt, mapO, argsE, X.isC, resA, oneA, unA, boundA, eqiA, eqsA, fillA, fillE, ASt.fz, strA, Nat.reduceEqDiff, Nat.reduceLT, ↓reduceIte, reduceCtorEq, Nat.reduceAdd, Nat.reduceLeDiff, Int.reduceBEq, Int.reduceBNe, Int.reduceLT, Int.reduceLE, Int.reduceGT, Int.reduceGE, Nat.reduceDiv, Nat.reduceMul]
  refine W_loopE (fun j => s.size - j) (fun j E H T => ∃ b, E 0 = .str s ∧ E 3 = .bool b ∧ E 7 = .int s.size ∧ E 8 = .int j ∧ j ≤ s.size ∧ nameGo (s.toList.drop j) b = nameGo s.toList true) ?_ 0 ?_
  · rintro j E H T ⟨b, h0, h3, h7, h8, hj, hn⟩
    rcases Nat.lt_or_ge j s.size with hlt | hge
    · have hd : decide ((j : Int) < s.size) = true := by simpa using hlt
      have hx : j < s.toList.length := by rw [toList_len]; exact hlt
      have hg : s.toList[j]? = some s.toList[j] := by simp [hx]
      have hc := (letter (s.toList[j].toNat)).call rfl (by simp [pvs_cons, pvs_nil, pv_v])
      rw [List.drop_eq_getElem_cons hx] at hn
      generalize s.toList[j] = c at hn hg hc
      obtain ⟨v, rfl, hc⟩ := hc
      cases hl : letB c.toNat
      · cases b
        · cases h46 : ((c.toNat : Int) == 46)
          · cases h48 : decide ((c.toNat : Int) < 48) <;> cases h57 : decide ((c.toNat : Int) > 57) <;> cases h39 : ((c.toNat : Int) != 39)
            all_goals
              simp only [↓wpre, wset, wcore, ne_eq, if_true, if_false, exists_eq_left', true_implies, false_implies, exists_const, exists_eq_right, binA, intA, loadA, storeA, pickC, setAt, mapO, argsE, X.isC, resA, oneA, unA, boundA, eqiA, eqsA, fillA, fillE, ASt.fz, strA, Nat.reduceEqDiff, Nat.reduceLT, ↓reduceIte, reduceCtorEq, Nat.reduceAdd, Nat.reduceLeDiff, Int.reduceBEq, Int.reduceBNe, Int.reduceLT, Int.reduceLE, Int.reduceGT, Int.reduceGE, Nat.reduceDiv, Nat.reduceMul, h0, h3, h7, h8, hd, hg, Int.natCast_nonneg, hc, hl, h46, h48, h57, h39]
              simp only [decide_eq_false_iff_not, decide_eq_true_eq, beq_iff_eq, beq_eq_false_iff_ne, bne_iff_ne, bne_eq_false_iff_eq] at h46 h48 h57 h39
              first
                | exact EQ_in ⟨j + 1, by omega, false, h0, h3, h7, next_ixv (by omega), by omega, by rw [← hn, nameGo, hl, if_neg (by decide), if_neg (by decide), if_neg h46, if_neg (by omega)]⟩
                | exact boolAV (by rw [isName, ← hn, nameGo, hl, if_neg (by decide), if_neg (by decide), if_neg h46, if_pos (by omega)]; rfl)
          · simp only [↓wpre, wset, wcore, ne_eq, if_true, if_false, exists_eq_left', true_implies, false_implies, exists_const, exists_eq_right, binA, intA, loadA, storeA, pickC, setAt, mapO, argsE, X.isC, resA, oneA, unA, boundA, eqiA, eqsA, fillA, fillE, ASt.fz, strA, Nat.reduceEqDiff, Nat.reduceLT, ↓reduceIte, reduceCtorEq, Nat.reduceAdd, Nat.reduceLeDiff, Int.reduceBEq, Int.reduceBNe, Int.reduceLT, Int.reduceLE, Int.reduceGT, Int.reduceGE, Nat.reduceDiv, Nat.reduceMul, h0, h3, h7, h8, hd, hg, Int.natCast_nonneg, hc, hl, h46]
            exact EQ_in ⟨j + 1, by omega, true, h0, rfl, h7, next_ixv (by omega), by omega, by rw [← hn, nameGo, hl, if_neg (by decide), if_neg (by decide), if_pos (by simpa using h46)]⟩
        · simp only [↓wpre, wset, wcore, ne_eq, if_true, if_false, exists_eq_left', true_implies, false_implies, exists_const, exists_eq_right, binA, intA, loadA, storeA, pickC, setAt, mapO, argsE, X.isC, resA, oneA, unA, boundA, eqiA, eqsA, fillA, fillE, ASt.fz, strA, Nat.reduceEqDiff, Nat.reduceLT, ↓reduceIte, reduceCtorEq, Nat.reduceAdd, Nat.reduceLeDiff, Int.reduceBEq, Int.reduceBNe, Int.reduceLT, Int.reduceLE, Int.reduceGT, Int.reduceGE, Nat.reduceDiv, Nat.reduceMul, h0, h3, h7, h8, hd, hg, Int.natCast_nonneg, hc, hl]
          exact boolAV (by rw [isName, ← hn, nameGo, hl]; rfl)
      · simp only [↓wpre, wset, wcore, ne_eq, if_true, if_false, exists_eq_left', true_implies, false_implies, exists_const, exists_eq_right, binA, intA, loadA, storeA, pickC, setAt, mapO, argsE, X.isC, resA, oneA, unA, boundA, eqiA, eqsA, fillA, fillE, ASt.fz, strA, Nat.reduceEqDiff, Nat.reduceLT, ↓reduceIte, reduceCtorEq, Nat.reduceAdd, Nat.reduceLeDiff, Int.reduceBEq, Int.reduceBNe, Int.reduceLT, Int.reduceLE, Int.reduceGT, Int.reduceGE, Nat.reduceDiv, Nat.reduceMul, h0, h3, h7, h8, hd, hg, Int.natCast_nonneg, hc, hl]
        exact EQ_in ⟨j + 1, by omega, false, h0, rfl, h7, next_ixv (by omega), by omega, by rw [← hn, nameGo]; simp [hl]⟩
    · have hd : decide ((j : Int) < s.size) = false := by simpa using hge
      rw [List.drop_eq_nil_of_le (by rw [toList_len]; omega)] at hn
      cases b <;> cases h64 : decide ((s.size : Int) ≤ 64)
      all_goals
        simp only [↓wpre, wset, wcore, ne_eq, if_true, if_false, exists_eq_left', true_implies, false_implies, exists_const, exists_eq_right, binA, intA, loadA, storeA, pickC, setAt, mapO, argsE, X.isC, resA, oneA, unA, boundA, eqiA, eqsA, fillA, fillE, ASt.fz, strA, Nat.reduceEqDiff, Nat.reduceLT, ↓reduceIte, reduceCtorEq, Nat.reduceAdd, Nat.reduceLeDiff, Int.reduceBEq, Int.reduceBNe, Int.reduceLT, Int.reduceLE, Int.reduceGT, Int.reduceGE, Nat.reduceDiv, Nat.reduceMul, h0, h3, h7, h8, hd, h64]
        refine boolAV ?_
        rw [isName, ← hn, nameGo]
        simp at h64 ⊢
        try omega
  · exact ⟨true, rfl, rfl, rfl, rfl, Nat.zero_le _, rfl⟩
theorem refName_ret (s : ByteArray) (hs : s.size ≤ lenB) : Out md pfs 41 [.str s] (· = .bool (isName s)) fun _ => False := by
  refine out_of pf41_is (Nat.le_of_ble_eq_true rfl) ?_
  have he := empty_str (s := s)
  cases h0 : (s.size == 0)
  · rw [h0] at he
    cases h64 : decide ((s.size : Int) > 64)
    · simp only [pf41, ↓wpre, wset, wcore, ne_eq, if_true, if_false, exists_eq_left', true_implies, false_implies, exists_const, exists_eq_right, binA, intA, loadA, storeA, pickC, setAt, mapO, argsE, X.isC, resA, oneA, unA, boundA, eqiA, eqsA, fillA, fillE, ASt.fz, strA, Nat.reduceEqDiff, Nat.reduceLT, ↓reduceIte, reduceCtorEq, Nat.reduceAdd, Nat.reduceLeDiff, Int.reduceBEq, Int.reduceBNe, Int.reduceLT, Int.reduceLE, Int.reduceGT, Int.reduceGE, Nat.reduceDiv, Nat.reduceMul, he, h64]
      refine W_loopE (fun j => s.size - j) (fun j E H T => ∃ b, E 0 = .str s ∧ E 3 = .bool b ∧ E 4 = .int j ∧ j ≤ s.size ∧ nameGo (s.toList.drop j) b = nameGo s.toList true) ?_ 0 ?_
      · rintro j E H T ⟨b, h0, h3, h4, hj, hn⟩
        rcases Nat.lt_or_ge j s.size with hlt | hge
        · have hd : decide ((j : Int) < s.size) = true := by simpa using hlt
          have hx : j < s.toList.length := by rw [toList_len]; exact hlt
          have hg : s.toList[j]? = some s.toList[j] := by simp [hx]
          have hc := (refLetter (s.toList[j].toNat)).call rfl (by simp [pvs_cons, pvs_nil, pv_v])
          rw [List.drop_eq_getElem_cons hx] at hn
          generalize s.toList[j] = c at hn hg hc
          obtain ⟨v, rfl, hc⟩ := hc
          cases hl : letB c.toNat
          · cases b
            · cases h46 : ((c.toNat : Int) == 46)
              · cases h48 : decide ((c.toNat : Int) < 48) <;> cases h57 : decide ((c.toNat : Int) > 57) <;> cases h39 : ((c.toNat : Int) != 39)
                all_goals
                  simp only [↓wpre, wset, wcore, ne_eq, if_true, if_false, exists_eq_left', true_implies, false_implies, exists_const, exists_eq_right, binA, intA, loadA, storeA, pickC, setAt, mapO, argsE, X.isC, resA, oneA, unA, boundA, eqiA, eqsA, fillA, fillE, ASt.fz, strA, Nat.reduceEqDiff, Nat.reduceLT, ↓reduceIte, reduceCtorEq, Nat.reduceAdd, Nat.reduceLeDiff, Int.reduceBEq, Int.reduceBNe, Int.reduceLT, Int.reduceLE, Int.reduceGT, Int.reduceGE, Nat.reduceDiv, Nat.reduceMul, h0, h3, h4, hd, hg, Int.natCast_nonneg, hc, hl, h46, h48, h57, h39]
                  simp only [decide_eq_false_iff_not, decide_eq_true_eq, beq_iff_eq, beq_eq_false_iff_ne, bne_iff_ne, bne_eq_false_iff_eq] at h46 h48 h57 h39
                  first
                    | exact EQ_in ⟨j + 1, by omega, false, h0, h3, next_ixv (by omega), by omega, by rw [← hn, nameGo, hl, if_neg (by decide), if_neg (by decide), if_neg h46, if_neg (by omega)]⟩
                    | exact boolAV (by rw [isName, ← hn, nameGo, hl, if_neg (by decide), if_neg (by decide), if_neg h46, if_pos (by omega)]; rfl)
              · simp only [↓wpre, wset, wcore, ne_eq, if_true, if_false, exists_eq_left', true_implies, false_implies, exists_const, exists_eq_right, binA, intA, loadA, storeA, pickC, setAt, mapO, argsE, X.isC, resA, oneA, unA, boundA, eqiA, eqsA, fillA, fillE, ASt.fz, strA, Nat.reduceEqDiff, Nat.reduceLT, ↓reduceIte, reduceCtorEq, Nat.reduceAdd, Nat.reduceLeDiff, Int.reduceBEq, Int.reduceBNe, Int.reduceLT, Int.reduceLE, Int.reduceGT, Int.reduceGE, Nat.reduceDiv, Nat.reduceMul, h0, h3, h4, hd, hg, Int.natCast_nonneg, hc, hl, h46]
                exact EQ_in ⟨j + 1, by omega, true, h0, rfl, next_ixv (by omega), by omega, by rw [← hn, nameGo, hl, if_neg (by decide), if_neg (by decide), if_pos (by simpa using h46)]⟩
            · simp only [↓wpre, wset, wcore, ne_eq, if_true, if_false, exists_eq_left', true_implies, false_implies, exists_const, exists_eq_right, binA, intA, loadA, storeA, pickC, setAt, mapO, argsE, X.isC, resA, oneA, unA, boundA, eqiA, eqsA, fillA, fillE, ASt.fz, strA, Nat.reduceEqDiff, Nat.reduceLT, ↓reduceIte, reduceCtorEq, Nat.reduceAdd, Nat.reduceLeDiff, Int.reduceBEq, Int.reduceBNe, Int.reduceLT, Int.reduceLE, Int.reduceGT, Int.reduceGE, Nat.reduceDiv, Nat.reduceMul, h0, h3, h4, hd, hg, Int.natCast_nonneg, hc, hl]
              exact boolAV (by rw [isName, ← hn, nameGo, hl]; rfl)
          · cases b <;> cases h46 : ((c.toNat : Int) == 46)
            all_goals
              simp only [↓wpre, wset, wcore, ne_eq, if_true, if_false, exists_eq_left', true_implies, false_implies, exists_const, exists_eq_right, binA, intA, loadA, storeA, pickC, setAt, mapO, argsE, X.isC, resA, oneA, unA, boundA, eqiA, eqsA, fillA, fillE, ASt.fz, strA, Nat.reduceEqDiff, Nat.reduceLT, ↓reduceIte, reduceCtorEq, Nat.reduceAdd, Nat.reduceLeDiff, Int.reduceBEq, Int.reduceBNe, Int.reduceLT, Int.reduceLE, Int.reduceGT, Int.reduceGE, Nat.reduceDiv, Nat.reduceMul, h0, h3, h4, hd, hg, Int.natCast_nonneg, hc, hl, h46]
              first
                | exact EQ_in ⟨j + 1, by omega, false, h0, rfl, next_ixv (by omega), by omega, by rw [← hn, nameGo]; simp [hl]⟩
                | exact EQ_in ⟨j + 1, by omega, false, h0, h3, next_ixv (by omega), by omega, by rw [← hn, nameGo]; simp [hl]⟩
                | (simp at h46; rw [h46] at hl; exact absurd hl (by decide))
        · have hd : decide ((j : Int) < s.size) = false := by simpa using hge
          rw [List.drop_eq_nil_of_le (by rw [toList_len]; omega)] at hn
          cases b
          all_goals
            simp only [↓wpre, wset, wcore, ne_eq, if_true, if_false, exists_eq_left', true_implies, false_implies, exists_const, exists_eq_right, binA, intA, loadA, storeA, pickC, setAt, mapO, argsE, X.isC, resA, oneA, unA, boundA, eqiA, eqsA, fillA, fillE, ASt.fz, strA, Nat.reduceEqDiff, Nat.reduceLT, ↓reduceIte, reduceCtorEq, Nat.reduceAdd, Nat.reduceLeDiff, Int.reduceBEq, Int.reduceBNe, Int.reduceLT, Int.reduceLE, Int.reduceGT, Int.reduceGE, Nat.reduceDiv, Nat.reduceMul, h0, h3, h4, hd]
            refine boolAV ?_
            rw [isName, ← hn, nameGo]
            simp at h64 ⊢
            try omega
      · exact ⟨true, rfl, rfl, rfl, Nat.zero_le _, rfl⟩
    · simp only [pf41, ↓wpre, wset, wcore, ne_eq, if_true, if_false, exists_eq_left', true_implies, false_implies, exists_const, exists_eq_right, binA, intA, loadA, storeA, pickC, setAt, mapO, argsE, X.isC, resA, oneA, unA, boundA, eqiA, eqsA, fillA, fillE, ASt.fz, strA, Nat.reduceEqDiff, Nat.reduceLT, ↓reduceIte, reduceCtorEq, Nat.reduceAdd, Nat.reduceLeDiff, Int.reduceBEq, Int.reduceBNe, Int.reduceLT, Int.reduceLE, Int.reduceGT, Int.reduceGE, Nat.reduceDiv, Nat.reduceMul, he, h64]
      refine boolAV ?_
      simp at h64
      simp [isName]; omega
  · rw [h0] at he
    simp only [pf41, ↓wpre, wset, wcore, ne_eq, if_true, if_false, exists_eq_left', true_implies, false_implies, exists_const, exists_eq_right, binA, intA, loadA, storeA, pickC, setAt, mapO, argsE, X.isC, resA, oneA, unA, boundA, eqiA, eqsA, fillA, fillE, ASt.fz, strA, Nat.reduceEqDiff, Nat.reduceLT, ↓reduceIte, reduceCtorEq, Nat.reduceAdd, Nat.reduceLeDiff, Int.reduceBEq, Int.reduceBNe, Int.reduceLT, Int.reduceLE, Int.reduceGT, Int.reduceGE, Nat.reduceDiv, Nat.reduceMul, he]
    refine boolAV ?_
    simp at h0
    rw [isName, List.eq_nil_of_length_eq_zero (l := s.toList) (by rw [toList_len, h0]; rfl)]
    rfl
end Go.Proofs.Eng
