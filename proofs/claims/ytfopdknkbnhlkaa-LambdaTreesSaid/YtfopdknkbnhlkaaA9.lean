/- A9: what functions of the program return. No conditions beyond those in the theorems. -/
import Derived.Test.YtfopdknkbnhlkaaA8
set_option linter.all false
set_option linter.deprecated false
set_option linter.unnecessarySimpa false
set_option linter.unusedVariables false
set_option linter.unusedSimpArgs false
set_option linter.defProp false
namespace Go.Proofs.Eng
open Go Go.Proofs
set_option maxRecDepth 100000
theorem rformed_ret {e : Ex} {a : AV} (h : e.Is a) : Out md pfs 61 [a] (· = .bool e.fm) fun _ => False := by
  obtain ⟨k, i, n, s, kids⟩ := e
  obtain ⟨t1, t2, kas, rfl, h1, h2, h3, h4, h5, h6⟩ := h.opn
  refine out_of pf61_is (Nat.le_of_ble_eq_true rfl) ?_
  have hlen := h6.len
  have ez : fmB k i n s kids.length = (Ex.mk k i n s kids).fm := rfl
  rw [← hlen] at ez
  obtain ⟨v, ⟨lo, hi, ok, rfl, hok, hlh⟩, cs⟩ := (shape_ret (k := k) (i := i) (n := n) (t1 := t1) (t2 := t2) (kas := kas) h4).call rfl (by simp [pvs_cons, pvs_nil, exPure _ h])
  cases ok
  · simp only [pf61, ↓wpre, wset, wcore, ne_eq, if_true, if_false, exists_eq_left', true_implies, false_implies, exists_const, exists_eq_right, binA, intA, loadA, storeA, pickC, setAt, mapO, argsE, X.isC, resA, oneA, unA, boundA, eqiA, eqsA, fillA, fillE, ASt.fz, strA, Nat.reduceEqDiff, Nat.reduceLT, ↓reduceIte, reduceCtorEq, Nat.reduceAdd, Nat.reduceLeDiff, Int.reduceBEq, Int.reduceBNe, Int.reduceLT, Int.reduceLE, Int.reduceGT, Int.reduceGE, Nat.reduceDiv, Nat.reduceMul, cs]
    rw [← ez]
    refine boolAV ?_
    simp only [fmB]
    rw [← hok]; rfl
  have hF := fm_ref (i := i) (n := n) (l := kas.length) hok (hlh rfl)
  rw [hF] at ez
  clear hF hlh hok
  cases c1 : decide ((kas.length : Int) < lo)
  · cases c2 : decide ((kas.length : Int) > hi)
    · cases c3 : decide ((s.length : Int) > 32)
      · simp only [pf61, ↓wpre, wset, wcore, ne_eq, if_true, if_false, exists_eq_left', true_implies, false_implies, exists_const, exists_eq_right, binA, intA, loadA, storeA, pickC, setAt, mapO, argsE, X.isC, resA, oneA, unA, boundA, eqiA, eqsA, fillA, fillE, ASt.fz, strA, Nat.reduceEqDiff, Nat.reduceLT, ↓reduceIte, reduceCtorEq, Nat.reduceAdd, Nat.reduceLeDiff, Int.reduceBEq, Int.reduceBNe, Int.reduceLT, Int.reduceLE, Int.reduceGT, Int.reduceGE, Nat.reduceDiv, Nat.reduceMul, cs, c1, c2, c3, ints_len]
        rw [c1, c2, c3] at ez
        simp only [Bool.not_false, Bool.true_and] at ez
        refine W_loopE (fun j => s.length - j) (fun j E H T => H = [.cells false [.int k, .int i, .str n, .sl (ints s) t1, .sl kas t2]] ∧ E 1 = .ptr 0 0 ∧ E 6 = .int j ∧ j ≤ s.length ∧ (s.take j).any badSize = false) ?_ 0 ⟨rfl, rfl, rfl, Nat.zero_le _, rfl⟩
        rintro j E H T ⟨rfl, e1, e6, hj, hn⟩
        rcases Nat.lt_or_ge j s.length with hlt | hge
        · obtain ⟨x, d0, d1, d2⟩ := ints_get hlt
          have hdec : decide ((j : Int) < s.length) = true := by simpa using hlt
          cases b1 : decide (x < 0)
          · cases b2 : decide (x > 64)
            · simp only [↓wpre, wset, wcore, ne_eq, if_true, if_false, exists_eq_left', true_implies, false_implies, exists_const, exists_eq_right, binA, intA, loadA, storeA, pickC, setAt, mapO, argsE, X.isC, resA, oneA, unA, boundA, eqiA, eqsA, fillA, fillE, ASt.fz, strA, Nat.reduceEqDiff, Nat.reduceLT, ↓reduceIte, reduceCtorEq, Nat.reduceAdd, Nat.reduceLeDiff, Int.reduceBEq, Int.reduceBNe, Int.reduceLT, Int.reduceLE, Int.reduceGT, Int.reduceGE, Nat.reduceDiv, Nat.reduceMul, e1, e6, hdec, ints_len, ints_all, d2, b1, b2]
              exact EQ_in ⟨j + 1, by omega, rfl, e1, next_ixv (by omega), by omega, by rw [List.take_add_one, d0]; simp only [List.any_append, hn, Option.toList_some, List.any_cons, List.any_nil, badSize, b1, b2]; rfl⟩
            · simp only [↓wpre, wset, wcore, ne_eq, if_true, if_false, exists_eq_left', true_implies, false_implies, exists_const, exists_eq_right, binA, intA, loadA, storeA, pickC, setAt, mapO, argsE, X.isC, resA, oneA, unA, boundA, eqiA, eqsA, fillA, fillE, ASt.fz, strA, Nat.reduceEqDiff, Nat.reduceLT, ↓reduceIte, reduceCtorEq, Nat.reduceAdd, Nat.reduceLeDiff, Int.reduceBEq, Int.reduceBNe, Int.reduceLT, Int.reduceLE, Int.reduceGT, Int.reduceGE, Nat.reduceDiv, Nat.reduceMul, e1, e6, hdec, ints_len, ints_all, d2, b1, b2]
              have : s.any badSize = true := List.any_eq_true.2 ⟨x, List.mem_of_getElem? d0, by simp only [badSize, b1, b2]; rfl⟩
              rw [← ez, this]; rfl
          · simp only [↓wpre, wset, wcore, ne_eq, if_true, if_false, exists_eq_left', true_implies, false_implies, exists_const, exists_eq_right, binA, intA, loadA, storeA, pickC, setAt, mapO, argsE, X.isC, resA, oneA, unA, boundA, eqiA, eqsA, fillA, fillE, ASt.fz, strA, Nat.reduceEqDiff, Nat.reduceLT, ↓reduceIte, reduceCtorEq, Nat.reduceAdd, Nat.reduceLeDiff, Int.reduceBEq, Int.reduceBNe, Int.reduceLT, Int.reduceLE, Int.reduceGT, Int.reduceGE, Nat.reduceDiv, Nat.reduceMul, e1, e6, hdec, ints_len, ints_all, d2, b1]
            have : s.any badSize = true := List.any_eq_true.2 ⟨x, List.mem_of_getElem? d0, by simp only [badSize, b1]; rfl⟩
            rw [← ez, this]; rfl
        · have hdec : decide ((j : Int) < s.length) = false := by simpa using hge
          rw [List.take_of_length_le hge] at hn
          rw [hn] at ez
          simp only [Bool.not_false, Bool.true_and] at ez
          by_cases k3 : k = 3
          · subst k3
            cases s0 : decide ((s.length : Int) > 0) <;> cases hi : decide (i < 0) <;> cases i32 : decide (i < 32)
            all_goals
              simp only [↓wpre, wset, wcore, ne_eq, if_true, if_false, exists_eq_left', true_implies, false_implies, exists_const, exists_eq_right, binA, intA, loadA, storeA, pickC, setAt, mapO, argsE, X.isC, resA, oneA, unA, boundA, eqiA, eqsA, fillA, fillE, ASt.fz, strA, Nat.reduceEqDiff, Nat.reduceLT, ↓reduceIte, reduceCtorEq, Nat.reduceAdd, Nat.reduceLeDiff, Int.reduceBEq, Int.reduceBNe, Int.reduceLT, Int.reduceLE, Int.reduceGT, Int.reduceGE, Nat.reduceDiv, Nat.reduceMul, e1, e6, hdec, ints_len, s0, hi, i32]
              rw [← ez, s0, hi, i32]
              simp
          · have x3 : (k == 3) = false := by simpa using k3
            rw [if_neg k3, x3] at ez
            by_cases k5 : k = 5
            · subst k5
              cases s0 : decide ((s.length : Int) > 0) <;> cases hi : decide (i < 0) <;> cases xi : (i == 0)
              all_goals
                simp only [↓wpre, wset, wcore, ne_eq, if_true, if_false, exists_eq_left', true_implies, false_implies, exists_const, exists_eq_right, binA, intA, loadA, storeA, pickC, setAt, mapO, argsE, X.isC, resA, oneA, unA, boundA, eqiA, eqsA, fillA, fillE, ASt.fz, strA, Nat.reduceEqDiff, Nat.reduceLT, ↓reduceIte, reduceCtorEq, Nat.reduceAdd, Nat.reduceLeDiff, Int.reduceBEq, Int.reduceBNe, Int.reduceLT, Int.reduceLE, Int.reduceGT, Int.reduceGE, Nat.reduceDiv, Nat.reduceMul, e1, e6, hdec, ints_len, s0, hi, xi]
                rw [← ez, s0, hi, xi]
                simp
            · have x5 : (k == 5) = false := by simpa using k5
              rw [x5] at ez
              cases hn0 : (n.size == 0)
              · simp only [↓wpre, wset, wcore, ne_eq, if_true, if_false, exists_eq_left', true_implies, false_implies, exists_const, exists_eq_right, binA, intA, loadA, storeA, pickC, setAt, mapO, argsE, X.isC, resA, oneA, unA, boundA, eqiA, eqsA, fillA, fillE, ASt.fz, strA, Nat.reduceEqDiff, Nat.reduceLT, ↓reduceIte, reduceCtorEq, Nat.reduceAdd, Nat.reduceLeDiff, Int.reduceBEq, Int.reduceBNe, Int.reduceLT, Int.reduceLE, Int.reduceGT, Int.reduceGE, Nat.reduceDiv, Nat.reduceMul, e1, e6, hdec, ints_len, x3, x5, hn0]
                rw [← ez, hn0]; rfl
              · rw [hn0] at ez
                cases x4 : (k != 4)
                · have x0 : (k == 0) = false := by simp at x4 ⊢; omega
                  cases hi : decide (i < 0) <;> cases xi : (i == 0)
                  all_goals
                    simp only [↓wpre, wset, wcore, ne_eq, if_true, if_false, exists_eq_left', true_implies, false_implies, exists_const, exists_eq_right, binA, intA, loadA, storeA, pickC, setAt, mapO, argsE, X.isC, resA, oneA, unA, boundA, eqiA, eqsA, fillA, fillE, ASt.fz, strA, Nat.reduceEqDiff, Nat.reduceLT, ↓reduceIte, reduceCtorEq, Nat.reduceAdd, Nat.reduceLeDiff, Int.reduceBEq, Int.reduceBNe, Int.reduceLT, Int.reduceLE, Int.reduceGT, Int.reduceGE, Nat.reduceDiv, Nat.reduceMul, e1, e6, hdec, ints_len, x3, x5, x4, hn0, x0, hi, xi]
                    rw [← ez, x4, hi, xi, x0]
                    simp
                · cases s0 : decide ((s.length : Int) > 0) <;> cases hi : decide (i < 0) <;> cases xi : (i == 0) <;> cases x0 : (k == 0)
                  all_goals
                    simp only [↓wpre, wset, wcore, ne_eq, if_true, if_false, exists_eq_left', true_implies, false_implies, exists_const, exists_eq_right, binA, intA, loadA, storeA, pickC, setAt, mapO, argsE, X.isC, resA, oneA, unA, boundA, eqiA, eqsA, fillA, fillE, ASt.fz, strA, Nat.reduceEqDiff, Nat.reduceLT, ↓reduceIte, reduceCtorEq, Nat.reduceAdd, Nat.reduceLeDiff, Int.reduceBEq, Int.reduceBNe, Int.reduceLT, Int.reduceLE, Int.reduceGT, Int.reduceGE, Nat.reduceDiv, Nat.reduceMul, e1, e6, hdec, ints_len, x3, x5, x4, hn0, x0, s0, hi, xi]
                    rw [← ez, x4, hi, xi, x0, s0]
                    simp
      · simp only [pf61, ↓wpre, wset, wcore, ne_eq, if_true, if_false, exists_eq_left', true_implies, false_implies, exists_const, exists_eq_right, binA, intA, loadA, storeA, pickC, setAt, mapO, argsE, X.isC, resA, oneA, unA, boundA, eqiA, eqsA, fillA, fillE, ASt.fz, strA, Nat.reduceEqDiff, Nat.reduceLT, ↓reduceIte, reduceCtorEq, Nat.reduceAdd, Nat.reduceLeDiff, Int.reduceBEq, Int.reduceBNe, Int.reduceLT, Int.reduceLE, Int.reduceGT, Int.reduceGE, Nat.reduceDiv, Nat.reduceMul, cs, c1, c2, c3, ints_len]
        rw [← ez, c1, c2, c3]; rfl
    · simp only [pf61, ↓wpre, wset, wcore, ne_eq, if_true, if_false, exists_eq_left', true_implies, false_implies, exists_const, exists_eq_right, binA, intA, loadA, storeA, pickC, setAt, mapO, argsE, X.isC, resA, oneA, unA, boundA, eqiA, eqsA, fillA, fillE, ASt.fz, strA, Nat.reduceEqDiff, Nat.reduceLT, ↓reduceIte, reduceCtorEq, Nat.reduceAdd, Nat.reduceLeDiff, Int.reduceBEq, Int.reduceBNe, Int.reduceLT, Int.reduceLE, Int.reduceGT, Int.reduceGE, Nat.reduceDiv, Nat.reduceMul, cs, c1, c2]
      rw [← ez, c1, c2]; rfl
  · simp only [pf61, ↓wpre, wset, wcore, ne_eq, if_true, if_false, exists_eq_left', true_implies, false_implies, exists_const, exists_eq_right, binA, intA, loadA, storeA, pickC, setAt, mapO, argsE, X.isC, resA, oneA, unA, boundA, eqiA, eqsA, fillA, fillE, ASt.fz, strA, Nat.reduceEqDiff, Nat.reduceLT, ↓reduceIte, reduceCtorEq, Nat.reduceAdd, Nat.reduceLeDiff, Int.reduceBEq, Int.reduceBNe, Int.reduceLT, Int.reduceLE, Int.reduceGT, Int.reduceGE, Nat.reduceDiv, Nat.reduceMul, cs, c1]
    rw [← ez, c1]; rfl
end Go.Proofs.Eng
