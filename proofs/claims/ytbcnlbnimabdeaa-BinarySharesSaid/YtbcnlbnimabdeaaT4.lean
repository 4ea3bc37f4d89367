/- Nodes with the right fields. No conditions beyond those in the theorems. -/
import Derived.Test.YtbcnlbnimabdeaaT3
set_option linter.all false
set_option linter.deprecated false
set_option linter.unnecessarySimpa false
set_option linter.unusedVariables false
set_option linter.unusedSimpArgs false
set_option linter.defProp false
namespace Go.Proofs.Eng
open Go Go.Proofs
set_option maxRecDepth 100000
set_option maxHeartbeats 8000000
theorem right_iff (k i : Int) (n : ByteArray) (ls : List Lv) (kids : List Tm) : (Tm.mk k i n ls kids).right = true ↔
    ls.all validB = true ∧ kidsN k = kids.length ∧ (k = 2 → ls.length = 1) ∧ (k = 3 → ls.length ≤ 8) ∧ (k ≠ 2 → k ≠ 3 → ls.length = 0) ∧ n.size ≤ 65536 ∧ ((k = 0 ∨ k = 12) → 0 ≤ i ∧ i ≤ 2147483647 ∧ n.size = 0) ∧ (¬ (k = 0 ∨ k = 12) → i = 0 ∧ (k = 3 ∨ n.size = 0)) := by
  show (ls.all validB && decide (kidsN k = kids.length) && (if k = 2 then decide (ls.length = 1) else if k = 3 then decide (ls.length ≤ 8) else decide (ls.length = 0)) && decide (n.size ≤ 65536) &&
    (if k = 0 ∨ k = 12 then decide (0 ≤ i) && decide (i ≤ 2147483647) && decide (n.size = 0) else decide (i = 0) && (decide (k = 3) || decide (n.size = 0)))) = true ↔ _
  simp only [Bool.and_eq_true, decide_eq_true_eq]
  constructor
  · rintro ⟨⟨⟨⟨a1, a2⟩, a3⟩, a4⟩, a5⟩
    refine ⟨a1, a2, ?_, ?_, ?_, a4, ?_, ?_⟩
    all_goals
      split at a3 <;> (try split at a3) <;> split at a5 <;> simp only [Bool.and_eq_true, Bool.or_eq_true, decide_eq_true_eq] at a3 a5 <;> intros <;> omega
  · rintro ⟨a1, a2, a3, a4, a5, a6, a7, a8⟩
    refine ⟨⟨⟨⟨a1, a2⟩, ?_⟩, a6⟩, ?_⟩
    · split
      · simp only [decide_eq_true_eq]; omega
      · split
        · simp only [decide_eq_true_eq]; omega
        · simp only [decide_eq_true_eq]; omega
    · split
      · rename_i h
        have := a7 h
        simp only [Bool.and_eq_true, decide_eq_true_eq]; omega
      · rename_i h
        have := a8 h
        simp only [Bool.and_eq_true, Bool.or_eq_true, decide_eq_true_eq]; omega
theorem right_yes {k i : Int} {n : ByteArray} {ls : List Lv} {kids : List Tm} (h : (Tm.mk k i n ls kids).right = true) : AV.v (.bool true) = .bool (Tm.mk k i n ls kids).right := by rw [h]
theorem right_no {k i : Int} {n : ByteArray} {ls : List Lv} {kids : List Tm} (h : ¬ (Tm.mk k i n ls kids).right = true) : AV.v (.bool false) = .bool (Tm.mk k i n ls kids).right := by
  cases hr : (Tm.mk k i n ls kids).right with
  | false => rfl
  | true => exact absurd hr h
theorem right_ret (e : Tm) {a : AV} (h : e.Is a) : Out md pfs 61 [a] (· = .bool e.right) fun _ => False := by
  obtain ⟨k, i, n, ls, kids⟩ := e
  obtain ⟨t1, t2, las, kas, rfl, g1, g2, g3, g4, g5, g6, g7, g8, g9⟩ := h.opn
  have hl1 := g8.len
  have hl2 := g9.len
  obtain ⟨_, rfl, ck⟩ := (kids_ret k).call rfl (by simp [pvs_cons, pvs_nil, pv_v])
  obtain ⟨_, rfl, ci⟩ := (indexed_ret k).call rfl (by simp [pvs_cons, pvs_nil, pv_v])
  have hemp := empty_str (s := n)
  refine out_of pf61_is (Nat.le_of_ble_eq_true rfl) ?_
  simp only [pf61, ↓wpre, wset, wcore, ne_eq, if_true, if_false, exists_eq_left', true_implies, false_implies, exists_const, exists_eq_right, binA, intA, loadA, storeA, pickC, setAt, mapO, argsE, X.isC, resA, oneA, unA, boundA, eqiA, eqsA, fillA, fillE, ASt.fz, strA, Nat.reduceEqDiff, Nat.reduceLT, ↓reduceIte, reduceCtorEq, Nat.reduceAdd, Nat.reduceLeDiff, Int.reduceBEq, Int.reduceBNe, Int.reduceLT, Int.reduceLE, Int.reduceGT, Int.reduceGE, Nat.reduceDiv, Nat.reduceMul, Nat.reduceBEq, Nat.reduceMod, Nat.reduceSub]
  refine W_loopE (fun j => las.length - j) (fun j E H T => (∃ G, H = .cells false [.int k, .int i, .str n, .sl las t1, .sl kas t2] :: G) ∧ E 1 = .ptr 0 0 ∧ E 8 = .sl las t1 ∧ E 9 = .int las.length ∧ E 10 = .int (j : Nat) ∧ j ≤ las.length ∧ ∀ x ∈ ls.take j, validB x = true) ?_ 0 ⟨⟨[], rfl⟩, rfl, rfl, rfl, rfl, Nat.zero_le _, by simp⟩
  rintro j E H T ⟨⟨G, rfl⟩, e1, e8, e9, e10, hj, hgood⟩
  rcases Nat.lt_or_ge j las.length with hlt | hge
  · have hdec : decide ((j : Int) < las.length) = true := by simpa using hlt
    obtain ⟨x, c, d0, d1, d3, d4, d5, d6, d7, d8⟩ := g8.get lvAgg hlt
    obtain ⟨_, rfl, cv⟩ := (valid_ret d8).call rfl (by simp [pvs_cons, pvs_nil, lvPure d8])
    have hall := g8.all lvAgg
    cases hv : validB x
    · simp only [↓wpre, wset, wcore, ne_eq, if_true, if_false, exists_eq_left', true_implies, false_implies, exists_const, exists_eq_right, binA, intA, loadA, storeA, pickC, setAt, mapO, argsE, X.isC, resA, oneA, unA, boundA, eqiA, eqsA, fillA, fillE, ASt.fz, strA, Nat.reduceEqDiff, Nat.reduceLT, ↓reduceIte, reduceCtorEq, Nat.reduceAdd, Nat.reduceLeDiff, Int.reduceBEq, Int.reduceBNe, Int.reduceLT, Int.reduceLE, Int.reduceGT, Int.reduceGE, Nat.reduceDiv, Nat.reduceMul, Nat.reduceBEq, Nat.reduceMod, Nat.reduceSub, List.length_append, List.append_assoc, app_get_len, app_get_add, app_set_len, app_set_add, e1, e8, e9, e10, hdec, d4, d5, d6, d7, hall, cv, hv]
      exact right_no fun hr => by
        have := ((right_iff k i n ls kids).1 hr).1
        rw [List.all_eq_true.1 this x d3] at hv; cases hv
    · simp only [↓wpre, wset, wcore, ne_eq, if_true, if_false, exists_eq_left', true_implies, false_implies, exists_const, exists_eq_right, binA, intA, loadA, storeA, pickC, setAt, mapO, argsE, X.isC, resA, oneA, unA, boundA, eqiA, eqsA, fillA, fillE, ASt.fz, strA, Nat.reduceEqDiff, Nat.reduceLT, ↓reduceIte, reduceCtorEq, Nat.reduceAdd, Nat.reduceLeDiff, Int.reduceBEq, Int.reduceBNe, Int.reduceLT, Int.reduceLE, Int.reduceGT, Int.reduceGE, Nat.reduceDiv, Nat.reduceMul, Nat.reduceBEq, Nat.reduceMod, Nat.reduceSub, List.length_append, List.append_assoc, app_get_len, app_get_add, app_set_len, app_set_add, e1, e8, e9, e10, hdec, d4, d5, d6, d7, hall, cv, hv]
      exact EQ_in ⟨j + 1, by omega, ⟨_, rfl⟩, e1, e8, e9, next_ixv (by unfold lenB at *; omega), by omega, fun y hy => by
        rw [List.take_add_one, d0] at hy
        simp only [Option.toList_some, List.mem_append, List.mem_singleton] at hy
        rcases hy with hy | rfl
        · exact hgood y hy
        · exact hv⟩
  · have hdec : decide ((j : Int) < las.length) = false := by simpa using hge
    have hvs : ls.all validB = true := by
      rw [List.take_of_length_le (by omega)] at hgood
      exact List.all_eq_true.2 hgood
    clear hgood hj hge
    cases k2 : (k == 2)
    · cases k3 : (k == 3)
      · have k2p : k ≠ 2 := by simpa using k2
        have k3p : k ≠ 3 := by simpa using k3
        cases q0 : ((kas.length : Int) != kidsN k)
        case true =>
          simp only [↓wpre, wset, wcore, ne_eq, if_true, if_false, exists_eq_left', true_implies, false_implies, exists_const, exists_eq_right, binA, intA, loadA, storeA, pickC, setAt, mapO, argsE, X.isC, resA, oneA, unA, boundA, eqiA, eqsA, fillA, fillE, ASt.fz, strA, Nat.reduceEqDiff, Nat.reduceLT, ↓reduceIte, reduceCtorEq, Nat.reduceAdd, Nat.reduceLeDiff, Int.reduceBEq, Int.reduceBNe, Int.reduceLT, Int.reduceLE, Int.reduceGT, Int.reduceGE, Nat.reduceDiv, Nat.reduceMul, Nat.reduceBEq, Nat.reduceMod, Nat.reduceSub, List.length_append, List.append_assoc, app_get_len, app_get_add, app_set_len, app_set_add, e1, e8, e9, e10, hdec, k2, k3, ck, q0]
          exact right_no fun hr => by
            obtain ⟨_, r2, r3, r4, r5, r6, r7, r8⟩ := (right_iff k i n ls kids).1 hr
            simp only [bne_iff_ne, ne_eq] at q0; omega
        have q1 : decide ((las.length : Int) < 0) = false := by simp
        cases q2 : decide ((las.length : Int) > 0)
        case true =>
          simp only [↓wpre, wset, wcore, ne_eq, if_true, if_false, exists_eq_left', true_implies, false_implies, exists_const, exists_eq_right, binA, intA, loadA, storeA, pickC, setAt, mapO, argsE, X.isC, resA, oneA, unA, boundA, eqiA, eqsA, fillA, fillE, ASt.fz, strA, Nat.reduceEqDiff, Nat.reduceLT, ↓reduceIte, reduceCtorEq, Nat.reduceAdd, Nat.reduceLeDiff, Int.reduceBEq, Int.reduceBNe, Int.reduceLT, Int.reduceLE, Int.reduceGT, Int.reduceGE, Nat.reduceDiv, Nat.reduceMul, Nat.reduceBEq, Nat.reduceMod, Nat.reduceSub, List.length_append, List.append_assoc, app_get_len, app_get_add, app_set_len, app_set_add, e1, e8, e9, e10, hdec, k2, k3, ck, q0, q1, q2]
          exact right_no fun hr => by
            obtain ⟨_, r2, r3, r4, r5, r6, r7, r8⟩ := (right_iff k i n ls kids).1 hr
            simp only [decide_eq_true_eq] at q2; omega
        cases q3 : decide ((n.size : Int) > 65536)
        case true =>
          simp only [↓wpre, wset, wcore, ne_eq, if_true, if_false, exists_eq_left', true_implies, false_implies, exists_const, exists_eq_right, binA, intA, loadA, storeA, pickC, setAt, mapO, argsE, X.isC, resA, oneA, unA, boundA, eqiA, eqsA, fillA, fillE, ASt.fz, strA, Nat.reduceEqDiff, Nat.reduceLT, ↓reduceIte, reduceCtorEq, Nat.reduceAdd, Nat.reduceLeDiff, Int.reduceBEq, Int.reduceBNe, Int.reduceLT, Int.reduceLE, Int.reduceGT, Int.reduceGE, Nat.reduceDiv, Nat.reduceMul, Nat.reduceBEq, Nat.reduceMod, Nat.reduceSub, List.length_append, List.append_assoc, app_get_len, app_get_add, app_set_len, app_set_add, e1, e8, e9, e10, hdec, k2, k3, ck, q0, q1, q2, q3]
          exact right_no fun hr => by
            obtain ⟨_, r2, r3, r4, r5, r6, r7, r8⟩ := (right_iff k i n ls kids).1 hr
            simp only [decide_eq_true_eq] at q3; omega
        have q0p : kidsN k = kids.length := by simp only [bne_eq_false_iff_eq] at q0; omega
        simp only [decide_eq_false_iff_not] at q1 q2 q3
        have q1' : decide ((las.length : Int) < 0) = false := by simp only [decide_eq_false_iff_not]; exact q1
        have q2' : decide ((las.length : Int) > 0) = false := by simp only [decide_eq_false_iff_not]; exact q2
        have q3' : decide ((n.size : Int) > 65536) = false := by simp only [decide_eq_false_iff_not]; exact q3
        cases hx : (k == 0 || k == 12)
        · have hxp : ¬ (k = 0 ∨ k = 12) := by simpa using hx
          rw [hx] at ci
          cases hi : (i == 0)
          case false =>
            simp only [↓wpre, wset, wcore, ne_eq, if_true, if_false, exists_eq_left', true_implies, false_implies, exists_const, exists_eq_right, binA, intA, loadA, storeA, pickC, setAt, mapO, argsE, X.isC, resA, oneA, unA, boundA, eqiA, eqsA, fillA, fillE, ASt.fz, strA, Nat.reduceEqDiff, Nat.reduceLT, ↓reduceIte, reduceCtorEq, Nat.reduceAdd, Nat.reduceLeDiff, Int.reduceBEq, Int.reduceBNe, Int.reduceLT, Int.reduceLE, Int.reduceGT, Int.reduceGE, Nat.reduceDiv, Nat.reduceMul, Nat.reduceBEq, Nat.reduceMod, Nat.reduceSub, List.length_append, List.append_assoc, app_get_len, app_get_add, app_set_len, app_set_add, e1, e8, e9, e10, hdec, k2, k3, ck, ci, q0, q1', q2', q3', hi]
            exact right_no fun hr => by
              obtain ⟨_, r2, r3, r4, r5, r6, r7, r8⟩ := (right_iff k i n ls kids).1 hr
              have := (r8 (by omega)).1
              simp only [beq_eq_false_iff_ne, ne_eq] at hi; omega
          have hip : i = 0 := by simpa using hi
          cases hn : (n.size == 0)
          case false =>
            simp only [↓wpre, wset, wcore, ne_eq, if_true, if_false, exists_eq_left', true_implies, false_implies, exists_const, exists_eq_right, binA, intA, loadA, storeA, pickC, setAt, mapO, argsE, X.isC, resA, oneA, unA, boundA, eqiA, eqsA, fillA, fillE, ASt.fz, strA, Nat.reduceEqDiff, Nat.reduceLT, ↓reduceIte, reduceCtorEq, Nat.reduceAdd, Nat.reduceLeDiff, Int.reduceBEq, Int.reduceBNe, Int.reduceLT, Int.reduceLE, Int.reduceGT, Int.reduceGE, Nat.reduceDiv, Nat.reduceMul, Nat.reduceBEq, Nat.reduceMod, Nat.reduceSub, List.length_append, List.append_assoc, app_get_len, app_get_add, app_set_len, app_set_add, e1, e8, e9, e10, hdec, k2, k3, ck, ci, q0, q1', q2', q3', hi, hemp, hn]
            exact right_no fun hr => by
              obtain ⟨_, r2, r3, r4, r5, r6, r7, r8⟩ := (right_iff k i n ls kids).1 hr
              have := (r8 (by omega)).2
              simp only [beq_eq_false_iff_ne, ne_eq] at hn; omega
          have hnp : n.size = 0 := by simpa using hn
          simp only [↓wpre, wset, wcore, ne_eq, if_true, if_false, exists_eq_left', true_implies, false_implies, exists_const, exists_eq_right, binA, intA, loadA, storeA, pickC, setAt, mapO, argsE, X.isC, resA, oneA, unA, boundA, eqiA, eqsA, fillA, fillE, ASt.fz, strA, Nat.reduceEqDiff, Nat.reduceLT, ↓reduceIte, reduceCtorEq, Nat.reduceAdd, Nat.reduceLeDiff, Int.reduceBEq, Int.reduceBNe, Int.reduceLT, Int.reduceLE, Int.reduceGT, Int.reduceGE, Nat.reduceDiv, Nat.reduceMul, Nat.reduceBEq, Nat.reduceMod, Nat.reduceSub, List.length_append, List.append_assoc, app_get_len, app_get_add, app_set_len, app_set_add, e1, e8, e9, e10, hdec, k2, k3, ck, ci, q0, q1', q2', q3', hi, hemp, hn]
          exact right_yes ((right_iff k i n ls kids).2 ⟨hvs, q0p, by omega, by omega, by omega, by omega, by omega, fun _ => ⟨hip, .inr hnp⟩⟩)
        · have hxp : k = 0 ∨ k = 12 := by simpa using hx
          rw [hx] at ci
          cases i0 : decide (i ≥ 0)
          case false =>
            simp only [↓wpre, wset, wcore, ne_eq, if_true, if_false, exists_eq_left', true_implies, false_implies, exists_const, exists_eq_right, binA, intA, loadA, storeA, pickC, setAt, mapO, argsE, X.isC, resA, oneA, unA, boundA, eqiA, eqsA, fillA, fillE, ASt.fz, strA, Nat.reduceEqDiff, Nat.reduceLT, ↓reduceIte, reduceCtorEq, Nat.reduceAdd, Nat.reduceLeDiff, Int.reduceBEq, Int.reduceBNe, Int.reduceLT, Int.reduceLE, Int.reduceGT, Int.reduceGE, Nat.reduceDiv, Nat.reduceMul, Nat.reduceBEq, Nat.reduceMod, Nat.reduceSub, List.length_append, List.append_assoc, app_get_len, app_get_add, app_set_len, app_set_add, e1, e8, e9, e10, hdec, k2, k3, ck, ci, q0, q1', q2', q3', i0]
            exact right_no fun hr => by
              obtain ⟨_, r2, r3, r4, r5, r6, r7, r8⟩ := (right_iff k i n ls kids).1 hr
              have := r7 hxp
              simp only [decide_eq_false_iff_not] at i0; omega
          cases i1 : decide (i ≤ 2147483647)
          case false =>
            simp only [↓wpre, wset, wcore, ne_eq, if_true, if_false, exists_eq_left', true_implies, false_implies, exists_const, exists_eq_right, binA, intA, loadA, storeA, pickC, setAt, mapO, argsE, X.isC, resA, oneA, unA, boundA, eqiA, eqsA, fillA, fillE, ASt.fz, strA, Nat.reduceEqDiff, Nat.reduceLT, ↓reduceIte, reduceCtorEq, Nat.reduceAdd, Nat.reduceLeDiff, Int.reduceBEq, Int.reduceBNe, Int.reduceLT, Int.reduceLE, Int.reduceGT, Int.reduceGE, Nat.reduceDiv, Nat.reduceMul, Nat.reduceBEq, Nat.reduceMod, Nat.reduceSub, List.length_append, List.append_assoc, app_get_len, app_get_add, app_set_len, app_set_add, e1, e8, e9, e10, hdec, k2, k3, ck, ci, q0, q1', q2', q3', i0, i1]
            exact right_no fun hr => by
              obtain ⟨_, r2, r3, r4, r5, r6, r7, r8⟩ := (right_iff k i n ls kids).1 hr
              have := r7 hxp
              simp only [decide_eq_false_iff_not] at i1; omega
          cases hn : (n.size == 0)
          case false =>
            simp only [↓wpre, wset, wcore, ne_eq, if_true, if_false, exists_eq_left', true_implies, false_implies, exists_const, exists_eq_right, binA, intA, loadA, storeA, pickC, setAt, mapO, argsE, X.isC, resA, oneA, unA, boundA, eqiA, eqsA, fillA, fillE, ASt.fz, strA, Nat.reduceEqDiff, Nat.reduceLT, ↓reduceIte, reduceCtorEq, Nat.reduceAdd, Nat.reduceLeDiff, Int.reduceBEq, Int.reduceBNe, Int.reduceLT, Int.reduceLE, Int.reduceGT, Int.reduceGE, Nat.reduceDiv, Nat.reduceMul, Nat.reduceBEq, Nat.reduceMod, Nat.reduceSub, List.length_append, List.append_assoc, app_get_len, app_get_add, app_set_len, app_set_add, e1, e8, e9, e10, hdec, k2, k3, ck, ci, q0, q1', q2', q3', i0, i1, hemp, hn]
            exact right_no fun hr => by
              obtain ⟨_, r2, r3, r4, r5, r6, r7, r8⟩ := (right_iff k i n ls kids).1 hr
              have := r7 hxp
              simp only [beq_eq_false_iff_ne, ne_eq] at hn; omega
          simp only [↓wpre, wset, wcore, ne_eq, if_true, if_false, exists_eq_left', true_implies, false_implies, exists_const, exists_eq_right, binA, intA, loadA, storeA, pickC, setAt, mapO, argsE, X.isC, resA, oneA, unA, boundA, eqiA, eqsA, fillA, fillE, ASt.fz, strA, Nat.reduceEqDiff, Nat.reduceLT, ↓reduceIte, reduceCtorEq, Nat.reduceAdd, Nat.reduceLeDiff, Int.reduceBEq, Int.reduceBNe, Int.reduceLT, Int.reduceLE, Int.reduceGT, Int.reduceGE, Nat.reduceDiv, Nat.reduceMul, Nat.reduceBEq, Nat.reduceMod, Nat.reduceSub, List.length_append, List.append_assoc, app_get_len, app_get_add, app_set_len, app_set_add, e1, e8, e9, e10, hdec, k2, k3, ck, ci, q0, q1', q2', q3', hemp, i0, i1, hn]
          simp only [decide_eq_true_eq, beq_iff_eq] at i0 i1 hn
          exact right_yes ((right_iff k i n ls kids).2 ⟨hvs, q0p, by omega, by omega, by omega, by omega, by omega, fun h => absurd hxp h⟩)
      · have hk : k = 3 := by simpa using k3
        subst hk
        rw [show (((3 : Int) == 0) || ((3 : Int) == 12)) = false from rfl] at ci
        cases q0 : ((kas.length : Int) != kidsN 3)
        case true =>
          simp only [↓wpre, wset, wcore, ne_eq, if_true, if_false, exists_eq_left', true_implies, false_implies, exists_const, exists_eq_right, binA, intA, loadA, storeA, pickC, setAt, mapO, argsE, X.isC, resA, oneA, unA, boundA, eqiA, eqsA, fillA, fillE, ASt.fz, strA, Nat.reduceEqDiff, Nat.reduceLT, ↓reduceIte, reduceCtorEq, Nat.reduceAdd, Nat.reduceLeDiff, Int.reduceBEq, Int.reduceBNe, Int.reduceLT, Int.reduceLE, Int.reduceGT, Int.reduceGE, Nat.reduceDiv, Nat.reduceMul, Nat.reduceBEq, Nat.reduceMod, Nat.reduceSub, List.length_append, List.append_assoc, app_get_len, app_get_add, app_set_len, app_set_add, e1, e8, e9, e10, hdec, k2, k3, ck, q0]
          exact right_no fun hr => by
            obtain ⟨_, r2, r3, r4, r5, r6, r7, r8⟩ := (right_iff 3 i n ls kids).1 hr
            simp only [bne_iff_ne, ne_eq] at q0; omega
        have q1 : decide ((las.length : Int) < 0) = false := by simp
        cases q2 : decide ((las.length : Int) > 8)
        case true =>
          simp only [↓wpre, wset, wcore, ne_eq, if_true, if_false, exists_eq_left', true_implies, false_implies, exists_const, exists_eq_right, binA, intA, loadA, storeA, pickC, setAt, mapO, argsE, X.isC, resA, oneA, unA, boundA, eqiA, eqsA, fillA, fillE, ASt.fz, strA, Nat.reduceEqDiff, Nat.reduceLT, ↓reduceIte, reduceCtorEq, Nat.reduceAdd, Nat.reduceLeDiff, Int.reduceBEq, Int.reduceBNe, Int.reduceLT, Int.reduceLE, Int.reduceGT, Int.reduceGE, Nat.reduceDiv, Nat.reduceMul, Nat.reduceBEq, Nat.reduceMod, Nat.reduceSub, List.length_append, List.append_assoc, app_get_len, app_get_add, app_set_len, app_set_add, e1, e8, e9, e10, hdec, k2, k3, ck, q0, q1, q2]
          exact right_no fun hr => by
            obtain ⟨_, r2, r3, r4, r5, r6, r7, r8⟩ := (right_iff 3 i n ls kids).1 hr
            simp only [decide_eq_true_eq] at q2; omega
        cases q3 : decide ((n.size : Int) > 65536)
        case true =>
          simp only [↓wpre, wset, wcore, ne_eq, if_true, if_false, exists_eq_left', true_implies, false_implies, exists_const, exists_eq_right, binA, intA, loadA, storeA, pickC, setAt, mapO, argsE, X.isC, resA, oneA, unA, boundA, eqiA, eqsA, fillA, fillE, ASt.fz, strA, Nat.reduceEqDiff, Nat.reduceLT, ↓reduceIte, reduceCtorEq, Nat.reduceAdd, Nat.reduceLeDiff, Int.reduceBEq, Int.reduceBNe, Int.reduceLT, Int.reduceLE, Int.reduceGT, Int.reduceGE, Nat.reduceDiv, Nat.reduceMul, Nat.reduceBEq, Nat.reduceMod, Nat.reduceSub, List.length_append, List.append_assoc, app_get_len, app_get_add, app_set_len, app_set_add, e1, e8, e9, e10, hdec, k2, k3, ck, q0, q1, q2, q3]
          exact right_no fun hr => by
            obtain ⟨_, r2, r3, r4, r5, r6, r7, r8⟩ := (right_iff 3 i n ls kids).1 hr
            simp only [decide_eq_true_eq] at q3; omega
        have q0p : kidsN 3 = kids.length := by simp only [bne_eq_false_iff_eq] at q0; omega
        simp only [decide_eq_false_iff_not] at q1 q2 q3
        have q1' : decide ((las.length : Int) < 0) = false := by simp only [decide_eq_false_iff_not]; exact q1
        have q2' : decide ((las.length : Int) > 8) = false := by simp only [decide_eq_false_iff_not]; exact q2
        have q3' : decide ((n.size : Int) > 65536) = false := by simp only [decide_eq_false_iff_not]; exact q3
        cases hi : (i == 0)
        case false =>
          simp only [↓wpre, wset, wcore, ne_eq, if_true, if_false, exists_eq_left', true_implies, false_implies, exists_const, exists_eq_right, binA, intA, loadA, storeA, pickC, setAt, mapO, argsE, X.isC, resA, oneA, unA, boundA, eqiA, eqsA, fillA, fillE, ASt.fz, strA, Nat.reduceEqDiff, Nat.reduceLT, ↓reduceIte, reduceCtorEq, Nat.reduceAdd, Nat.reduceLeDiff, Int.reduceBEq, Int.reduceBNe, Int.reduceLT, Int.reduceLE, Int.reduceGT, Int.reduceGE, Nat.reduceDiv, Nat.reduceMul, Nat.reduceBEq, Nat.reduceMod, Nat.reduceSub, List.length_append, List.append_assoc, app_get_len, app_get_add, app_set_len, app_set_add, e1, e8, e9, e10, hdec, k2, k3, ck, ci, q0, q1', q2', q3', hi]
          exact right_no fun hr => by
            obtain ⟨_, r2, r3, r4, r5, r6, r7, r8⟩ := (right_iff 3 i n ls kids).1 hr
            have := (r8 (by omega)).1
            simp only [beq_eq_false_iff_ne, ne_eq] at hi; omega
        have hip : i = 0 := by simpa using hi
        simp only [↓wpre, wset, wcore, ne_eq, if_true, if_false, exists_eq_left', true_implies, false_implies, exists_const, exists_eq_right, binA, intA, loadA, storeA, pickC, setAt, mapO, argsE, X.isC, resA, oneA, unA, boundA, eqiA, eqsA, fillA, fillE, ASt.fz, strA, Nat.reduceEqDiff, Nat.reduceLT, ↓reduceIte, reduceCtorEq, Nat.reduceAdd, Nat.reduceLeDiff, Int.reduceBEq, Int.reduceBNe, Int.reduceLT, Int.reduceLE, Int.reduceGT, Int.reduceGE, Nat.reduceDiv, Nat.reduceMul, Nat.reduceBEq, Nat.reduceMod, Nat.reduceSub, List.length_append, List.append_assoc, app_get_len, app_get_add, app_set_len, app_set_add, e1, e8, e9, e10, hdec, k2, k3, ck, ci, q0, q1', q2', q3', hi]
        exact right_yes ((right_iff 3 i n ls kids).2 ⟨hvs, q0p, by omega, by omega, by omega, by omega, by omega, fun _ => ⟨hip, .inl rfl⟩⟩)
    · have hk : k = 2 := by simpa using k2
      subst hk
      rw [show (((2 : Int) == 0) || ((2 : Int) == 12)) = false from rfl] at ci
      have k3 : ((2 : Int) == 3) = false := rfl
      cases q0 : ((kas.length : Int) != kidsN 2)
      case true =>
        simp only [↓wpre, wset, wcore, ne_eq, if_true, if_false, exists_eq_left', true_implies, false_implies, exists_const, exists_eq_right, binA, intA, loadA, storeA, pickC, setAt, mapO, argsE, X.isC, resA, oneA, unA, boundA, eqiA, eqsA, fillA, fillE, ASt.fz, strA, Nat.reduceEqDiff, Nat.reduceLT, ↓reduceIte, reduceCtorEq, Nat.reduceAdd, Nat.reduceLeDiff, Int.reduceBEq, Int.reduceBNe, Int.reduceLT, Int.reduceLE, Int.reduceGT, Int.reduceGE, Nat.reduceDiv, Nat.reduceMul, Nat.reduceBEq, Nat.reduceMod, Nat.reduceSub, List.length_append, List.append_assoc, app_get_len, app_get_add, app_set_len, app_set_add, e1, e8, e9, e10, hdec, k2, ck, q0]
        exact right_no fun hr => by
          obtain ⟨_, r2, r3, r4, r5, r6, r7, r8⟩ := (right_iff 2 i n ls kids).1 hr
          simp only [bne_iff_ne, ne_eq] at q0; omega
      cases q1 : decide ((las.length : Int) < 1)
      case true =>
        simp only [↓wpre, wset, wcore, ne_eq, if_true, if_false, exists_eq_left', true_implies, false_implies, exists_const, exists_eq_right, binA, intA, loadA, storeA, pickC, setAt, mapO, argsE, X.isC, resA, oneA, unA, boundA, eqiA, eqsA, fillA, fillE, ASt.fz, strA, Nat.reduceEqDiff, Nat.reduceLT, ↓reduceIte, reduceCtorEq, Nat.reduceAdd, Nat.reduceLeDiff, Int.reduceBEq, Int.reduceBNe, Int.reduceLT, Int.reduceLE, Int.reduceGT, Int.reduceGE, Nat.reduceDiv, Nat.reduceMul, Nat.reduceBEq, Nat.reduceMod, Nat.reduceSub, List.length_append, List.append_assoc, app_get_len, app_get_add, app_set_len, app_set_add, e1, e8, e9, e10, hdec, k2, ck, q0, q1]
        exact right_no fun hr => by
          obtain ⟨_, r2, r3, r4, r5, r6, r7, r8⟩ := (right_iff 2 i n ls kids).1 hr
          simp only [decide_eq_true_eq] at q1; omega
      cases q2 : decide ((las.length : Int) > 1)
      case true =>
        simp only [↓wpre, wset, wcore, ne_eq, if_true, if_false, exists_eq_left', true_implies, false_implies, exists_const, exists_eq_right, binA, intA, loadA, storeA, pickC, setAt, mapO, argsE, X.isC, resA, oneA, unA, boundA, eqiA, eqsA, fillA, fillE, ASt.fz, strA, Nat.reduceEqDiff, Nat.reduceLT, ↓reduceIte, reduceCtorEq, Nat.reduceAdd, Nat.reduceLeDiff, Int.reduceBEq, Int.reduceBNe, Int.reduceLT, Int.reduceLE, Int.reduceGT, Int.reduceGE, Nat.reduceDiv, Nat.reduceMul, Nat.reduceBEq, Nat.reduceMod, Nat.reduceSub, List.length_append, List.append_assoc, app_get_len, app_get_add, app_set_len, app_set_add, e1, e8, e9, e10, hdec, k2, ck, q0, q1, q2]
        exact right_no fun hr => by
          obtain ⟨_, r2, r3, r4, r5, r6, r7, r8⟩ := (right_iff 2 i n ls kids).1 hr
          simp only [decide_eq_true_eq] at q2; omega
      cases q3 : decide ((n.size : Int) > 65536)
      case true =>
        simp only [↓wpre, wset, wcore, ne_eq, if_true, if_false, exists_eq_left', true_implies, false_implies, exists_const, exists_eq_right, binA, intA, loadA, storeA, pickC, setAt, mapO, argsE, X.isC, resA, oneA, unA, boundA, eqiA, eqsA, fillA, fillE, ASt.fz, strA, Nat.reduceEqDiff, Nat.reduceLT, ↓reduceIte, reduceCtorEq, Nat.reduceAdd, Nat.reduceLeDiff, Int.reduceBEq, Int.reduceBNe, Int.reduceLT, Int.reduceLE, Int.reduceGT, Int.reduceGE, Nat.reduceDiv, Nat.reduceMul, Nat.reduceBEq, Nat.reduceMod, Nat.reduceSub, List.length_append, List.append_assoc, app_get_len, app_get_add, app_set_len, app_set_add, e1, e8, e9, e10, hdec, k2, ck, q0, q1, q2, q3]
        exact right_no fun hr => by
          obtain ⟨_, r2, r3, r4, r5, r6, r7, r8⟩ := (right_iff 2 i n ls kids).1 hr
          simp only [decide_eq_true_eq] at q3; omega
      have q0p : kidsN 2 = kids.length := by simp only [bne_eq_false_iff_eq] at q0; omega
      simp only [decide_eq_false_iff_not] at q1 q2 q3
      have q1' : decide ((las.length : Int) < 1) = false := by simp only [decide_eq_false_iff_not]; exact q1
      have q2' : decide ((las.length : Int) > 1) = false := by simp only [decide_eq_false_iff_not]; exact q2
      have q3' : decide ((n.size : Int) > 65536) = false := by simp only [decide_eq_false_iff_not]; exact q3
      cases hi : (i == 0)
      case false =>
        simp only [↓wpre, wset, wcore, ne_eq, if_true, if_false, exists_eq_left', true_implies, false_implies, exists_const, exists_eq_right, binA, intA, loadA, storeA, pickC, setAt, mapO, argsE, X.isC, resA, oneA, unA, boundA, eqiA, eqsA, fillA, fillE, ASt.fz, strA, Nat.reduceEqDiff, Nat.reduceLT, ↓reduceIte, reduceCtorEq, Nat.reduceAdd, Nat.reduceLeDiff, Int.reduceBEq, Int.reduceBNe, Int.reduceLT, Int.reduceLE, Int.reduceGT, Int.reduceGE, Nat.reduceDiv, Nat.reduceMul, Nat.reduceBEq, Nat.reduceMod, Nat.reduceSub, List.length_append, List.append_assoc, app_get_len, app_get_add, app_set_len, app_set_add, e1, e8, e9, e10, hdec, k2, k3, ck, ci, q0, q1', q2', q3', hi]
        exact right_no fun hr => by
          obtain ⟨_, r2, r3, r4, r5, r6, r7, r8⟩ := (right_iff 2 i n ls kids).1 hr
          have := (r8 (by omega)).1
          simp only [beq_eq_false_iff_ne, ne_eq] at hi; omega
      have hip : i = 0 := by simpa using hi
      cases hn : (n.size == 0)
      case false =>
        simp only [↓wpre, wset, wcore, ne_eq, if_true, if_false, exists_eq_left', true_implies, false_implies, exists_const, exists_eq_right, binA, intA, loadA, storeA, pickC, setAt, mapO, argsE, X.isC, resA, oneA, unA, boundA, eqiA, eqsA, fillA, fillE, ASt.fz, strA, Nat.reduceEqDiff, Nat.reduceLT, ↓reduceIte, reduceCtorEq, Nat.reduceAdd, Nat.reduceLeDiff, Int.reduceBEq, Int.reduceBNe, Int.reduceLT, Int.reduceLE, Int.reduceGT, Int.reduceGE, Nat.reduceDiv, Nat.reduceMul, Nat.reduceBEq, Nat.reduceMod, Nat.reduceSub, List.length_append, List.append_assoc, app_get_len, app_get_add, app_set_len, app_set_add, e1, e8, e9, e10, hdec, k2, k3, ck, ci, q0, q1', q2', q3', hi, hemp, hn]
        exact right_no fun hr => by
          obtain ⟨_, r2, r3, r4, r5, r6, r7, r8⟩ := (right_iff 2 i n ls kids).1 hr
          have := (r8 (by omega)).2
          simp only [beq_eq_false_iff_ne, ne_eq] at hn; omega
      have hnp : n.size = 0 := by simpa using hn
      simp only [↓wpre, wset, wcore, ne_eq, if_true, if_false, exists_eq_left', true_implies, false_implies, exists_const, exists_eq_right, binA, intA, loadA, storeA, pickC, setAt, mapO, argsE, X.isC, resA, oneA, unA, boundA, eqiA, eqsA, fillA, fillE, ASt.fz, strA, Nat.reduceEqDiff, Nat.reduceLT, ↓reduceIte, reduceCtorEq, Nat.reduceAdd, Nat.reduceLeDiff, Int.reduceBEq, Int.reduceBNe, Int.reduceLT, Int.reduceLE, Int.reduceGT, Int.reduceGE, Nat.reduceDiv, Nat.reduceMul, Nat.reduceBEq, Nat.reduceMod, Nat.reduceSub, List.length_append, List.append_assoc, app_get_len, app_get_add, app_set_len, app_set_add, e1, e8, e9, e10, hdec, k2, k3, ck, ci, q0, q1', q2', q3', hi, hemp, hn]
      exact right_yes ((right_iff 2 i n ls kids).2 ⟨hvs, q0p, by omega, by omega, by omega, by omega, by omega, fun _ => ⟨hip, .inr hnp⟩⟩)
end Go.Proofs.Eng
