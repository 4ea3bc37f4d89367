/- P7: what functions of the program return. No conditions beyond those in the theorems. -/
import Derived.Test.YtjiheebhmokfbaaDoorT3
import Derived.Test.YtjiheebhmokfbaaDoorP6
set_option linter.all false
set_option linter.deprecated false
set_option linter.unnecessarySimpa false
set_option linter.unusedVariables false
set_option linter.unusedSimpArgs false
set_option linter.defProp false
namespace Go.Proofs.Eng
open Go Go.Proofs
set_option maxRecDepth 100000
set_option maxHeartbeats 8000000
theorem right_iff (k i : Int) (n : ByteArray) (ls : List Lv) (kids : List Tm) : (Tm.mk k i n ls kids).right = true ↔
    ls.all validB = true ∧ kidsN k = kids.length ∧ (k = 2 → ls.length = 1) ∧ (k = 3 → ls.length ≤ 8) ∧ (k ≠ 2 → k ≠ 3 → ls.length = 0) ∧ n.size ≤ 65536 ∧ ((k = 0 ∨ k = 12) → 0 ≤ i ∧ i ≤ 2147483647 ∧ n.size = 0) ∧ (¬ (k = 0 ∨ k = 12) → i = 0 ∧ (k = 3 ∨ n.size = 0)) := by
  show (ls.all validB && decide (kidsN k = kids.length) && (if k = 2 then decide (ls.length = 1) else if k = 3 then decide (ls.length ≤ 8) else decide (ls.length = 0)) && decide (n.size ≤ 65536) &&
    (if k = 0 ∨ k = 12 then decide (0 ≤ i) && decide (i ≤ 2147483647) && decide (n.size = 0) else decide (i = 0) && (decide (k = 3) || decide (n.size = 0)))) = true ↔ _
  simp only [Bool.and_eq_true, decide_eq_true_eq]
  constructor
  · rintro ⟨⟨⟨⟨a1, a2⟩, a3⟩, a4⟩, a5⟩
    refine ⟨a1, a2, ?_, ?_, ?_, a4, ?_, ?_⟩
    all_goals
      split at a3 <;> (try split at a3) <;> split at a5 <;> simp only [Bool.and_eq_true, Bool.or_eq_true, decide_eq_true_eq] at a3 a5 <;> intros <;> omega
  · rintro ⟨a1, a2, a3, a4, a5, a6, a7, a8⟩
    refine ⟨⟨⟨⟨a1, a2⟩, ?_⟩, a6⟩, ?_⟩
    · split
      · simp only [decide_eq_true_eq]; omega
      · split
        · simp only [decide_eq_true_eq]; omega
        · simp only [decide_eq_true_eq]; omega
    · split
      · rename_i h
        have := a7 h
        simp only [Bool.and_eq_true, decide_eq_true_eq]; omega
      · rename_i h
        have := a8 h
        simp only [Bool.and_eq_true, Bool.or_eq_true, decide_eq_true_eq]; omega
theorem right_yes {k i : Int} {n : ByteArray} {ls : List Lv} {kids : List Tm} (h : (Tm.mk k i n ls kids).right = true) : AV.v (.bool true) = .bool (Tm.mk k i n ls kids).right := by rw [h]
theorem right_no {k i : Int} {n : ByteArray} {ls : List Lv} {kids : List Tm} (h : ¬ (Tm.mk k i n ls kids).right = true) : AV.v (.bool false) = .bool (Tm.mk k i n ls kids).right := by
  cases hr : (Tm.mk k i n ls kids).right with
  | false => rfl
  | true => exact absurd hr h
theorem node_ret (e : Tm) {a : AV} (h : e.Is a) : Out md pfs 79 [a] (· = .bool e.right) fun _ => False := by
  obtain ⟨k, i, n, ls, kids⟩ := e
  obtain ⟨t1, t2, las, kas, rfl, g1, g2, g3, g4, g5, g6, g7, g8, g9⟩ := h.opn
  have hl1 := g8.len
  have hl2 := g9.len
  obtain ⟨_, rfl, ck⟩ := (rkids_ret k).call rfl (by simp [pvs_cons, pvs_nil, pv_v])
  have hemp := empty_str (s := n)
  refine out_of pf79_is (Nat.le_of_ble_eq_true rfl) ?_
  cases q0 : (kidsN k != (kas.length : Int))
  case true =>
    simp only [pf79, ↓wpre, wset, wcore, wext, ne_eq, if_true, if_false, exists_eq_left', true_implies, false_implies, exists_const, exists_eq_right, binA, intA, loadA, storeA, pickC, setAt, mapO, argsE, X.isC, resA, oneA, unA, boundA, eqiA, eqsA, fillA, fillE, ASt.fz, strA, simprocAttr, ck, q0]
    exact right_no fun hr => by
      obtain ⟨_, r2, r3, r4, r5, r6, r7, r8⟩ := (right_iff k i n ls kids).1 hr
      simp only [bne_iff_ne, ne_eq] at q0; omega
  have q0p : kidsN k = kids.length := by simp only [bne_eq_false_iff_eq] at q0; omega
  simp only [pf79, ↓wpre, wset, wcore, wext, ne_eq, if_true, if_false, exists_eq_left', true_implies, false_implies, exists_const, exists_eq_right, binA, intA, loadA, storeA, pickC, setAt, mapO, argsE, X.isC, resA, oneA, unA, boundA, eqiA, eqsA, fillA, fillE, ASt.fz, strA, simprocAttr, ck, q0]
  refine W_loopE (fun j => las.length - j) (fun j E H T => H = [.cells false [.int k, .int i, .str n, .sl las t1, .sl kas t2]] ∧ E 1 = .ptr 0 0 ∧ E 3 = .int (j : Nat) ∧ j ≤ las.length ∧ ∀ x ∈ ls.take j, validB x = true) ?_ 0 ⟨rfl, rfl, rfl, Nat.zero_le _, by simp⟩
  rintro j E H T ⟨rfl, e1, e3, hj, hgood⟩
  rcases Nat.lt_or_ge j las.length with hlt | hge
  · have hdec : decide ((j : Int) < las.length) = true := by simpa using hlt
    obtain ⟨x, c, d0, d1, d3, d4, d5, d6, d7, d8⟩ := g8.get lvAgg hlt
    obtain ⟨_, rfl, cv⟩ := (rvalid_ret d8).call rfl (by simp [pvs_cons, pvs_nil, lvPure d8])
    have hall := g8.all lvAgg
    cases hv : validB x
    · simp only [↓wpre, wset, wcore, wext, ne_eq, if_true, if_false, exists_eq_left', true_implies, false_implies, exists_const, exists_eq_right, binA, intA, loadA, storeA, pickC, setAt, mapO, argsE, X.isC, resA, oneA, unA, boundA, eqiA, eqsA, fillA, fillE, ASt.fz, strA, simprocAttr, e1, e3, hdec, d4, d5, d6, d7, hall, cv, hv]
      exact right_no fun hr => by
        have := ((right_iff k i n ls kids).1 hr).1
        rw [List.all_eq_true.1 this x d3] at hv; cases hv
    · simp only [↓wpre, wset, wcore, wext, ne_eq, if_true, if_false, exists_eq_left', true_implies, false_implies, exists_const, exists_eq_right, binA, intA, loadA, storeA, pickC, setAt, mapO, argsE, X.isC, resA, oneA, unA, boundA, eqiA, eqsA, fillA, fillE, ASt.fz, strA, simprocAttr, e1, e3, hdec, d4, d5, d6, d7, hall, cv, hv]
      exact EQ_in ⟨j + 1, by omega, rfl, e1, next_ixv (by unfold lenB at *; omega), by omega, fun y hy => by
        rw [List.take_add_one, d0] at hy
        simp only [Option.toList_some, List.mem_append, List.mem_singleton] at hy
        rcases hy with hy | rfl
        · exact hgood y hy
        · exact hv⟩
  · have hdec : decide ((j : Int) < las.length) = false := by simpa using hge
    have hvs : ls.all validB = true := by
      rw [List.take_of_length_le (by omega)] at hgood
      exact List.all_eq_true.2 hgood
    clear hgood hj hge
    cases k2 : (k == 2)
    · have k2p : k ≠ 2 := by simpa using k2
      cases k3 : (k == 3)
      · have k3p : k ≠ 3 := by simpa using k3
        have k3n : (k != 3) = true := by simpa using k3
        cases b0 : (k == 0)
        · have b0p : k ≠ 0 := by simpa using b0
          cases b12 : (k == 12)
          · have b12p : k ≠ 12 := by simpa using b12
            have hxp : ¬ (k = 0 ∨ k = 12) := by omega
            cases hi : (i != 0)
            case true =>
              simp only [↓wpre, wset, wcore, wext, ne_eq, if_true, if_false, exists_eq_left', true_implies, false_implies, exists_const, exists_eq_right, binA, intA, loadA, storeA, pickC, setAt, mapO, argsE, X.isC, resA, oneA, unA, boundA, eqiA, eqsA, fillA, fillE, ASt.fz, strA, simprocAttr, e1, e3, hdec, k2, k3, k3n, b0, b12, hi]
              exact right_no fun hr => by
                obtain ⟨_, r2, r3, r4, r5, r6, r7, r8⟩ := (right_iff k i n ls kids).1 hr
                have := (r8 hxp).1; simp only [bne_iff_ne, ne_eq] at hi; omega
            have hip : i = 0 := by simpa using hi
            cases hn : (n.size == 0)
            case false =>
              simp only [↓wpre, wset, wcore, wext, ne_eq, if_true, if_false, exists_eq_left', true_implies, false_implies, exists_const, exists_eq_right, binA, intA, loadA, storeA, pickC, setAt, mapO, argsE, X.isC, resA, oneA, unA, boundA, eqiA, eqsA, fillA, fillE, ASt.fz, strA, simprocAttr, e1, e3, hdec, k2, k3, k3n, b0, b12, hi, hemp, hn]
              exact right_no fun hr => by
                obtain ⟨_, r2, r3, r4, r5, r6, r7, r8⟩ := (right_iff k i n ls kids).1 hr
                have := (r8 hxp).2; simp only [beq_eq_false_iff_ne, ne_eq] at hn; omega
            have hnp : n.size = 0 := by simpa using hn
            have q3 : decide ((n.size : Int) > 65536) = false := by simp only [decide_eq_false_iff_not]; omega
            cases ql : ((las.length : Int) == 0)
            · simp only [↓wpre, wset, wcore, wext, ne_eq, if_true, if_false, exists_eq_left', true_implies, false_implies, exists_const, exists_eq_right, binA, intA, loadA, storeA, pickC, setAt, mapO, argsE, X.isC, resA, oneA, unA, boundA, eqiA, eqsA, fillA, fillE, ASt.fz, strA, simprocAttr, e1, e3, hdec, k2, k3, k3n, b0, b12, hi, hemp, hn, q3, ql]
              exact right_no fun hr => by
                obtain ⟨_, r2, r3, r4, r5, r6, r7, r8⟩ := (right_iff k i n ls kids).1 hr
                simp only [beq_eq_false_iff_ne, ne_eq] at ql; omega
            · simp only [↓wpre, wset, wcore, wext, ne_eq, if_true, if_false, exists_eq_left', true_implies, false_implies, exists_const, exists_eq_right, binA, intA, loadA, storeA, pickC, setAt, mapO, argsE, X.isC, resA, oneA, unA, boundA, eqiA, eqsA, fillA, fillE, ASt.fz, strA, simprocAttr, e1, e3, hdec, k2, k3, k3n, b0, b12, hi, hemp, hn, q3, ql]
              have qlp : (las.length : Int) = 0 := by simpa using ql
              exact right_yes ((right_iff k i n ls kids).2 ⟨hvs, q0p, by omega, by omega, by omega, by omega, fun h => absurd h hxp, fun _ => ⟨hip, .inr hnp⟩⟩)
          · have b12p : k = 12 := by simpa using b12
            have hxp : k = 0 ∨ k = 12 := .inr b12p
            cases i0 : decide (i < 0)
            case true =>
              simp only [↓wpre, wset, wcore, wext, ne_eq, if_true, if_false, exists_eq_left', true_implies, false_implies, exists_const, exists_eq_right, binA, intA, loadA, storeA, pickC, setAt, mapO, argsE, X.isC, resA, oneA, unA, boundA, eqiA, eqsA, fillA, fillE, ASt.fz, strA, simprocAttr, e1, e3, hdec, k2, k3, k3n, b0, b12, i0]
              exact right_no fun hr => by
                obtain ⟨_, r2, r3, r4, r5, r6, r7, r8⟩ := (right_iff k i n ls kids).1 hr
                have := r7 hxp; simp only [decide_eq_true_eq] at i0; omega
            cases i1 : decide (i > 2147483647)
            case true =>
              simp only [↓wpre, wset, wcore, wext, ne_eq, if_true, if_false, exists_eq_left', true_implies, false_implies, exists_const, exists_eq_right, binA, intA, loadA, storeA, pickC, setAt, mapO, argsE, X.isC, resA, oneA, unA, boundA, eqiA, eqsA, fillA, fillE, ASt.fz, strA, simprocAttr, e1, e3, hdec, k2, k3, k3n, b0, b12, i0, i1]
              exact right_no fun hr => by
                obtain ⟨_, r2, r3, r4, r5, r6, r7, r8⟩ := (right_iff k i n ls kids).1 hr
                have := r7 hxp; simp only [decide_eq_true_eq] at i1; omega
            cases hn : (n.size == 0)
            case false =>
              simp only [↓wpre, wset, wcore, wext, ne_eq, if_true, if_false, exists_eq_left', true_implies, false_implies, exists_const, exists_eq_right, binA, intA, loadA, storeA, pickC, setAt, mapO, argsE, X.isC, resA, oneA, unA, boundA, eqiA, eqsA, fillA, fillE, ASt.fz, strA, simprocAttr, e1, e3, hdec, k2, k3, k3n, b0, b12, i0, i1, hemp, hn]
              exact right_no fun hr => by
                obtain ⟨_, r2, r3, r4, r5, r6, r7, r8⟩ := (right_iff k i n ls kids).1 hr
                have := r7 hxp; simp only [beq_eq_false_iff_ne, ne_eq] at hn; omega
            have hnp : n.size = 0 := by simpa using hn
            have i0p : ¬ i < 0 := by simpa using i0
            have i1p : ¬ i > 2147483647 := by simpa using i1
            have q3 : decide ((n.size : Int) > 65536) = false := by simp only [decide_eq_false_iff_not]; omega
            cases ql : ((las.length : Int) == 0)
            · simp only [↓wpre, wset, wcore, wext, ne_eq, if_true, if_false, exists_eq_left', true_implies, false_implies, exists_const, exists_eq_right, binA, intA, loadA, storeA, pickC, setAt, mapO, argsE, X.isC, resA, oneA, unA, boundA, eqiA, eqsA, fillA, fillE, ASt.fz, strA, simprocAttr, e1, e3, hdec, k2, k3, k3n, b0, b12, i0, i1, hemp, hn, q3, ql]
              exact right_no fun hr => by
                obtain ⟨_, r2, r3, r4, r5, r6, r7, r8⟩ := (right_iff k i n ls kids).1 hr
                simp only [beq_eq_false_iff_ne, ne_eq] at ql; omega
            · simp only [↓wpre, wset, wcore, wext, ne_eq, if_true, if_false, exists_eq_left', true_implies, false_implies, exists_const, exists_eq_right, binA, intA, loadA, storeA, pickC, setAt, mapO, argsE, X.isC, resA, oneA, unA, boundA, eqiA, eqsA, fillA, fillE, ASt.fz, strA, simprocAttr, e1, e3, hdec, k2, k3, k3n, b0, b12, i0, i1, hemp, hn, q3, ql]
              have qlp : (las.length : Int) = 0 := by simpa using ql
              exact right_yes ((right_iff k i n ls kids).2 ⟨hvs, q0p, by omega, by omega, by omega, by omega, fun _ => by omega, fun h => absurd hxp h⟩)
        · have b0p : k = 0 := by simpa using b0
          have hxp : k = 0 ∨ k = 12 := .inl b0p
          cases i0 : decide (i < 0)
          case true =>
            simp only [↓wpre, wset, wcore, wext, ne_eq, if_true, if_false, exists_eq_left', true_implies, false_implies, exists_const, exists_eq_right, binA, intA, loadA, storeA, pickC, setAt, mapO, argsE, X.isC, resA, oneA, unA, boundA, eqiA, eqsA, fillA, fillE, ASt.fz, strA, simprocAttr, e1, e3, hdec, k2, k3, k3n, b0, i0]
            exact right_no fun hr => by
              obtain ⟨_, r2, r3, r4, r5, r6, r7, r8⟩ := (right_iff k i n ls kids).1 hr
              have := r7 hxp; simp only [decide_eq_true_eq] at i0; omega
          cases i1 : decide (i > 2147483647)
          case true =>
            simp only [↓wpre, wset, wcore, wext, ne_eq, if_true, if_false, exists_eq_left', true_implies, false_implies, exists_const, exists_eq_right, binA, intA, loadA, storeA, pickC, setAt, mapO, argsE, X.isC, resA, oneA, unA, boundA, eqiA, eqsA, fillA, fillE, ASt.fz, strA, simprocAttr, e1, e3, hdec, k2, k3, k3n, b0, i0, i1]
            exact right_no fun hr => by
              obtain ⟨_, r2, r3, r4, r5, r6, r7, r8⟩ := (right_iff k i n ls kids).1 hr
              have := r7 hxp; simp only [decide_eq_true_eq] at i1; omega
          cases hn : (n.size == 0)
          case false =>
            simp only [↓wpre, wset, wcore, wext, ne_eq, if_true, if_false, exists_eq_left', true_implies, false_implies, exists_const, exists_eq_right, binA, intA, loadA, storeA, pickC, setAt, mapO, argsE, X.isC, resA, oneA, unA, boundA, eqiA, eqsA, fillA, fillE, ASt.fz, strA, simprocAttr, e1, e3, hdec, k2, k3, k3n, b0, i0, i1, hemp, hn]
            exact right_no fun hr => by
              obtain ⟨_, r2, r3, r4, r5, r6, r7, r8⟩ := (right_iff k i n ls kids).1 hr
              have := r7 hxp; simp only [beq_eq_false_iff_ne, ne_eq] at hn; omega
          have hnp : n.size = 0 := by simpa using hn
          have i0p : ¬ i < 0 := by simpa using i0
          have i1p : ¬ i > 2147483647 := by simpa using i1
          have q3 : decide ((n.size : Int) > 65536) = false := by simp only [decide_eq_false_iff_not]; omega
          cases ql : ((las.length : Int) == 0)
          · simp only [↓wpre, wset, wcore, wext, ne_eq, if_true, if_false, exists_eq_left', true_implies, false_implies, exists_const, exists_eq_right, binA, intA, loadA, storeA, pickC, setAt, mapO, argsE, X.isC, resA, oneA, unA, boundA, eqiA, eqsA, fillA, fillE, ASt.fz, strA, simprocAttr, e1, e3, hdec, k2, k3, k3n, b0, i0, i1, hemp, hn, q3, ql]
            exact right_no fun hr => by
              obtain ⟨_, r2, r3, r4, r5, r6, r7, r8⟩ := (right_iff k i n ls kids).1 hr
              simp only [beq_eq_false_iff_ne, ne_eq] at ql; omega
          · simp only [↓wpre, wset, wcore, wext, ne_eq, if_true, if_false, exists_eq_left', true_implies, false_implies, exists_const, exists_eq_right, binA, intA, loadA, storeA, pickC, setAt, mapO, argsE, X.isC, resA, oneA, unA, boundA, eqiA, eqsA, fillA, fillE, ASt.fz, strA, simprocAttr, e1, e3, hdec, k2, k3, k3n, b0, i0, i1, hemp, hn, q3, ql]
            have qlp : (las.length : Int) = 0 := by simpa using ql
            exact right_yes ((right_iff k i n ls kids).2 ⟨hvs, q0p, by omega, by omega, by omega, by omega, fun _ => by omega, fun h => absurd hxp h⟩)
      · have hk : k = 3 := by simpa using k3
        subst hk
        have hxp : ¬ ((3 : Int) = 0 ∨ (3 : Int) = 12) := by omega
        have b0 : ((3 : Int) == 0) = false := rfl
        have b12 : ((3 : Int) == 12) = false := rfl
        have k3n : ((3 : Int) != 3) = false := rfl
        cases hi : (i != 0)
        case true =>
          simp only [↓wpre, wset, wcore, wext, ne_eq, if_true, if_false, exists_eq_left', true_implies, false_implies, exists_const, exists_eq_right, binA, intA, loadA, storeA, pickC, setAt, mapO, argsE, X.isC, resA, oneA, unA, boundA, eqiA, eqsA, fillA, fillE, ASt.fz, strA, simprocAttr, e1, e3, hdec, k2, k3, k3n, b0, b12, hi]
          exact right_no fun hr => by
            obtain ⟨_, r2, r3, r4, r5, r6, r7, r8⟩ := (right_iff 3 i n ls kids).1 hr
            have := (r8 hxp).1; simp only [bne_iff_ne, ne_eq] at hi; omega
        have hip : i = 0 := by simpa using hi
        cases q3 : decide ((n.size : Int) > 65536)
        case true =>
          simp only [↓wpre, wset, wcore, wext, ne_eq, if_true, if_false, exists_eq_left', true_implies, false_implies, exists_const, exists_eq_right, binA, intA, loadA, storeA, pickC, setAt, mapO, argsE, X.isC, resA, oneA, unA, boundA, eqiA, eqsA, fillA, fillE, ASt.fz, strA, simprocAttr, e1, e3, hdec, k2, k3, k3n, b0, b12, hi, q3]
          exact right_no fun hr => by
            obtain ⟨_, r2, r3, r4, r5, r6, r7, r8⟩ := (right_iff 3 i n ls kids).1 hr
            simp only [decide_eq_true_eq] at q3; omega
        have q3p : ¬ (n.size : Int) > 65536 := by simpa using q3
        cases ql : decide ((las.length : Int) ≤ 8)
        · simp only [↓wpre, wset, wcore, wext, ne_eq, if_true, if_false, exists_eq_left', true_implies, false_implies, exists_const, exists_eq_right, binA, intA, loadA, storeA, pickC, setAt, mapO, argsE, X.isC, resA, oneA, unA, boundA, eqiA, eqsA, fillA, fillE, ASt.fz, strA, simprocAttr, e1, e3, hdec, k2, k3, k3n, b0, b12, hi, q3, ql]
          exact right_no fun hr => by
            obtain ⟨_, r2, r3, r4, r5, r6, r7, r8⟩ := (right_iff 3 i n ls kids).1 hr
            simp only [decide_eq_false_iff_not] at ql; omega
        · simp only [↓wpre, wset, wcore, wext, ne_eq, if_true, if_false, exists_eq_left', true_implies, false_implies, exists_const, exists_eq_right, binA, intA, loadA, storeA, pickC, setAt, mapO, argsE, X.isC, resA, oneA, unA, boundA, eqiA, eqsA, fillA, fillE, ASt.fz, strA, simprocAttr, e1, e3, hdec, k2, k3, k3n, b0, b12, hi, q3, ql]
          have qlp : (las.length : Int) ≤ 8 := by simpa using ql
          exact right_yes ((right_iff 3 i n ls kids).2 ⟨hvs, q0p, by omega, by omega, by omega, by omega, fun h => by omega, fun _ => ⟨hip, .inl rfl⟩⟩)
    · have hk : k = 2 := by simpa using k2
      subst hk
      have hxp : ¬ ((2 : Int) = 0 ∨ (2 : Int) = 12) := by omega
      have b0 : ((2 : Int) == 0) = false := rfl
      have b12 : ((2 : Int) == 12) = false := rfl
      have k3n : ((2 : Int) != 3) = true := rfl
      cases hi : (i != 0)
      case true =>
        simp only [↓wpre, wset, wcore, wext, ne_eq, if_true, if_false, exists_eq_left', true_implies, false_implies, exists_const, exists_eq_right, binA, intA, loadA, storeA, pickC, setAt, mapO, argsE, X.isC, resA, oneA, unA, boundA, eqiA, eqsA, fillA, fillE, ASt.fz, strA, simprocAttr, e1, e3, hdec, k2, k3n, b0, b12, hi]
        exact right_no fun hr => by
          obtain ⟨_, r2, r3, r4, r5, r6, r7, r8⟩ := (right_iff 2 i n ls kids).1 hr
          have := (r8 hxp).1; simp only [bne_iff_ne, ne_eq] at hi; omega
      have hip : i = 0 := by simpa using hi
      cases hn : (n.size == 0)
      case false =>
        simp only [↓wpre, wset, wcore, wext, ne_eq, if_true, if_false, exists_eq_left', true_implies, false_implies, exists_const, exists_eq_right, binA, intA, loadA, storeA, pickC, setAt, mapO, argsE, X.isC, resA, oneA, unA, boundA, eqiA, eqsA, fillA, fillE, ASt.fz, strA, simprocAttr, e1, e3, hdec, k2, k3n, b0, b12, hi, hemp, hn]
        exact right_no fun hr => by
          obtain ⟨_, r2, r3, r4, r5, r6, r7, r8⟩ := (right_iff 2 i n ls kids).1 hr
          have := (r8 hxp).2; simp only [beq_eq_false_iff_ne, ne_eq] at hn; omega
      have hnp : n.size = 0 := by simpa using hn
      have q3 : decide ((n.size : Int) > 65536) = false := by simp only [decide_eq_false_iff_not]; omega
      cases ql : ((las.length : Int) == 1)
      · simp only [↓wpre, wset, wcore, wext, ne_eq, if_true, if_false, exists_eq_left', true_implies, false_implies, exists_const, exists_eq_right, binA, intA, loadA, storeA, pickC, setAt, mapO, argsE, X.isC, resA, oneA, unA, boundA, eqiA, eqsA, fillA, fillE, ASt.fz, strA, simprocAttr, e1, e3, hdec, k2, k3n, b0, b12, hi, hemp, hn, q3, ql]
        exact right_no fun hr => by
          obtain ⟨_, r2, r3, r4, r5, r6, r7, r8⟩ := (right_iff 2 i n ls kids).1 hr
          simp only [beq_eq_false_iff_ne, ne_eq] at ql; omega
      · simp only [↓wpre, wset, wcore, wext, ne_eq, if_true, if_false, exists_eq_left', true_implies, false_implies, exists_const, exists_eq_right, binA, intA, loadA, storeA, pickC, setAt, mapO, argsE, X.isC, resA, oneA, unA, boundA, eqiA, eqsA, fillA, fillE, ASt.fz, strA, simprocAttr, e1, e3, hdec, k2, k3n, b0, b12, hi, hemp, hn, q3, ql]
        have qlp : (las.length : Int) = 1 := by simpa using ql
        exact right_yes ((right_iff 2 i n ls kids).2 ⟨hvs, q0p, by omega, by omega, by omega, by omega, fun h => absurd h hxp, fun _ => ⟨hip, .inr hnp⟩⟩)
theorem Good.cut {T m : List Tm} (h : Good (T ++ m)) : Good T := by
  generalize hU : T ++ m = U at h
  induction h generalizing m with
  | nil => simp at hU; rw [hU.1]; exact .nil
  | @add T' t h hn hf hk ih =>
    rcases List.eq_nil_or_concat m with rfl | ⟨m', x, rfl⟩
    · rw [List.append_nil] at hU; subst hU; exact .add h hn hf hk
    · rw [List.concat_eq_append, ← List.append_assoc] at hU
      exact ih (List.append_inj_left' hU rfl)
end Go.Proofs.Eng
