/- Numbers as text: AppendUint, AppendInt, add. No conditions beyond those in the theorems. -/
import Derived.Test.YtjiheebhmokfbaaDoorT3
import Derived.Test.YtjiheebhmokfbaaDoorWX
set_option linter.all false
set_option linter.deprecated false
set_option linter.unnecessarySimpa false
set_option linter.unusedVariables false
set_option linter.unusedSimpArgs false
set_option linter.defProp false
namespace Go.Proofs.Eng
open Go Go.Proofs
set_option maxRecDepth 100000
set_option maxHeartbeats 8000000
theorem right_iff (k i : Int) (n : ByteArray) (ls : List Lv) (kids : List Tm) : (Tm.mk k i n ls kids).right = true ↔
  ls.all validB = true ∧ kidsN k = kids.length ∧ (k = 2 → ls.length = 1) ∧ (k = 3 → ls.length ≤ 8) ∧ (k ≠ 2 → k ≠ 3 → ls.length = 0) ∧ n.size ≤ 65536 ∧ ((k = 0 ∨ k = 12) → 0 ≤ i ∧ i ≤ 2147483647 ∧ n.size = 0) ∧ (¬ (k = 0 ∨ k = 12) → i = 0 ∧ (k = 3 ∨ n.size = 0)) := by
 show (ls.all validB && decide (kidsN k = kids.length) && (if k = 2 then decide (ls.length = 1) else if k = 3 then decide (ls.length ≤ 8) else decide (ls.length = 0)) && decide (n.size ≤ 65536) &&
  (if k = 0 ∨ k = 12 then decide (0 ≤ i) && decide (i ≤ 2147483647) && decide (n.size = 0) else decide (i = 0) && (decide (k = 3) || decide (n.size = 0)))) = true ↔ _
 simp only [Bool.and_eq_true, decide_eq_true_eq]
 constructor
 ·rintro ⟨⟨⟨⟨a1, a2⟩, a3⟩, a4⟩, a5⟩
  refine ⟨a1, a2, ?_, ?_, ?_, a4, ?_, ?_⟩
  all_goals
   split at a3 <;> (try split at a3) <;> split at a5 <;> simp only [Bool.and_eq_true, Bool.or_eq_true, decide_eq_true_eq] at a3 a5 <;> intros <;> omega
 ·rintro ⟨a1, a2, a3, a4, a5, a6, a7, a8⟩
  refine ⟨⟨⟨⟨a1, a2⟩, ?_⟩, a6⟩, ?_⟩
  ·split
   ·simp only [decide_eq_true_eq]; omega
   ·split
    ·simp only [decide_eq_true_eq]; omega
    ·simp only [decide_eq_true_eq]; omega
  ·split
   ·rename_i h
    have := a7 h
    simp only [Bool.and_eq_true, decide_eq_true_eq]; omega
   ·rename_i h
    have := a8 h
    simp only [Bool.and_eq_true, Bool.or_eq_true, decide_eq_true_eq]; omega
theorem right_yes {k i : Int} {n : ByteArray} {ls : List Lv} {kids : List Tm} (h : (Tm.mk k i n ls kids).right = true) : AV.v (.bool true) = .bool (Tm.mk k i n ls kids).right := by rw [h]
theorem right_no {k i : Int} {n : ByteArray} {ls : List Lv} {kids : List Tm} (h : ¬ (Tm.mk k i n ls kids).right = true) : AV.v (.bool false) = .bool (Tm.mk k i n ls kids).right := by
 cases hr : (Tm.mk k i n ls kids).right with
 | false => rfl
 | true => exact absurd hr h
theorem right_ret (e : Tm) {a : AV} (h : e.Is a) : Out md pfs 99 [a] (· = .bool e.right) fun _ => False := by
 obtain ⟨k, i, n, ls, kids⟩ := e
 obtain ⟨t1, t2, las, kas, rfl, g1, g2, g3, g4, g5, g6, g7, g8, g9⟩ := h.opn
 have hl1 := g8.len
 have hl2 := g9.len
 obtain ⟨_, rfl, ck⟩ := (kids_ret k).call rfl (by simp [pvs_cons, pvs_nil, pv_v])
 obtain ⟨_, rfl, ci⟩ := (indexed_ret k).call rfl (by simp [pvs_cons, pvs_nil, pv_v])
 have hemp := empty_str (s := n)
 refine out_of pf99_is (Nat.le_of_ble_eq_true rfl) ?_
 simp only [pf99, ↓wpre, wall, simprocAttr]
 refine W_loopE (fun j => las.length - j) (fun j E H T => (∃ G, H = .cells false [.int k, .int i, .str n, .sl las t1, .sl kas t2] :: G) ∧ E 1 = .ptr 0 0 ∧ E 8 = .sl las t1 ∧ E 9 = .int las.length ∧ E 10 = .int (j : Nat) ∧ j ≤ las.length ∧ ∀ x ∈ ls.take j, validB x = true) ?_ 0 ⟨⟨[], rfl⟩, rfl, rfl, rfl, rfl, Nat.zero_le _, by simp⟩
 rintro j E H T ⟨⟨G, rfl⟩, e1, e8, e9, e10, hj, hgood⟩
 rcases Nat.lt_or_ge j las.length with hlt | hge
 ·have hdec : decide ((j : Int) < las.length) = true := by simpa using hlt
  obtain ⟨x, c, d0, d1, d3, d4, d5, d6, d7, d8⟩ := g8.get lvAgg hlt
  obtain ⟨_, rfl, cv⟩ := (valid_ret d8).call rfl (by simp [pvs_cons, pvs_nil, lvPure d8])
  have hall := g8.all lvAgg
  cases hv : validB x
  ·simp only [↓wpre, wall, simprocAttr, List.length_append, List.append_assoc, app_get_len, app_get_add, app_set_len, app_set_add, e1, e8, e9, e10, hdec, d4, d5, d6, d7, hall, cv, hv]
   exact right_no fun hr => by
    have := ((right_iff k i n ls kids).1 hr).1
    rw [List.all_eq_true.1 this x d3] at hv; cases hv
  ·simp only [↓wpre, wall, simprocAttr, List.length_append, List.append_assoc, app_get_len, app_get_add, app_set_len, app_set_add, e1, e8, e9, e10, hdec, d4, d5, d6, d7, hall, cv, hv]
   exact EQ_in ⟨j + 1, by omega, ⟨_, rfl⟩, e1, e8, e9, next_ixv (by unfold lenB at *; omega), by omega, fun y hy => by
    rw [List.take_add_one, d0] at hy
    simp only [Option.toList_some, List.mem_append, List.mem_singleton] at hy
    rcases hy with hy | rfl
    ·exact hgood y hy
    ·exact hv⟩
 ·have hdec : decide ((j : Int) < las.length) = false := by simpa using hge
  have hvs : ls.all validB = true := by
   rw [List.take_of_length_le (by omega)] at hgood
   exact List.all_eq_true.2 hgood
  clear hgood hj hge
  cases k2 : (k == 2)
  ·cases k3 : (k == 3)
   ·have k2p : k ≠ 2 := by simpa using k2
    have k3p : k ≠ 3 := by simpa using k3
    cases q0 : ((kas.length : Int) != kidsN k)
    case true =>
     simp only [↓wpre, wall, simprocAttr, List.length_append, List.append_assoc, app_get_len, app_get_add, app_set_len, app_set_add, e1, e8, e9, e10, hdec, k2, k3, ck, q0]
     exact right_no fun hr => by
      obtain ⟨_, r2, r3, r4, r5, r6, r7, r8⟩ := (right_iff k i n ls kids).1 hr
      simp only [bne_iff_ne, ne_eq] at q0; omega
    have q1 : decide ((las.length : Int) < 0) = false := by simp
    cases q2 : decide ((las.length : Int) > 0)
    case true =>
     simp only [↓wpre, wall, simprocAttr, List.length_append, List.append_assoc, app_get_len, app_get_add, app_set_len, app_set_add, e1, e8, e9, e10, hdec, k2, k3, ck, q0, q1, q2]
     exact right_no fun hr => by
      obtain ⟨_, r2, r3, r4, r5, r6, r7, r8⟩ := (right_iff k i n ls kids).1 hr
      simp only [decide_eq_true_eq] at q2; omega
    cases q3 : decide ((n.size : Int) > 65536)
    case true =>
     simp only [↓wpre, wall, simprocAttr, List.length_append, List.append_assoc, app_get_len, app_get_add, app_set_len, app_set_add, e1, e8, e9, e10, hdec, k2, k3, ck, q0, q1, q2, q3]
     exact right_no fun hr => by
      obtain ⟨_, r2, r3, r4, r5, r6, r7, r8⟩ := (right_iff k i n ls kids).1 hr
      simp only [decide_eq_true_eq] at q3; omega
    have q0p : kidsN k = kids.length := by simp only [bne_eq_false_iff_eq] at q0; omega
    simp only [decide_eq_false_iff_not] at q1 q2 q3
    have q1' : decide ((las.length : Int) < 0) = false := by simp only [decide_eq_false_iff_not]; exact q1
    have q2' : decide ((las.length : Int) > 0) = false := by simp only [decide_eq_false_iff_not]; exact q2
    have q3' : decide ((n.size : Int) > 65536) = false := by simp only [decide_eq_false_iff_not]; exact q3
    cases hx : (k == 0 || k == 12)
    ·have hxp : ¬ (k = 0 ∨ k = 12) := by simpa using hx
     rw [hx] at ci
     cases hi : (i == 0)
     case false =>
      simp only [↓wpre, wall, simprocAttr, List.length_append, List.append_assoc, app_get_len, app_get_add, app_set_len, app_set_add, e1, e8, e9, e10, hdec, k2, k3, ck, ci, q0, q1', q2', q3', hi]
      exact right_no fun hr => by
       obtain ⟨_, r2, r3, r4, r5, r6, r7, r8⟩ := (right_iff k i n ls kids).1 hr
       have := (r8 (by omega)).1
       simp only [beq_eq_false_iff_ne, ne_eq] at hi; omega
     have hip : i = 0 := by simpa using hi
     cases hn : (n.size == 0)
     case false =>
      simp only [↓wpre, wall, simprocAttr, List.length_append, List.append_assoc, app_get_len, app_get_add, app_set_len, app_set_add, e1, e8, e9, e10, hdec, k2, k3, ck, ci, q0, q1', q2', q3', hi, hemp, hn]
      exact right_no fun hr => by
       obtain ⟨_, r2, r3, r4, r5, r6, r7, r8⟩ := (right_iff k i n ls kids).1 hr
       have := (r8 (by omega)).2
       simp only [beq_eq_false_iff_ne, ne_eq] at hn; omega
     have hnp : n.size = 0 := by simpa using hn
     simp only [↓wpre, wall, simprocAttr, List.length_append, List.append_assoc, app_get_len, app_get_add, app_set_len, app_set_add, e1, e8, e9, e10, hdec, k2, k3, ck, ci, q0, q1', q2', q3', hi, hemp, hn]
     exact right_yes ((right_iff k i n ls kids).2 ⟨hvs, q0p, by omega, by omega, by omega, by omega, by omega, fun _ => ⟨hip, .inr hnp⟩⟩)
    ·have hxp : k = 0 ∨ k = 12 := by simpa using hx
     rw [hx] at ci
     cases i0 : decide (i ≥ 0)
     case false =>
      simp only [↓wpre, wall, simprocAttr, List.length_append, List.append_assoc, app_get_len, app_get_add, app_set_len, app_set_add, e1, e8, e9, e10, hdec, k2, k3, ck, ci, q0, q1', q2', q3', i0]
      exact right_no fun hr => by
       obtain ⟨_, r2, r3, r4, r5, r6, r7, r8⟩ := (right_iff k i n ls kids).1 hr
       have := r7 hxp
       simp only [decide_eq_false_iff_not] at i0; omega
     cases i1 : decide (i ≤ 2147483647)
     case false =>
      simp only [↓wpre, wall, simprocAttr, List.length_append, List.append_assoc, app_get_len, app_get_add, app_set_len, app_set_add, e1, e8, e9, e10, hdec, k2, k3, ck, ci, q0, q1', q2', q3', i0, i1]
      exact right_no fun hr => by
       obtain ⟨_, r2, r3, r4, r5, r6, r7, r8⟩ := (right_iff k i n ls kids).1 hr
       have := r7 hxp
       simp only [decide_eq_false_iff_not] at i1; omega
     cases hn : (n.size == 0)
     case false =>
      simp only [↓wpre, wall, simprocAttr, List.length_append, List.append_assoc, app_get_len, app_get_add, app_set_len, app_set_add, e1, e8, e9, e10, hdec, k2, k3, ck, ci, q0, q1', q2', q3', i0, i1, hemp, hn]
      exact right_no fun hr => by
       obtain ⟨_, r2, r3, r4, r5, r6, r7, r8⟩ := (right_iff k i n ls kids).1 hr
       have := r7 hxp
       simp only [beq_eq_false_iff_ne, ne_eq] at hn; omega
     simp only [↓wpre, wall, simprocAttr, List.length_append, List.append_assoc, app_get_len, app_get_add, app_set_len, app_set_add, e1, e8, e9, e10, hdec, k2, k3, ck, ci, q0, q1', q2', q3', hemp, i0, i1, hn]
     simp only [decide_eq_true_eq, beq_iff_eq] at i0 i1 hn
     exact right_yes ((right_iff k i n ls kids).2 ⟨hvs, q0p, by omega, by omega, by omega, by omega, by omega, fun h => absurd hxp h⟩)
   ·have hk : k = 3 := by simpa using k3
    subst hk
    rw [show (((3 : Int) == 0) || ((3 : Int) == 12)) = false from rfl] at ci
    cases q0 : ((kas.length : Int) != kidsN 3)
    case true =>
     simp only [↓wpre, wall, simprocAttr, List.length_append, List.append_assoc, app_get_len, app_get_add, app_set_len, app_set_add, e1, e8, e9, e10, hdec, k2, k3, ck, q0]
     exact right_no fun hr => by
      obtain ⟨_, r2, r3, r4, r5, r6, r7, r8⟩ := (right_iff 3 i n ls kids).1 hr
      simp only [bne_iff_ne, ne_eq] at q0; omega
    have q1 : decide ((las.length : Int) < 0) = false := by simp
    cases q2 : decide ((las.length : Int) > 8)
    case true =>
     simp only [↓wpre, wall, simprocAttr, List.length_append, List.append_assoc, app_get_len, app_get_add, app_set_len, app_set_add, e1, e8, e9, e10, hdec, k2, k3, ck, q0, q1, q2]
     exact right_no fun hr => by
      obtain ⟨_, r2, r3, r4, r5, r6, r7, r8⟩ := (right_iff 3 i n ls kids).1 hr
      simp only [decide_eq_true_eq] at q2; omega
    cases q3 : decide ((n.size : Int) > 65536)
    case true =>
     simp only [↓wpre, wall, simprocAttr, List.length_append, List.append_assoc, app_get_len, app_get_add, app_set_len, app_set_add, e1, e8, e9, e10, hdec, k2, k3, ck, q0, q1, q2, q3]
     exact right_no fun hr => by
      obtain ⟨_, r2, r3, r4, r5, r6, r7, r8⟩ := (right_iff 3 i n ls kids).1 hr
      simp only [decide_eq_true_eq] at q3; omega
    have q0p : kidsN 3 = kids.length := by simp only [bne_eq_false_iff_eq] at q0; omega
    simp only [decide_eq_false_iff_not] at q1 q2 q3
    have q1' : decide ((las.length : Int) < 0) = false := by simp only [decide_eq_false_iff_not]; exact q1
    have q2' : decide ((las.length : Int) > 8) = false := by simp only [decide_eq_false_iff_not]; exact q2
    have q3' : decide ((n.size : Int) > 65536) = false := by simp only [decide_eq_false_iff_not]; exact q3
    cases hi : (i == 0)
    case false =>
     simp only [↓wpre, wall, simprocAttr, List.length_append, List.append_assoc, app_get_len, app_get_add, app_set_len, app_set_add, e1, e8, e9, e10, hdec, k2, k3, ck, ci, q0, q1', q2', q3', hi]
     exact right_no fun hr => by
      obtain ⟨_, r2, r3, r4, r5, r6, r7, r8⟩ := (right_iff 3 i n ls kids).1 hr
      have := (r8 (by omega)).1
      simp only [beq_eq_false_iff_ne, ne_eq] at hi; omega
    have hip : i = 0 := by simpa using hi
    simp only [↓wpre, wall, simprocAttr, List.length_append, List.append_assoc, app_get_len, app_get_add, app_set_len, app_set_add, e1, e8, e9, e10, hdec, k2, k3, ck, ci, q0, q1', q2', q3', hi]
    exact right_yes ((right_iff 3 i n ls kids).2 ⟨hvs, q0p, by omega, by omega, by omega, by omega, by omega, fun _ => ⟨hip, .inl rfl⟩⟩)
  ·have hk : k = 2 := by simpa using k2
   subst hk
   rw [show (((2 : Int) == 0) || ((2 : Int) == 12)) = false from rfl] at ci
   have k3 : ((2 : Int) == 3) = false := rfl
   cases q0 : ((kas.length : Int) != kidsN 2)
   case true =>
    simp only [↓wpre, wall, simprocAttr, List.length_append, List.append_assoc, app_get_len, app_get_add, app_set_len, app_set_add, e1, e8, e9, e10, hdec, k2, ck, q0]
    exact right_no fun hr => by
     obtain ⟨_, r2, r3, r4, r5, r6, r7, r8⟩ := (right_iff 2 i n ls kids).1 hr
     simp only [bne_iff_ne, ne_eq] at q0; omega
   cases q1 : decide ((las.length : Int) < 1)
   case true =>
    simp only [↓wpre, wall, simprocAttr, List.length_append, List.append_assoc, app_get_len, app_get_add, app_set_len, app_set_add, e1, e8, e9, e10, hdec, k2, ck, q0, q1]
    exact right_no fun hr => by
     obtain ⟨_, r2, r3, r4, r5, r6, r7, r8⟩ := (right_iff 2 i n ls kids).1 hr
     simp only [decide_eq_true_eq] at q1; omega
   cases q2 : decide ((las.length : Int) > 1)
   case true =>
    simp only [↓wpre, wall, simprocAttr, List.length_append, List.append_assoc, app_get_len, app_get_add, app_set_len, app_set_add, e1, e8, e9, e10, hdec, k2, ck, q0, q1, q2]
    exact right_no fun hr => by
     obtain ⟨_, r2, r3, r4, r5, r6, r7, r8⟩ := (right_iff 2 i n ls kids).1 hr
     simp only [decide_eq_true_eq] at q2; omega
   cases q3 : decide ((n.size : Int) > 65536)
   case true =>
    simp only [↓wpre, wall, simprocAttr, List.length_append, List.append_assoc, app_get_len, app_get_add, app_set_len, app_set_add, e1, e8, e9, e10, hdec, k2, ck, q0, q1, q2, q3]
    exact right_no fun hr => by
     obtain ⟨_, r2, r3, r4, r5, r6, r7, r8⟩ := (right_iff 2 i n ls kids).1 hr
     simp only [decide_eq_true_eq] at q3; omega
   have q0p : kidsN 2 = kids.length := by simp only [bne_eq_false_iff_eq] at q0; omega
   simp only [decide_eq_false_iff_not] at q1 q2 q3
   have q1' : decide ((las.length : Int) < 1) = false := by simp only [decide_eq_false_iff_not]; exact q1
   have q2' : decide ((las.length : Int) > 1) = false := by simp only [decide_eq_false_iff_not]; exact q2
   have q3' : decide ((n.size : Int) > 65536) = false := by simp only [decide_eq_false_iff_not]; exact q3
   cases hi : (i == 0)
   case false =>
    simp only [↓wpre, wall, simprocAttr, List.length_append, List.append_assoc, app_get_len, app_get_add, app_set_len, app_set_add, e1, e8, e9, e10, hdec, k2, k3, ck, ci, q0, q1', q2', q3', hi]
    exact right_no fun hr => by
     obtain ⟨_, r2, r3, r4, r5, r6, r7, r8⟩ := (right_iff 2 i n ls kids).1 hr
     have := (r8 (by omega)).1
     simp only [beq_eq_false_iff_ne, ne_eq] at hi; omega
   have hip : i = 0 := by simpa using hi
   cases hn : (n.size == 0)
   case false =>
    simp only [↓wpre, wall, simprocAttr, List.length_append, List.append_assoc, app_get_len, app_get_add, app_set_len, app_set_add, e1, e8, e9, e10, hdec, k2, k3, ck, ci, q0, q1', q2', q3', hi, hemp, hn]
    exact right_no fun hr => by
     obtain ⟨_, r2, r3, r4, r5, r6, r7, r8⟩ := (right_iff 2 i n ls kids).1 hr
     have := (r8 (by omega)).2
     simp only [beq_eq_false_iff_ne, ne_eq] at hn; omega
   have hnp : n.size = 0 := by simpa using hn
   simp only [↓wpre, wall, simprocAttr, List.length_append, List.append_assoc, app_get_len, app_get_add, app_set_len, app_set_add, e1, e8, e9, e10, hdec, k2, k3, ck, ci, q0, q1', q2', q3', hi, hemp, hn]
   exact right_yes ((right_iff 2 i n ls kids).2 ⟨hvs, q0p, by omega, by omega, by omega, by omega, by omega, fun _ => ⟨hip, .inr hnp⟩⟩)
theorem node_ret (e : Tm) {a : AV} (h : e.Is a) : Out md pfs 79 [a] (· = .bool e.right) fun _ => False := by
 obtain ⟨k, i, n, ls, kids⟩ := e
 obtain ⟨t1, t2, las, kas, rfl, g1, g2, g3, g4, g5, g6, g7, g8, g9⟩ := h.opn
 have hl1 := g8.len
 have hl2 := g9.len
 obtain ⟨_, rfl, ck⟩ := (rkids_ret k).call rfl (by simp [pvs_cons, pvs_nil, pv_v])
 have hemp := empty_str (s := n)
 refine out_of pf79_is (Nat.le_of_ble_eq_true rfl) ?_
 cases q0 : (kidsN k != (kas.length : Int))
 case true =>
  simp only [pf79, ↓wpre, wall, simprocAttr, ck, q0]
  exact right_no fun hr => by
   obtain ⟨_, r2, r3, r4, r5, r6, r7, r8⟩ := (right_iff k i n ls kids).1 hr
   simp only [bne_iff_ne, ne_eq] at q0; omega
 have q0p : kidsN k = kids.length := by simp only [bne_eq_false_iff_eq] at q0; omega
 simp only [pf79, ↓wpre, wall, simprocAttr, ck, q0]
 refine W_loopE (fun j => las.length - j) (fun j E H T => H = [.cells false [.int k, .int i, .str n, .sl las t1, .sl kas t2]] ∧ E 1 = .ptr 0 0 ∧ E 3 = .int (j : Nat) ∧ j ≤ las.length ∧ ∀ x ∈ ls.take j, validB x = true) ?_ 0 ⟨rfl, rfl, rfl, Nat.zero_le _, by simp⟩
 rintro j E H T ⟨rfl, e1, e3, hj, hgood⟩
 rcases Nat.lt_or_ge j las.length with hlt | hge
 ·have hdec : decide ((j : Int) < las.length) = true := by simpa using hlt
  obtain ⟨x, c, d0, d1, d3, d4, d5, d6, d7, d8⟩ := g8.get lvAgg hlt
  obtain ⟨_, rfl, cv⟩ := (rvalid_ret d8).call rfl (by simp [pvs_cons, pvs_nil, lvPure d8])
  have hall := g8.all lvAgg
  cases hv : validB x
  ·simp only [↓wpre, wall, simprocAttr, e1, e3, hdec, d4, d5, d6, d7, hall, cv, hv]
   exact right_no fun hr => by
    have := ((right_iff k i n ls kids).1 hr).1
    rw [List.all_eq_true.1 this x d3] at hv; cases hv
  ·simp only [↓wpre, wall, simprocAttr, e1, e3, hdec, d4, d5, d6, d7, hall, cv, hv]
   exact EQ_in ⟨j + 1, by omega, rfl, e1, next_ixv (by unfold lenB at *; omega), by omega, fun y hy => by
    rw [List.take_add_one, d0] at hy
    simp only [Option.toList_some, List.mem_append, List.mem_singleton] at hy
    rcases hy with hy | rfl
    ·exact hgood y hy
    ·exact hv⟩
 ·have hdec : decide ((j : Int) < las.length) = false := by simpa using hge
  have hvs : ls.all validB = true := by
   rw [List.take_of_length_le (by omega)] at hgood
   exact List.all_eq_true.2 hgood
  clear hgood hj hge
  cases k2 : (k == 2)
  ·have k2p : k ≠ 2 := by simpa using k2
   cases k3 : (k == 3)
   ·have k3p : k ≠ 3 := by simpa using k3
    have k3n : (k != 3) = true := by simpa using k3
    cases b0 : (k == 0)
    ·have b0p : k ≠ 0 := by simpa using b0
     cases b12 : (k == 12)
     ·have b12p : k ≠ 12 := by simpa using b12
      have hxp : ¬ (k = 0 ∨ k = 12) := by omega
      cases hi : (i != 0)
      case true =>
       simp only [↓wpre, wall, simprocAttr, e1, e3, hdec, k2, k3, k3n, b0, b12, hi]
       exact right_no fun hr => by
        obtain ⟨_, r2, r3, r4, r5, r6, r7, r8⟩ := (right_iff k i n ls kids).1 hr
        have := (r8 hxp).1; simp only [bne_iff_ne, ne_eq] at hi; omega
      have hip : i = 0 := by simpa using hi
      cases hn : (n.size == 0)
      case false =>
       simp only [↓wpre, wall, simprocAttr, e1, e3, hdec, k2, k3, k3n, b0, b12, hi, hemp, hn]
       exact right_no fun hr => by
        obtain ⟨_, r2, r3, r4, r5, r6, r7, r8⟩ := (right_iff k i n ls kids).1 hr
        have := (r8 hxp).2; simp only [beq_eq_false_iff_ne, ne_eq] at hn; omega
      have hnp : n.size = 0 := by simpa using hn
      have q3 : decide ((n.size : Int) > 65536) = false := by simp only [decide_eq_false_iff_not]; omega
      cases ql : ((las.length : Int) == 0)
      ·simp only [↓wpre, wall, simprocAttr, e1, e3, hdec, k2, k3, k3n, b0, b12, hi, hemp, hn, q3, ql]
       exact right_no fun hr => by
        obtain ⟨_, r2, r3, r4, r5, r6, r7, r8⟩ := (right_iff k i n ls kids).1 hr
        simp only [beq_eq_false_iff_ne, ne_eq] at ql; omega
      ·simp only [↓wpre, wall, simprocAttr, e1, e3, hdec, k2, k3, k3n, b0, b12, hi, hemp, hn, q3, ql]
       have qlp : (las.length : Int) = 0 := by simpa using ql
       exact right_yes ((right_iff k i n ls kids).2 ⟨hvs, q0p, by omega, by omega, by omega, by omega, fun h => absurd h hxp, fun _ => ⟨hip, .inr hnp⟩⟩)
     ·have b12p : k = 12 := by simpa using b12
      have hxp : k = 0 ∨ k = 12 := .inr b12p
      cases i0 : decide (i < 0)
      case true =>
       simp only [↓wpre, wall, simprocAttr, e1, e3, hdec, k2, k3, k3n, b0, b12, i0]
       exact right_no fun hr => by
        obtain ⟨_, r2, r3, r4, r5, r6, r7, r8⟩ := (right_iff k i n ls kids).1 hr
        have := r7 hxp; simp only [decide_eq_true_eq] at i0; omega
      cases i1 : decide (i > 2147483647)
      case true =>
       simp only [↓wpre, wall, simprocAttr, e1, e3, hdec, k2, k3, k3n, b0, b12, i0, i1]
       exact right_no fun hr => by
        obtain ⟨_, r2, r3, r4, r5, r6, r7, r8⟩ := (right_iff k i n ls kids).1 hr
        have := r7 hxp; simp only [decide_eq_true_eq] at i1; omega
      cases hn : (n.size == 0)
      case false =>
       simp only [↓wpre, wall, simprocAttr, e1, e3, hdec, k2, k3, k3n, b0, b12, i0, i1, hemp, hn]
       exact right_no fun hr => by
        obtain ⟨_, r2, r3, r4, r5, r6, r7, r8⟩ := (right_iff k i n ls kids).1 hr
        have := r7 hxp; simp only [beq_eq_false_iff_ne, ne_eq] at hn; omega
      have hnp : n.size = 0 := by simpa using hn
      have i0p : ¬ i < 0 := by simpa using i0
      have i1p : ¬ i > 2147483647 := by simpa using i1
      have q3 : decide ((n.size : Int) > 65536) = false := by simp only [decide_eq_false_iff_not]; omega
      cases ql : ((las.length : Int) == 0)
      ·simp only [↓wpre, wall, simprocAttr, e1, e3, hdec, k2, k3, k3n, b0, b12, i0, i1, hemp, hn, q3, ql]
       exact right_no fun hr => by
        obtain ⟨_, r2, r3, r4, r5, r6, r7, r8⟩ := (right_iff k i n ls kids).1 hr
        simp only [beq_eq_false_iff_ne, ne_eq] at ql; omega
      ·simp only [↓wpre, wall, simprocAttr, e1, e3, hdec, k2, k3, k3n, b0, b12, i0, i1, hemp, hn, q3, ql]
       have qlp : (las.length : Int) = 0 := by simpa using ql
       exact right_yes ((right_iff k i n ls kids).2 ⟨hvs, q0p, by omega, by omega, by omega, by omega, fun _ => by omega, fun h => absurd hxp h⟩)
    ·have b0p : k = 0 := by simpa using b0
     have hxp : k = 0 ∨ k = 12 := .inl b0p
     cases i0 : decide (i < 0)
     case true =>
      simp only [↓wpre, wall, simprocAttr, e1, e3, hdec, k2, k3, k3n, b0, i0]
      exact right_no fun hr => by
       obtain ⟨_, r2, r3, r4, r5, r6, r7, r8⟩ := (right_iff k i n ls kids).1 hr
       have := r7 hxp; simp only [decide_eq_true_eq] at i0; omega
     cases i1 : decide (i > 2147483647)
     case true =>
      simp only [↓wpre, wall, simprocAttr, e1, e3, hdec, k2, k3, k3n, b0, i0, i1]
      exact right_no fun hr => by
       obtain ⟨_, r2, r3, r4, r5, r6, r7, r8⟩ := (right_iff k i n ls kids).1 hr
       have := r7 hxp; simp only [decide_eq_true_eq] at i1; omega
     cases hn : (n.size == 0)
     case false =>
      simp only [↓wpre, wall, simprocAttr, e1, e3, hdec, k2, k3, k3n, b0, i0, i1, hemp, hn]
      exact right_no fun hr => by
       obtain ⟨_, r2, r3, r4, r5, r6, r7, r8⟩ := (right_iff k i n ls kids).1 hr
       have := r7 hxp; simp only [beq_eq_false_iff_ne, ne_eq] at hn; omega
     have hnp : n.size = 0 := by simpa using hn
     have i0p : ¬ i < 0 := by simpa using i0
     have i1p : ¬ i > 2147483647 := by simpa using i1
     have q3 : decide ((n.size : Int) > 65536) = false := by simp only [decide_eq_false_iff_not]; omega
     cases ql : ((las.length : Int) == 0)
     ·simp only [↓wpre, wall, simprocAttr, e1, e3, hdec, k2, k3, k3n, b0, i0, i1, hemp, hn, q3, ql]
      exact right_no fun hr => by
       obtain ⟨_, r2, r3, r4, r5, r6, r7, r8⟩ := (right_iff k i n ls kids).1 hr
       simp only [beq_eq_false_iff_ne, ne_eq] at ql; omega
     ·simp only [↓wpre, wall, simprocAttr, e1, e3, hdec, k2, k3, k3n, b0, i0, i1, hemp, hn, q3, ql]
      have qlp : (las.length : Int) = 0 := by simpa using ql
      exact right_yes ((right_iff k i n ls kids).2 ⟨hvs, q0p, by omega, by omega, by omega, by omega, fun _ => by omega, fun h => absurd hxp h⟩)
   ·have hk : k = 3 := by simpa using k3
    subst hk
    have hxp : ¬ ((3 : Int) = 0 ∨ (3 : Int) = 12) := by omega
    have b0 : ((3 : Int) == 0) = false := rfl
    have b12 : ((3 : Int) == 12) = false := rfl
    have k3n : ((3 : Int) != 3) = false := rfl
    cases hi : (i != 0)
    case true =>
     simp only [↓wpre, wall, simprocAttr, e1, e3, hdec, k2, k3, k3n, b0, b12, hi]
     exact right_no fun hr => by
      obtain ⟨_, r2, r3, r4, r5, r6, r7, r8⟩ := (right_iff 3 i n ls kids).1 hr
      have := (r8 hxp).1; simp only [bne_iff_ne, ne_eq] at hi; omega
    have hip : i = 0 := by simpa using hi
    cases q3 : decide ((n.size : Int) > 65536)
    case true =>
     simp only [↓wpre, wall, simprocAttr, e1, e3, hdec, k2, k3, k3n, b0, b12, hi, q3]
     exact right_no fun hr => by
      obtain ⟨_, r2, r3, r4, r5, r6, r7, r8⟩ := (right_iff 3 i n ls kids).1 hr
      simp only [decide_eq_true_eq] at q3; omega
    have q3p : ¬ (n.size : Int) > 65536 := by simpa using q3
    cases ql : decide ((las.length : Int) ≤ 8)
    ·simp only [↓wpre, wall, simprocAttr, e1, e3, hdec, k2, k3, k3n, b0, b12, hi, q3, ql]
     exact right_no fun hr => by
      obtain ⟨_, r2, r3, r4, r5, r6, r7, r8⟩ := (right_iff 3 i n ls kids).1 hr
      simp only [decide_eq_false_iff_not] at ql; omega
    ·simp only [↓wpre, wall, simprocAttr, e1, e3, hdec, k2, k3, k3n, b0, b12, hi, q3, ql]
     have qlp : (las.length : Int) ≤ 8 := by simpa using ql
     exact right_yes ((right_iff 3 i n ls kids).2 ⟨hvs, q0p, by omega, by omega, by omega, by omega, fun h => by omega, fun _ => ⟨hip, .inl rfl⟩⟩)
  ·have hk : k = 2 := by simpa using k2
   subst hk
   have hxp : ¬ ((2 : Int) = 0 ∨ (2 : Int) = 12) := by omega
   have b0 : ((2 : Int) == 0) = false := rfl
   have b12 : ((2 : Int) == 12) = false := rfl
   have k3n : ((2 : Int) != 3) = true := rfl
   cases hi : (i != 0)
   case true =>
    simp only [↓wpre, wall, simprocAttr, e1, e3, hdec, k2, k3n, b0, b12, hi]
    exact right_no fun hr => by
     obtain ⟨_, r2, r3, r4, r5, r6, r7, r8⟩ := (right_iff 2 i n ls kids).1 hr
     have := (r8 hxp).1; simp only [bne_iff_ne, ne_eq] at hi; omega
   have hip : i = 0 := by simpa using hi
   cases hn : (n.size == 0)
   case false =>
    simp only [↓wpre, wall, simprocAttr, e1, e3, hdec, k2, k3n, b0, b12, hi, hemp, hn]
    exact right_no fun hr => by
     obtain ⟨_, r2, r3, r4, r5, r6, r7, r8⟩ := (right_iff 2 i n ls kids).1 hr
     have := (r8 hxp).2; simp only [beq_eq_false_iff_ne, ne_eq] at hn; omega
   have hnp : n.size = 0 := by simpa using hn
   have q3 : decide ((n.size : Int) > 65536) = false := by simp only [decide_eq_false_iff_not]; omega
   cases ql : ((las.length : Int) == 1)
   ·simp only [↓wpre, wall, simprocAttr, e1, e3, hdec, k2, k3n, b0, b12, hi, hemp, hn, q3, ql]
    exact right_no fun hr => by
     obtain ⟨_, r2, r3, r4, r5, r6, r7, r8⟩ := (right_iff 2 i n ls kids).1 hr
     simp only [beq_eq_false_iff_ne, ne_eq] at ql; omega
   ·simp only [↓wpre, wall, simprocAttr, e1, e3, hdec, k2, k3n, b0, b12, hi, hemp, hn, q3, ql]
    have qlp : (las.length : Int) = 1 := by simpa using ql
    exact right_yes ((right_iff 2 i n ls kids).2 ⟨hvs, q0p, by omega, by omega, by omega, by omega, fun h => absurd h hxp, fun _ => ⟨hip, .inr hnp⟩⟩)
mutual
def Tm.allR : Tm → Bool
 | .mk k i n ls kids => (Tm.mk k i n ls kids).right && allRL kids
def allRL : List Tm → Bool
 | [] => true
 | t :: l => t.allR && allRL l
end
theorem allRL_iff : ∀ l : List Tm, allRL l = true ↔ ∀ t ∈ l, t.allR = true
 | [] => by simp [allRL]
 | t :: l => by simp [allRL, allRL_iff l]
theorem allR_bad {k i : Int} {n : ByteArray} {ls : List Lv} {kids : List Tm} {x : Tm} (hx : x ∈ kids) (h : x.allR = false) : AV.v (.bool false) = .bool (Tm.mk k i n ls kids).allR := by
 rw [Tm.allR]
 have : allRL kids = false := by
  cases ha : allRL kids with
  | false => rfl
  | true => have := (allRL_iff kids).1 ha x hx; rw [h] at this; cases this
 rw [this, Bool.and_false]
theorem allR_ok {k i : Int} {n : ByteArray} {ls : List Lv} {kids : List Tm} (hr : (Tm.mk k i n ls kids).right = true) (h : ∀ x ∈ kids, x.allR = true) : AV.v (.bool true) = .bool (Tm.mk k i n ls kids).allR := by
 rw [Tm.allR, hr, (allRL_iff kids).2 h]; rfl
theorem take_next {α : Type} {l : List α} {j : Nat} {x : α} {P : α → Prop} (d0 : l[j]? = some x) (h : ∀ y ∈ l.take j, P y) (hx : P x) : ∀ y ∈ l.take (j + 1), P y := fun y hy => by
 rw [List.take_add_one, d0] at hy
 simp only [Option.toList_some, List.mem_append, List.mem_singleton] at hy
 rcases hy with hy | rfl
 ·exact h y hy
 ·exact hx
theorem allRight_ret (e : Tm) : ∀ {a}, e.Is a → Out md pfs 86 [a] (· = .bool e.allR) fun _ => False := by
 induction e using Tm.ind with
 | h k i n ls kids ih =>
 intro a h
 obtain ⟨_, rfl, cr⟩ := (right_ret _ h).call rfl (by simp [pvs_cons, pvs_nil, tmPure _ h])
 obtain ⟨t1, t2, las, kas, rfl, g1, g2, g3, g4, g5, g6, g7, g8, g9⟩ := h.opn
 have hl2 := g9.len
 refine out_of pf86_is (Nat.le_of_ble_eq_true rfl) ?_
 cases hr : (Tm.mk k i n ls kids).right
 ·simp only [pf86, ↓wpre, wall, simprocAttr, cr, hr]
  rw [Tm.allR, hr, Bool.false_and]
 simp only [pf86, ↓wpre, wall, simprocAttr, cr, hr]
 refine W_loopE (fun j => kas.length - j) (fun j E H T => (∃ G, H = .cells false [.int k, .int i, .str n, .sl las t1, .sl kas t2] :: G) ∧ E 1 = .ptr 0 0 ∧ E 9 = .sl kas t2 ∧ E 10 = .int kas.length ∧ E 11 = .int (j : Nat) ∧ j ≤ kas.length ∧ ∀ x ∈ kids.take j, x.allR = true) ?_ 0 ⟨⟨[], rfl⟩, rfl, rfl, rfl, rfl, Nat.zero_le _, by simp⟩
 rintro j E H T ⟨⟨G, rfl⟩, e1, e9, e10, e11, hj, hgood⟩
 rcases Nat.lt_or_ge j kas.length with hlt | hge
 ·have hdec : decide ((j : Int) < kas.length) = true := by simpa using hlt
  obtain ⟨x, c, d0, d1, d3, d4, d5, d6, d7, d8⟩ := g9.get tmAgg hlt
  obtain ⟨_, rfl, cv⟩ := (ih x d3 d8).call rfl (by simp [pvs_cons, pvs_nil, tmPure _ d8])
  have hall := g9.all tmAgg
  cases hv : x.allR
  ·simp only [↓wpre, wall, simprocAttr, List.length_append, List.append_assoc, app_get_len, app_get_add, app_set_len, app_set_add, e1, e9, e10, e11, hdec, d4, d5, d6, d7, hall, cv, hv]
   exact allR_bad d3 hv
  ·simp only [↓wpre, wall, simprocAttr, List.length_append, List.append_assoc, app_get_len, app_get_add, app_set_len, app_set_add, e1, e9, e10, e11, hdec, d4, d5, d6, d7, hall, cv, hv]
   exact EQ_in ⟨j + 1, by omega, ⟨_, rfl⟩, e1, e9, e10, next_ixv (by unfold lenB at *; omega), by omega, take_next d0 hgood hv⟩
 ·have hdec : decide ((j : Int) < kas.length) = false := by simpa using hge
  simp only [↓wpre, wall, simprocAttr, List.length_append, List.append_assoc, app_get_len, app_get_add, app_set_len, app_set_add, e1, e9, e10, e11, hdec]
  rw [List.take_of_length_le (by omega)] at hgood
  exact allR_ok hr hgood
theorem nodes_ret (e : Tm) : ∀ {a}, e.Is a → Out md pfs 58 [a] (· = .bool e.allR) fun _ => False := by
 induction e using Tm.ind with
 | h k i n ls kids ih =>
 intro a h
 obtain ⟨_, rfl, cr⟩ := (node_ret _ h).call rfl (by simp [pvs_cons, pvs_nil, tmPure _ h])
 obtain ⟨t1, t2, las, kas, rfl, g1, g2, g3, g4, g5, g6, g7, g8, g9⟩ := h.opn
 have hl2 := g9.len
 refine out_of pf58_is (Nat.le_of_ble_eq_true rfl) ?_
 cases hr : (Tm.mk k i n ls kids).right
 ·simp only [pf58, ↓wpre, wall, simprocAttr, cr, hr]
  rw [Tm.allR, hr, Bool.false_and]
 simp only [pf58, ↓wpre, wall, simprocAttr, cr, hr]
 refine W_loopE (fun j => kas.length - j) (fun j E H T => H = [.cells false [.int k, .int i, .str n, .sl las t1, .sl kas t2]] ∧ E 1 = .ptr 0 0 ∧ E 3 = .int (j : Nat) ∧ j ≤ kas.length ∧ ∀ x ∈ kids.take j, x.allR = true) ?_ 0 ⟨rfl, rfl, rfl, Nat.zero_le _, by simp⟩
 rintro j E H T ⟨rfl, e1, e3, hj, hgood⟩
 rcases Nat.lt_or_ge j kas.length with hlt | hge
 ·have hdec : decide ((j : Int) < kas.length) = true := by simpa using hlt
  obtain ⟨x, c, d0, d1, d3, d4, d5, d6, d7, d8⟩ := g9.get tmAgg hlt
  obtain ⟨_, rfl, cv⟩ := (ih x d3 d8).call rfl (by simp [pvs_cons, pvs_nil, tmPure _ d8])
  have hall := g9.all tmAgg
  cases hv : x.allR
  ·simp only [↓wpre, wall, simprocAttr, e1, e3, hdec, d4, d5, d6, d7, hall, cv, hv]
   exact allR_bad d3 hv
  ·simp only [↓wpre, wall, simprocAttr, e1, e3, hdec, d4, d5, d6, d7, hall, cv, hv]
   exact EQ_in ⟨j + 1, by omega, rfl, e1, next_ixv (by unfold lenB at *; omega), by omega, take_next d0 hgood hv⟩
 ·have hdec : decide ((j : Int) < kas.length) = false := by simpa using hge
  simp only [↓wpre, wall, simprocAttr, e1, e3, hdec]
  rw [List.take_of_length_le (by omega)] at hgood
  exact allR_ok hr hgood
theorem tsz_split : ∀ {l : List Tm} {j : Nat} {x : Tm}, l[j]? = some x → tszL (l.take (j + 1)) = tszL (l.take j) + x.sz ∧ tszL (l.take j) + x.sz ≤ tszL l
 | [], _, _, h => by simp at h
 | y :: l, 0, x, h => by simp at h; subst h; simp [tszL]
 | y :: l, j + 1, x, h => by
  have := tsz_split (l := l) (j := j) (by simpa using h)
  simp only [List.take_succ_cons, tszL]; omega
theorem tdp_split : ∀ {l : List Tm} {j : Nat} {x : Tm}, l[j]? = some x → tdpL (l.take (j + 1)) = max (tdpL (l.take j)) x.dp ∧ x.dp ≤ tdpL l
 | [], _, _, h => by simp at h
 | y :: l, 0, x, h => by simp at h; subst h; simp [tdpL]; omega
 | y :: l, j + 1, x, h => by
  have := tdp_split (l := l) (j := j) (by simpa using h)
  simp only [List.take_succ_cons, tdpL]; omega
theorem i_max (a b : Nat) : (if (b : Int) > (a : Int) then (b : Int) else (a : Int)) = ((max a b : Nat) : Int) := by
 by_cases h : (b : Int) > (a : Int)
 ·rw [if_pos h]; omega
 ·rw [if_neg h]; omega
theorem measure_ret (e : Tm) : ∀ {a} {nodes depth : Int}, e.Is a → (e.sz : Int) ≤ nodes → nodes ≤ 4611686018427387904 → (e.dp : Int) ≤ depth + 1 → depth ≤ 4611686018427387904 → Out md pfs 85 [a, .int nodes, .int depth] (· = .tup [.int (e.sz : Nat), .int (e.dp : Nat)]) fun _ => False := by
 induction e using Tm.ind with
 | h k i n ls kids ih =>
 intro a nodes depth h hs hn hd hd2
 obtain ⟨t1, t2, las, kas, rfl, g1, g2, g3, g4, g5, g6, g7, g8, g9⟩ := h.opn
 have hl2 := g9.len
 rw [Tm.sz] at hs
 rw [Tm.dp] at hd
 refine out_of pf85_is (Nat.le_of_ble_eq_true rfl) ?_
 simp only [pf85, ↓wpre, wall, simprocAttr]
 refine W_loopE (fun j => kas.length - j) (fun j E H T => (∃ G, H = .cells false [.int k, .int i, .str n, .sl las t1, .sl kas t2] :: G) ∧ E 1 = .int nodes ∧ E 2 = .int depth ∧ E 3 = .ptr 0 0 ∧ E 15 = .sl kas t2 ∧ E 16 = .int kas.length ∧ E 17 = .int (j : Nat) ∧ j ≤ kas.length ∧ E 8 = .int ((1 + tszL (kids.take j) : Nat) : Int) ∧ E 9 = .int ((tdpL (kids.take j) : Nat) : Int)) ?_ 0 ⟨⟨[], rfl⟩, rfl, rfl, rfl, rfl, rfl, rfl, Nat.zero_le _, rfl, rfl⟩
 rintro j E H T ⟨⟨G, rfl⟩, e1, e2, e3, e15, e16, e17, hj, e8, e9⟩
 rcases Nat.lt_or_ge j kas.length with hlt | hge
 ·have hdec : decide ((j : Int) < kas.length) = true := by simpa using hlt
  obtain ⟨x, c, d0, d1, d3, d4, d5, d6, d7, d8⟩ := g9.get tmAgg hlt
  obtain ⟨s1, s2⟩ := tsz_split d0
  obtain ⟨p1, p2⟩ := tdp_split d0
  have hall := g9.all tmAgg
  have hxd : 1 ≤ x.dp := by cases x; rw [Tm.dp]; omega
  have b1 : decide (((1 + tszL (kids.take j) : Nat) : Int) > nodes) = false := by simp only [decide_eq_false_iff_not]; omega
  have b2 : decide (depth < 0) = false := by simp only [decide_eq_false_iff_not]; omega
  have w1 : IntKind.i64.wrap (nodes - ((1 + tszL (kids.take j) : Nat) : Int)) = nodes - ((1 + tszL (kids.take j) : Nat) : Int) := wrap_in (by unfold in64; omega)
  have w2 : IntKind.i64.wrap (depth - 1) = depth - 1 := wrap_in (by unfold in64; omega)
  obtain ⟨_, rfl, cv⟩ := (ih x d3 (nodes := nodes - ((1 + tszL (kids.take j) : Nat) : Int)) (depth := depth - 1) d8 (by omega) (by omega) (by omega) (by omega)).call rfl (by simp [pvs_cons, pvs_nil, pv_v, tmPure _ d8])
  have w3 : IntKind.i64.wrap (((1 + tszL (kids.take j) : Nat) : Int) + (x.sz : Int)) = ((1 + tszL (kids.take (j + 1)) : Nat) : Int) := by rw [s1, wrap_in (by unfold in64; omega)]; omega
  have w4 := i_max (tdpL (kids.take j)) x.dp
  rw [← p1] at w4
  simp only [↓wpre, wall, simprocAttr, List.length_append, List.append_assoc, app_get_len, app_get_add, app_set_len, app_set_add, e1, e2, e3, e15, e16, e17, e8, e9, hdec, d4, d5, d6, d7, hall, b1, b2, w1, w2, cv, w3, w4]
  exact EQ_in ⟨j + 1, by omega, ⟨_, rfl⟩, e1, e2, e3, e15, e16, next_ixv (by unfold lenB at *; omega), by omega, rfl, rfl⟩
 ·have hdec : decide ((j : Int) < kas.length) = false := by simpa using hge
  rw [List.take_of_length_le (by omega)] at e8 e9
  have w1 : IntKind.i64.wrap ((tdpL kids : Int) + 1) = ((tdpL kids + 1 : Nat) : Int) := by rw [wrap_in (by unfold in64; omega)]; omega
  simp only [↓wpre, wall, simprocAttr, List.length_append, List.append_assoc, app_get_len, app_get_add, app_set_len, app_set_add, e1, e2, e3, e15, e16, e17, e8, e9, hdec, w1]
  rw [Tm.sz, Tm.dp]
theorem rsize_ret (e : Tm) : ∀ {a} {lim : Int}, e.Is a → (e.sz : Int) ≤ lim → lim ≤ 4611686018427387904 → Out md pfs 56 [a, .int lim] (· = .int (e.sz : Nat)) fun _ => False := by
 induction e using Tm.ind with
 | h k i n ls kids ih =>
 intro a lim h hs hn
 obtain ⟨t1, t2, las, kas, rfl, g1, g2, g3, g4, g5, g6, g7, g8, g9⟩ := h.opn
 have hl2 := g9.len
 rw [Tm.sz] at hs
 refine out_of pf56_is (Nat.le_of_ble_eq_true rfl) ?_
 simp only [pf56, ↓wpre, wall, simprocAttr]
 refine W_loopE (fun j => kas.length - j) (fun j E H T => H = [.cells false [.int k, .int i, .str n, .sl las t1, .sl kas t2]] ∧ E 1 = .int lim ∧ E 2 = .ptr 0 0 ∧ E 6 = .int (j : Nat) ∧ j ≤ kas.length ∧ E 5 = .int ((1 + tszL (kids.take j) : Nat) : Int)) ?_ 0 ⟨rfl, rfl, rfl, rfl, Nat.zero_le _, rfl⟩
 rintro j E H T ⟨rfl, e1, e2, e6, hj, e5⟩
 rcases Nat.lt_or_ge j kas.length with hlt | hge
 ·have hdec : decide ((j : Int) < kas.length) = true := by simpa using hlt
  obtain ⟨x, c, d0, d1, d3, d4, d5, d6, d7, d8⟩ := g9.get tmAgg hlt
  obtain ⟨s1, s2⟩ := tsz_split d0
  have hall := g9.all tmAgg
  have b1 : decide (((1 + tszL (kids.take j) : Nat) : Int) ≤ lim) = true := by simp only [decide_eq_true_eq]; omega
  obtain ⟨_, rfl, cv⟩ := (ih x d3 (lim := lim) d8 (by omega) hn).call rfl (by simp [pvs_cons, pvs_nil, pv_v, tmPure _ d8])
  have w3 : IntKind.i64.wrap (((1 + tszL (kids.take j) : Nat) : Int) + (x.sz : Int)) = ((1 + tszL (kids.take (j + 1)) : Nat) : Int) := by rw [s1, wrap_in (by unfold in64; omega)]; omega
  simp only [↓wpre, wall, simprocAttr, e1, e2, e5, e6, hdec, d4, d5, d6, d7, hall, b1, cv, w3]
  exact EQ_in ⟨j + 1, by omega, rfl, e1, e2, next_ixv (by unfold lenB at *; omega), by omega, rfl⟩
 ·have hdec : decide ((j : Int) < kas.length) = false := by simpa using hge
  rw [List.take_of_length_le (by omega)] at e5
  simp only [↓wpre, wall, simprocAttr, e1, e2, e5, e6, hdec]
  rw [Tm.sz]
theorem rdepth_ret (e : Tm) : ∀ {a} {lim : Int}, e.Is a → (e.dp : Int) ≤ lim + 1 → lim ≤ 4611686018427387904 → Out md pfs 57 [a, .int lim] (· = .int (e.dp : Nat)) fun _ => False := by
 induction e using Tm.ind with
 | h k i n ls kids ih =>
 intro a lim h hs hn
 obtain ⟨t1, t2, las, kas, rfl, g1, g2, g3, g4, g5, g6, g7, g8, g9⟩ := h.opn
 have hl2 := g9.len
 rw [Tm.dp] at hs
 have b0 : decide (lim < 0) = false := by simp only [decide_eq_false_iff_not]; omega
 refine out_of pf57_is (Nat.le_of_ble_eq_true rfl) ?_
 simp only [pf57, ↓wpre, wall, simprocAttr, b0]
 refine W_loopE (fun j => kas.length - j) (fun j E H T => H = [.cells false [.int k, .int i, .str n, .sl las t1, .sl kas t2]] ∧ E 1 = .int lim ∧ E 2 = .ptr 0 0 ∧ E 6 = .int (j : Nat) ∧ j ≤ kas.length ∧ E 5 = .int ((tdpL (kids.take j) : Nat) : Int)) ?_ 0 ⟨rfl, rfl, rfl, rfl, Nat.zero_le _, rfl⟩
 rintro j E H T ⟨rfl, e1, e2, e6, hj, e5⟩
 rcases Nat.lt_or_ge j kas.length with hlt | hge
 ·have hdec : decide ((j : Int) < kas.length) = true := by simpa using hlt
  obtain ⟨x, c, d0, d1, d3, d4, d5, d6, d7, d8⟩ := g9.get tmAgg hlt
  obtain ⟨p1, p2⟩ := tdp_split d0
  have hall := g9.all tmAgg
  have hxd : 1 ≤ x.dp := by cases x; rw [Tm.dp]; omega
  have w2 : IntKind.i64.wrap (lim - 1) = lim - 1 := wrap_in (by unfold in64; omega)
  obtain ⟨_, rfl, cv⟩ := (ih x d3 (lim := lim - 1) d8 (by omega) (by omega)).call rfl (by simp [pvs_cons, pvs_nil, pv_v, tmPure _ d8])
  have w4 := i_max (tdpL (kids.take j)) x.dp
  rw [← p1] at w4
  simp only [↓wpre, wall, simprocAttr, e1, e2, e5, e6, hdec, d4, d5, d6, d7, hall, w2, cv, w4]
  exact EQ_in ⟨j + 1, by omega, rfl, e1, e2, next_ixv (by unfold lenB at *; omega), by omega, rfl⟩
 ·have hdec : decide ((j : Int) < kas.length) = false := by simpa using hge
  rw [List.take_of_length_le (by omega)] at e5
  have w1 : IntKind.i64.wrap ((tdpL kids : Int) + 1) = ((tdpL kids + 1 : Nat) : Int) := by rw [wrap_in (by unfold in64; omega)]; omega
  simp only [↓wpre, wall, simprocAttr, e1, e2, e5, e6, hdec, w1]
  rw [Tm.dp]
def encErr (e : Tm) : Int := if e.allR = true then 0 else 3
theorem encodable_ret {e : Tm} {a : AV} (h : e.Is a) (hs : e.sz ≤ 4096) (hd : e.dp ≤ 200) : Out md pfs 70 [a] (· = .int (encErr e)) fun _ => False := by
 have hp := tmPure _ h
 obtain ⟨_, rfl, c1⟩ := (measure_ret e (nodes := 4096) (depth := 1073741824) h (by omega) (by omega) (by omega) (by omega)).call rfl (by simp [pvs_cons, pvs_nil, pv_v, hp])
 obtain ⟨_, rfl, c2⟩ := (allRight_ret e h).call rfl (by simp [pvs_cons, pvs_nil, hp])
 obtain ⟨c, rfl, l1, l2, l3⟩ := tmCells h
 have b1 : decide ((e.sz : Int) > 4096) = false := by simp only [decide_eq_false_iff_not]; omega
 have b2 : decide ((e.dp : Int) > 200) = false := by simp only [decide_eq_false_iff_not]; omega
 refine out_of pf70_is (Nat.le_of_ble_eq_true rfl) ?_
 cases hr : e.allR
 all_goals
  simp only [pf70, ↓wpre, wall, simprocAttr, l1, l2, c1, c2, b1, b2, hr]
  simp [encErr, hr]
theorem rEncodable_ret {e : Tm} {a : AV} (h : e.Is a) (hs : e.sz ≤ 4096) (hd : e.dp ≤ 200) : Out md pfs 27 [a] (· = .int (encErr e)) fun _ => False := by
 have hp := tmPure _ h
 obtain ⟨_, rfl, c1⟩ := (rsize_ret e (lim := 4096) h (by omega) (by omega)).call rfl (by simp [pvs_cons, pvs_nil, pv_v, hp])
 obtain ⟨_, rfl, c3⟩ := (rdepth_ret e (lim := 202) h (by omega) (by omega)).call rfl (by simp [pvs_cons, pvs_nil, pv_v, hp])
 obtain ⟨_, rfl, c2⟩ := (nodes_ret e h).call rfl (by simp [pvs_cons, pvs_nil, hp])
 obtain ⟨c, rfl, l1, l2, l3⟩ := tmCells h
 have b1 : decide ((e.sz : Int) > 4096) = false := by simp only [decide_eq_false_iff_not]; omega
 have b2 : decide ((e.dp : Int) > 200) = false := by simp only [decide_eq_false_iff_not]; omega
 refine out_of pf27_is (Nat.le_of_ble_eq_true rfl) ?_
 cases hr : e.allR
 all_goals
  simp only [pf27, ↓wpre, wall, simprocAttr, l1, l2, c1, c2, c3, b1, b2, hr]
  simp [encErr, hr]
abbrev bigN : Nat := 4611686018427387904
theorem encN_big {n : Nat} (h : n < bigN) : (encN n).length ≤ 9 := encN_len 8 n (by unfold bigN at h; omega)
theorem bytes_snoc (l : List UInt8) {m : Nat} (h : m < 256) : bytes l ++ [AV.v (.int .u8 (m : Int))] = bytes (l ++ [UInt8.ofNat m]) := by
 simp only [bytes, List.map_append, List.map_cons, List.map_nil, byteA, u8_nat h]
theorem z128 : ((128 : Int) = 0) = False := by simp
theorem appendNumber_rw {l : List UInt8} {n : Nat} (hn : n < bigN) (hl : l.length + 9 ≤ capB) {H : List AObj} {T : List Nat} {t : Tl} (h : App T (bytes l) t) :
  Rw 71 [.sl (bytes l) t, .int n] ⟨H, T⟩ fun v s => ∃ t' T', v = .sl (bytes (l ++ encN n)) t' ∧ s = ⟨H, T'⟩ ∧ App T' (bytes (l ++ encN n)) t' ∧ Oth T t T' t' := by
 refine rw_of pf71_is (Nat.le_of_ble_eq_true rfl) ?_
 have hb := encN_big hn
 simp only [pf71, ↓wpre, wall, simprocAttr]
 refine W_loopE (fun m => m) (fun m E H' T' => H' = H ∧ ∃ cur t', E 0 = .sl (bytes cur) t' ∧ E 1 = .int (m : Nat) ∧ m < bigN ∧ cur ++ encN m = l ++ encN n ∧ App T' (bytes cur) t' ∧ Oth T t T' t') ?_ n ⟨rfl, l, t, rfl, rfl, hn, rfl, h, .refl _ _⟩
 rintro m E H' T' ⟨rfl, cur, t', e0, e1, hm, hc, ha, ho⟩
 have hlen : cur.length + (encN m).length = l.length + (encN n).length := by simpa using congrArg List.length hc
 have hpos := encN_pos m
 have hal := bytes_all cur
 rcases Nat.lt_or_ge m 128 with hlt | hge
 ·have hd : decide ((m : Int) ≥ 128) = false := by simp; omega
  have hw := u8wrap (n := m) (by omega)
  obtain ⟨t2, T2, f1, f2, f3⟩ := app_many (es := 1) (xs := [.v (.int .u8 m)]) ha (by rw [bytes_len]; simp; omega) hal rfl
  rw [bytes_snoc _ (by omega)] at f1 f2
  simp only [↓wpre, wall, simprocAttr, e0, e1, hd, hw, srcA_sl, f1, BQ_e', BQ_e, AQ_ret, AQ_normal]
  rw [encN_lt hlt] at hc
  rw [hc] at f2 ⊢
  exact ⟨_, _, rfl, rfl, f2, ho.trans f3⟩
 ·have hd : decide ((m : Int) ≥ 128) = true := by simp; omega
  have hw := u8wrap (n := m % 128) (by omega)
  have hor := u8_or (m := m % 128) (by omega)
  have hdv := i_div (m := m) hm
  obtain ⟨t2, T2, f1, f2, f3⟩ := app_many (es := 1) (xs := [.v (.int .u8 ((m % 128 + 128 : Nat)))]) ha (by rw [bytes_len]; simp; omega) hal rfl
  rw [bytes_snoc _ (by omega)] at f1 f2
  simp only [↓wpre, wall, simprocAttr, e0, e1, hd, i_rem, hw, hor, hdv, z128, srcA_sl, f1, BQ_e', BQ_e, AQ_ret, AQ_normal]
  refine EQ_in ⟨m / 128, by omega, rfl, _, _, rfl, rfl, by omega, ?_, f2, ho.trans f3⟩
  rw [encN_ge hge] at hc
  simpa using hc
def strOf (l : List UInt8) : ByteArray := ⟨l.toArray⟩
theorem strOf_size (l : List UInt8) : (strOf l).size = l.length := by simp [strOf, ByteArray.size]
theorem strOf_app (a b : List UInt8) : strOf a ++ strOf b = strOf (a ++ b) := by
 apply ByteArray.ext
 simp [strOf]
theorem strOf_toList (l : List UInt8) : (strOf l).toList = l := by rw [ByteArray.toList_eq]; simp [strOf]
theorem strOf_inj {a b : List UInt8} (h : strOf a = strOf b) : a = b := by rw [← strOf_toList a, h, strOf_toList]
theorem of_str (s : ByteArray) : strOf s.toList = s := by apply ByteArray.ext; rw [ByteArray.toList_eq]; simp [strOf]
set_option maxHeartbeats 16000000
def sml1 : ByteArray := ByteArray.mk #[48,49,50,51,52,53,54,55,56,57,97,98,99,100,101,102,103,104,105,106,107,108,109,110,111,112,113,114,115,116,117,118,119,120,121,122]
def sml2 : ByteArray := ByteArray.mk #[48,48,48,49,48,50,48,51,48,52,48,53,48,54,48,55,48,56,48,57,49,48,49,49,49,50,49,51,49,52,49,53,49,54,49,55,49,56,49,57,
 50,48,50,49,50,50,50,51,50,52,50,53,50,54,50,55,50,56,50,57,51,48,51,49,51,50,51,51,51,52,51,53,51,54,51,55,51,56,51,57,
 52,48,52,49,52,50,52,51,52,52,52,53,52,54,52,55,52,56,52,57,53,48,53,49,53,50,53,51,53,52,53,53,53,54,53,55,53,56,53,57,
 54,48,54,49,54,50,54,51,54,52,54,53,54,54,54,55,54,56,54,57,55,48,55,49,55,50,55,51,55,52,55,53,55,54,55,55,55,56,55,57,
 56,48,56,49,56,50,56,51,56,52,56,53,56,54,56,55,56,56,56,57,57,48,57,49,57,50,57,51,57,52,57,53,57,54,57,55,57,56,57,57]
def pf102b : PF := ⟨15,[.t 2],.seq (.reg [⟨some 2,none,.mov (.c (.v (.string (ByteArray.mk #[])))),0,[]⟩]) (.seq (.seq (.reg [⟨some 3,none,.mov (.t 0),0,[]⟩,⟨some 4,none,
 .bin .lss (.t 3) (.c (.v (.int .i64 10))),0,[]⟩]) (.cond (.t 4) (.seq (.reg [⟨some 5,none,.mov (.t 0),0,[]⟩,⟨some 6,none,.mov (.t 0),0,[]⟩,⟨some 7,none,.bin .add (.t 6)
  (.c (.v (.int .i64 1))),0,[]⟩,⟨some 8,none,.strsl (.c (.v (.string sml1))) (some (.t 5)) (some (.t 7)),0,[]⟩,⟨some 2,none,.mov (.t 8),0,[]⟩]) .ret) .skip))
  (.seq (.reg [⟨some 9,none,.mov (.t 0),0,[]⟩,⟨some 10,none,.bin .mul (.t 9) (.c (.v (.int .i64 2))),0,[]⟩,⟨some 11,none,.mov (.t 0),0,[]⟩,⟨some 12,none,.bin .mul (.t 11)
  (.c (.v (.int .i64 2))),0,[]⟩,⟨some 13,none,.bin .add (.t 12) (.c (.v (.int .i64 2))),0,[]⟩,⟨some 14,none,.strsl (.c (.v (.string sml2))) (some (.t 10)) (some (.t 13)),
 0,[]⟩,⟨some 2,none,.mov (.t 14),0,[]⟩]) .ret))⟩
theorem pf102b_is : pfs 102 = some pf102b := pf102_is.trans rfl
theorem sm_a : sml1.size = 36 ∧ ∀ u : Fin 10, sml1.extract u.val (u.val + 1) = strOf (digF 20 u.val) := by decide
theorem sm_b : sml2.size = 200 ∧ ∀ u : Fin 100, 10 ≤ u.val → sml2.extract (u.val * 2) (u.val * 2 + 2) = strOf (digF 20 u.val) := by decide
theorem small_ret {u : Nat} (h : u < 100) : Out md pfs 102 [.int u] (· = .str (strOf (digF 20 u))) fun _ => False := by
 refine out_of pf102b_is (Nat.le_of_ble_eq_true rfl) ?_
 obtain ⟨z1, s1⟩ := sm_a
 obtain ⟨z2, s2⟩ := sm_b
 rcases Nat.lt_or_ge u 10 with hlt | hge
 ·have hd : decide ((u : Int) < 10) = true := by simp only [decide_eq_true_eq]; omega
  have w1 : IntKind.i64.wrap ((u : Int) + 1) = ((u + 1 : Nat) : Int) := next_ix (by unfold lenB; omega)
  have b1 : ((u : Int) ≤ 36) = True := eq_true (by omega)
  have b2 : (((u + 1 : Nat) : Int) ≤ 36) = True := eq_true (by omega)
  have b3 : (u ≤ u + 1) = True := eq_true (by omega)
  have h1 := s1 ⟨u, hlt⟩
  simp only at h1
  simp only [pf102b, ↓wpre, wall, simprocAttr, hd, w1, z1, b1, b2, b3, h1, Int.toNat_natCast]
 ·have hd : decide ((u : Int) < 10) = false := by simp only [decide_eq_false_iff_not]; omega
  have w1 : IntKind.i64.wrap ((u : Int) * 2) = ((u * 2 : Nat) : Int) := by rw [wrap_in (by unfold in64; omega)]; omega
  have w2 : IntKind.i64.wrap (((u * 2 : Nat) : Int) + 2) = ((u * 2 + 2 : Nat) : Int) := by rw [wrap_in (by unfold in64; omega)]; omega
  have b1 : (((u * 2 : Nat) : Int) ≤ 200) = True := eq_true (by omega)
  have b2 : (((u * 2 + 2 : Nat) : Int) ≤ 200) = True := eq_true (by omega)
  have b3 : (u * 2 ≤ u * 2 + 2) = True := eq_true (by omega)
  have h1 := s2 ⟨u, h⟩ hge
  simp only at h1
  simp only [pf102b, ↓wpre, wall, simprocAttr, hd, w1, w2, z2, b1, b2, b3, h1, Int.toNat_natCast]
theorem num_ret {n : Nat} (h1 : 1 ≤ n) (h2 : n < 18446744073709551616) : Out md pfs 103 [.v (.int .u64 (n : Nat))] (· = .int ((digF 20 n).length : Nat)) fun _ => False := by
 have hv : numO [.v (.int .u64 (n : Nat))] ⟨[], []⟩ = some (.int ((digF 20 n).length : Nat), ⟨[], []⟩) := by
  simp only [numO]
  rw [if_pos (by omega), Int.toNat_natCast]
 exact ⟨_, _, _, run_ora (f := 103) (pf := ⟨0, [], .ora numO⟩) (o := numO) (by unfold pfs; rw [if_pos rfl]) rfl hv, by simp only [Outc.purify]; rw [purify_pure rfl]; rfl, rfl⟩
theorem fmt_call {n : Nat} (h1 : 1 ≤ n) (h2 : n < 18446744073709551616) {H : List AObj} {T : List Nat} {i : Nat} {c : List AV} (hH : H[i]? = some (.cells false c)) (hc : (digF 20 n).length ≤ c.length) (hz : c.all isZ = true) (K KP : AV → ASt → Prop) :
  CW (run md pfs) md false ⟨H, T⟩ 104 [.bs i 0 (digF 20 n).length 1 false, .v (.int .u64 (n : Nat))] K KP () = K .undef ⟨H.set i (.cells false (bytes (digF 20 n) ++ c.drop (digF 20 n).length)), T⟩ := by
 have hm : md 104 = .raw := rfl
 have hv : fmtO [.bs i 0 (digF 20 n).length 1 false, .v (.int .u64 (n : Nat))] ⟨H, T⟩ = some (.undef, ⟨H.set i (.cells false (bytes (digF 20 n) ++ c.drop (digF 20 n).length)), T⟩) := by
  simp only [fmtO, hH, Int.toNat_natCast]
  rw [if_pos]
  exact ⟨by simp, ⟨by omega, by omega⟩, by simp, hc, hz⟩
 have := run_ora (md := md) (pfs := pfs) (f := 104) (pf := ⟨0, [], .ora fmtO⟩) (o := fmtO) (by unfold pfs; rw [if_neg (by decide), if_pos rfl]) rfl hv
 simp [CW, callA, hm, this]
theorem chunk1 : ∀ (n : Nat) (l : List AV), n ≤ l.length → chunk 1 false n l = l.take n
 | 0, l, _ => by simp [chunk]
 | n + 1, [], h => by simp at h
 | n + 1, x :: l, h => by
  have := chunk1 n l (by simpa using h)
  simp [chunk, this]
theorem bytes_one (l : List UInt8) : (bytes l).all AV.one = true := by
 rw [List.all_eq_true]; intro x hx
 obtain ⟨b, _, rfl⟩ := List.mem_map.1 hx; rfl
theorem elems_bytes {H : List AObj} {T : List Nat} {i n : Nat} {fz : Bool} {l : List UInt8} {z : List AV} (hH : H[i]? = some (.cells fz (bytes l ++ z))) (hn : n = l.length) : elemsA ⟨H, T⟩ (.bs i 0 n 1 false) = some (bytes l) := by
 subst hn
 have e : ((bytes l ++ z).drop 0).take (l.length * 1) = bytes l := by
  rw [List.drop_zero, Nat.mul_one, ← bytes_len l, List.take_append_of_le_length (Nat.le_refl _), List.take_length]
 simp only [elemsA, hH]
 rw [if_pos]
 ·rw [List.drop_zero, chunk1 _ _ (by rw [List.length_append, bytes_len]; omega), ← bytes_len l, List.take_append_of_le_length (Nat.le_refl _), List.take_length]
 ·refine ⟨by rw [List.length_append, bytes_len]; omega, ?_⟩
  rw [Nat.mul_one] at e
  simp only [Nat.mul_one, e, bytes_one]; rfl
theorem map_bytes (l : List UInt8) : List.map (fun c : UInt8 => AV.v (.int .u8 (c.toNat : Int))) l = bytes l := rfl
def zs24 : List AV := List.replicate 24 (.v (.int .u8 0))
theorem zs24_eq : [AV.v (.int .u8 0), AV.v (.int .u8 0), AV.v (.int .u8 0), AV.v (.int .u8 0), AV.v (.int .u8 0), AV.v (.int .u8 0), AV.v (.int .u8 0), AV.v (.int .u8 0), AV.v (.int .u8 0), AV.v (.int .u8 0), AV.v (.int .u8 0), AV.v (.int .u8 0), AV.v (.int .u8 0), AV.v (.int .u8 0), AV.v (.int .u8 0), AV.v (.int .u8 0), AV.v (.int .u8 0), AV.v (.int .u8 0), AV.v (.int .u8 0), AV.v (.int .u8 0), AV.v (.int .u8 0), AV.v (.int .u8 0), AV.v (.int .u8 0), AV.v (.int .u8 0)] = zs24 := rfl
def KeptX (p : Nat) (H H' : List AObj) : Prop := H.length ≤ H'.length ∧ ∀ k, k < H.length → k ≠ p → H'[k]? = H[k]?
theorem digF_lenle {n : Nat} (h2 : n < 18446744073709551616) : (digF 20 n).length ≤ 20 := by have := dig20_len h2; omega
theorem src_bs (s : ASt) (i o n es : Nat) (ag : Bool) : srcA s (.bs i o n es ag) = elemsA s (.bs i o n es ag) := rfl
theorem appendUint_rw {l : List UInt8} {n : Nat} (hn : n < 18446744073709551616) (hl : l.length + 20 ≤ capB) {H : List AObj} {T : List Nat} {t : Tl} (h : App T (bytes l) t) :
  Rw 98 [.sl (bytes l) t, .v (.int .u64 (n : Nat)), .int 10] ⟨H, T⟩ fun v s => ∃ t' G T', v = .sl (bytes (l ++ digF 20 n)) t' ∧ s = ⟨H ++ G, T'⟩ ∧ App T' (bytes (l ++ digF 20 n)) t' ∧ Oth T t T' t' := by
 refine rw_of pf98_is (Nat.le_of_ble_eq_true rfl) ?_
 have hd20 := digF_lenle hn
 obtain ⟨t2, T2, f1, f2, f3⟩ := app_many (es := 1) (xs := bytes (digF 20 n)) h (by rw [bytes_len, bytes_len]; omega) (bytes_all l) (bytes_all2 _)
 rw [← bytes_app] at f1 f2
 rcases Nat.lt_or_ge n 100 with hlt | hge
 ·have hd : decide ((n : Int) < 100) = true := by simp only [decide_eq_true_eq]; omega
  have w1 : IntKind.i64.wrap (n : Int) = n := wrap_in (by unfold in64; omega)
  obtain ⟨_, rfl, c102⟩ := (small_ret hlt).call rfl (by simp [pvs_cons, pvs_nil, pv_v])
  simp only [pf98, ↓wpre, wall, simprocAttr, hd, w1, c102, strOf_toList, map_bytes, f1, AQ_ret, AQ_normal, AQ_exit]
  exact ⟨_, [], _, rfl, by simp, f2, f3⟩
 ·have hd : decide ((n : Int) < 100) = false := by simp only [decide_eq_false_iff_not]; omega
  obtain ⟨_, rfl, c103⟩ := (num_ret (n := n) (by omega) hn).call rfl (by simp [pvs_cons, pvs_nil, pv_v])
  have b1 : (((digF 20 n).length : Nat) : Int) ≤ 24 := by omega
  have c104 := fmt_call (n := n) (by omega) hn (H := H ++ [.cells false zs24]) (T := T) (i := H.length) (c := zs24) (by simp) (by simp [zs24]; omega) rfl
  rw [app_set_len, List.set_cons_zero] at c104
  have e1 := elems_bytes (fz := false) (z := zs24.drop (digF 20 n).length) (H := H ++ [.cells false (bytes (digF 20 n) ++ zs24.drop (digF 20 n).length)]) (T := T) (i := H.length) (n := (digF 20 n).length) (l := digF 20 n) (by simp) rfl
  simp only [pf98, ↓wpre, wall, simprocAttr, hd, c103, b1, Int.toNat_natCast, zs24_eq, c104, src_bs, e1, f1, AQ_ret, AQ_normal, AQ_exit]
  exact ⟨_, _, _, rfl, rfl, f2, f3⟩
theorem u64_wrap {n : Int} (h0 : 0 ≤ n) (h1 : n < 18446744073709551616) : IntKind.u64.wrap n = n := by
 simp [IntKind.wrap, IntKind.bits, IntKind.signed]; omega
theorem u64_neg {n : Int} (h0 : -9223372036854775808 ≤ n) (h1 : n < 0) : IntKind.u64.wrap (0 - IntKind.u64.wrap n) = -n := by
 simp [IntKind.wrap, IntKind.bits, IntKind.signed]; omega
theorem bytes_45 (l : List UInt8) : bytes l ++ [AV.v (.int .u8 45)] = bytes (l ++ [45]) := by simp [bytes, byteA]
theorem bytes_32 (l : List UInt8) : bytes l ++ [AV.v (.int .u8 32)] = bytes (l ++ [32]) := by simp [bytes, byteA]
theorem numF_len {x : Int} (h : in64 x) : (numF x).length ≤ 21 := by
 unfold in64 at h
 unfold numF
 split
 ·have := digF_lenle (n := x.natAbs) (by omega); simp; omega
 ·have := digF_lenle (n := x.toNat) (by omega); omega
theorem appendInt0_rw {l : List UInt8} {x : Int} (hx : in64 x) (hl : l.length + 21 ≤ capB) {H : List AObj} {T : List Nat} {t : Tl} (h : App T (bytes l) t) :
  Rw 84 [.sl (bytes l) t, .int x, .int 10] ⟨H, T⟩ fun v s => ∃ t' G T', v = .sl (bytes (l ++ numF x)) t' ∧ s = ⟨H ++ G, T'⟩ ∧ App T' (bytes (l ++ numF x)) t' ∧ Oth T t T' t' := by
 refine rw_of pf84_is (Nat.le_of_ble_eq_true rfl) ?_
 have hx' := hx
 unfold in64 at hx'
 by_cases hn : x < 0
 ·have hd : decide (x < 0) = true := by simp only [decide_eq_true_eq]; exact hn
  have w1 := u64_neg hx'.1 hn
  obtain ⟨n, hnx⟩ : ∃ n : Nat, -x = n := ⟨x.natAbs, by omega⟩
  rw [hnx] at w1
  obtain ⟨t2, T2, f1, f2, f3⟩ := app_many (es := 1) (xs := [.v (.int .u8 45)]) h (by rw [bytes_len]; simp; omega) (bytes_all l) rfl
  rw [bytes_45] at f1 f2
  obtain ⟨_, _, ⟨t3, G, T3, rfl, rfl, g2, g3⟩, c98⟩ := (appendUint_rw (l := l ++ [45]) (n := n) (H := H) (by omega) (by simp; omega) f2).call rfl
  have e : l ++ numF x = l ++ [45] ++ digF 20 n := by
   unfold numF; rw [if_pos hn, show x.natAbs = n from by omega]; simp
  simp only [pf84, ↓wpre, wall, simprocAttr, hd, w1, f1, srcA_sl, c98, AQ_ret, AQ_normal, AQ_exit]
  rw [e]
  exact ⟨_, _, _, rfl, rfl, g2, f3.trans g3⟩
 ·have hd : decide (x < 0) = false := by simp only [decide_eq_false_iff_not]; exact hn
  obtain ⟨n, rfl⟩ : ∃ n : Nat, x = n := ⟨x.toNat, by omega⟩
  have w1 := u64_wrap (n := (n : Int)) (by omega) (by omega)
  obtain ⟨_, _, ⟨t3, G, T3, rfl, rfl, g2, g3⟩, c98⟩ := (appendUint_rw (l := l) (n := n) (H := H) (by omega) (by omega) h).call rfl
  have e : l ++ numF n = l ++ digF 20 n := by
   unfold numF; rw [if_neg hn, Int.toNat_natCast]
  simp only [pf84, ↓wpre, wall, simprocAttr, hd, w1, c98, AQ_ret, AQ_normal, AQ_exit]
  rw [e]
  exact ⟨_, _, _, rfl, rfl, g2, g3⟩
theorem appendInt_rw {l : List UInt8} {x : Int} (hx : in64 x) (hl : l.length + 21 ≤ capB) {H : List AObj} {T : List Nat} {t : Tl} (h : App T (bytes l) t) :
  Rw 68 [.sl (bytes l) t, .int x, .int 10] ⟨H, T⟩ fun v s => ∃ t' G T', v = .sl (bytes (l ++ numF x)) t' ∧ s = ⟨H ++ G, T'⟩ ∧ App T' (bytes (l ++ numF x)) t' ∧ Oth T t T' t' := by
 refine rw_of pf68_is (Nat.le_of_ble_eq_true rfl) ?_
 obtain ⟨_, _, ⟨t3, G, T3, rfl, rfl, g2, g3⟩, c84⟩ := (appendInt0_rw (H := H) hx hl h).call rfl
 simp only [pf68, ↓wpre, wall, simprocAttr, c84, AQ_ret, AQ_normal, AQ_exit]
 exact ⟨_, _, _, rfl, rfl, g2, g3⟩
theorem add_sh {l : List UInt8} {x : Int} (hx : in64 x) (hl : l.length + 22 ≤ capB) {H : List AObj} {T : List Nat} {t : Tl} {p : Nat} (hp : H[p]? = some (.cells false [.sl (bytes l) t])) (h : App T (bytes l) t) :
  Sh md pfs 69 [.int x, .ptr p 0] ⟨H, T⟩ (fun v s => ∃ t' H' T', s = ⟨H', T'⟩ ∧ KeptX p H H' ∧ H'[p]? = some (.cells false [.sl (bytes (l ++ 32 :: numF x)) t']) ∧ App T' (bytes (l ++ 32 :: numF x)) t') fun _ _ => False := by
 refine sh_of pf69_is (Nat.le_of_ble_eq_true rfl) ?_
 obtain ⟨t2, T2, f1, f2, f3⟩ := app_many (es := 1) (xs := [.v (.int .u8 32)]) h (by rw [bytes_len]; simp; omega) (bytes_all l) rfl
 rw [bytes_32] at f1 f2
 obtain ⟨_, _, ⟨t3, G, T3, rfl, rfl, g2, g3⟩, c68⟩ := (appendInt_rw (l := l ++ [32]) (H := H) hx (by simp; omega) f2).call rfl
 have e : l ++ 32 :: numF x = l ++ [32] ++ numF x := by simp
 have hpl := lt_of_get hp
 have hp2 := app_get_of hp G
 simp only [pf69, ↓wpre, wall, simprocAttr, hp, hp2, srcA_sl, f1, c68]
 rw [e]
 refine ⟨_, _, _, rfl, ⟨by simp, fun k h1 h2 => ?_⟩, ?_, g2⟩
 ·rw [List.getElem?_set, if_neg (Ne.symm h2), List.getElem?_append_left h1]
 ·rw [List.getElem?_set, if_pos rfl, if_pos (by simp; omega)]
end Go.Proofs.Eng
