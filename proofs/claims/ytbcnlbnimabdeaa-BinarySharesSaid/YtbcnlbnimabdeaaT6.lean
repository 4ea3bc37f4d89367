/- Whether a term may be encoded: its nodes, its size, its depth. No conditions beyond those in the theorems. -/
import Derived.Test.YtbcnlbnimabdeaaT5
import Derived.Test.YtbcnlbnimabdeaaP7
set_option linter.all false
set_option linter.deprecated false
set_option linter.unnecessarySimpa false
set_option linter.unusedVariables false
set_option linter.unusedSimpArgs false
set_option linter.defProp false
namespace Go.Proofs.Eng
open Go Go.Proofs
set_option maxRecDepth 100000
set_option maxHeartbeats 8000000
mutual
/-- All nodes are right. -/
def Tm.allR : Tm → Bool
  | .mk k i n ls kids => (Tm.mk k i n ls kids).right && allRL kids
def allRL : List Tm → Bool
  | [] => true
  | t :: l => t.allR && allRL l
end
theorem allRL_iff : ∀ l : List Tm, allRL l = true ↔ ∀ t ∈ l, t.allR = true
  | [] => by simp [allRL]
  | t :: l => by simp [allRL, allRL_iff l]
theorem allR_bad {k i : Int} {n : ByteArray} {ls : List Lv} {kids : List Tm} {x : Tm} (hx : x ∈ kids) (h : x.allR = false) : AV.v (.bool false) = .bool (Tm.mk k i n ls kids).allR := by
  rw [Tm.allR]
  have : allRL kids = false := by
    cases ha : allRL kids with
    | false => rfl
    | true => have := (allRL_iff kids).1 ha x hx; rw [h] at this; cases this
  rw [this, Bool.and_false]
theorem allR_ok {k i : Int} {n : ByteArray} {ls : List Lv} {kids : List Tm} (hr : (Tm.mk k i n ls kids).right = true) (h : ∀ x ∈ kids, x.allR = true) : AV.v (.bool true) = .bool (Tm.mk k i n ls kids).allR := by
  rw [Tm.allR, hr, (allRL_iff kids).2 h]; rfl
theorem take_next {α : Type} {l : List α} {j : Nat} {x : α} {P : α → Prop} (d0 : l[j]? = some x) (h : ∀ y ∈ l.take j, P y) (hx : P x) : ∀ y ∈ l.take (j + 1), P y := fun y hy => by
  rw [List.take_add_one, d0] at hy
  simp only [Option.toList_some, List.mem_append, List.mem_singleton] at hy
  rcases hy with hy | rfl
  · exact h y hy
  · exact hx
theorem allRight_ret (e : Tm) : ∀ {a}, e.Is a → Out md pfs 53 [a] (· = .bool e.allR) fun _ => False := by
  induction e using Tm.ind with
  | h k i n ls kids ih =>
  intro a h
  obtain ⟨_, rfl, cr⟩ := (right_ret _ h).call rfl (by simp [pvs_cons, pvs_nil, tmPure _ h])
  obtain ⟨t1, t2, las, kas, rfl, g1, g2, g3, g4, g5, g6, g7, g8, g9⟩ := h.opn
  have hl2 := g9.len
  refine out_of pf53_is (Nat.le_of_ble_eq_true rfl) ?_
  cases hr : (Tm.mk k i n ls kids).right
  · simp only [pf53, ↓wpre, wset, wcore, ne_eq, if_true, if_false, exists_eq_left', true_implies, false_implies, exists_const, exists_eq_right, binA, intA, loadA, storeA, pickC, setAt, mapO, argsE, X.isC, resA, oneA, unA, boundA, eqiA, eqsA, fillA, fillE, ASt.fz, strA, Nat.reduceEqDiff, Nat.reduceLT, ↓reduceIte, reduceCtorEq, Nat.reduceAdd, Nat.reduceLeDiff, Int.reduceBEq, Int.reduceBNe, Int.reduceLT, Int.reduceLE, Int.reduceGT, Int.reduceGE, Nat.reduceDiv, Nat.reduceMul, Nat.reduceBEq, Nat.reduceMod, Nat.reduceSub, cr, hr]
    rw [Tm.allR, hr, Bool.false_and]
  simp only [pf53, ↓wpre, wset, wcore, ne_eq, if_true, if_false, exists_eq_left', true_implies, false_implies, exists_const, exists_eq_right, binA, intA, loadA, storeA, pickC, setAt, mapO, argsE, X.isC, resA, oneA, unA, boundA, eqiA, eqsA, fillA, fillE, ASt.fz, strA, Nat.reduceEqDiff, Nat.reduceLT, ↓reduceIte, reduceCtorEq, Nat.reduceAdd, Nat.reduceLeDiff, Int.reduceBEq, Int.reduceBNe, Int.reduceLT, Int.reduceLE, Int.reduceGT, Int.reduceGE, Nat.reduceDiv, Nat.reduceMul, Nat.reduceBEq, Nat.reduceMod, Nat.reduceSub, cr, hr]
  refine W_loopE (fun j => kas.length - j) (fun j E H T => (∃ G, H = .cells false [.int k, .int i, .str n, .sl las t1, .sl kas t2] :: G) ∧ E 1 = .ptr 0 0 ∧ E 9 = .sl kas t2 ∧ E 10 = .int kas.length ∧ E 11 = .int (j : Nat) ∧ j ≤ kas.length ∧ ∀ x ∈ kids.take j, x.allR = true) ?_ 0 ⟨⟨[], rfl⟩, rfl, rfl, rfl, rfl, Nat.zero_le _, by simp⟩
  rintro j E H T ⟨⟨G, rfl⟩, e1, e9, e10, e11, hj, hgood⟩
  rcases Nat.lt_or_ge j kas.length with hlt | hge
  · have hdec : decide ((j : Int) < kas.length) = true := by simpa using hlt
    obtain ⟨x, c, d0, d1, d3, d4, d5, d6, d7, d8⟩ := g9.get tmAgg hlt
    obtain ⟨_, rfl, cv⟩ := (ih x d3 d8).call rfl (by simp [pvs_cons, pvs_nil, tmPure _ d8])
    have hall := g9.all tmAgg
    cases hv : x.allR
    · simp only [↓wpre, wset, wcore, ne_eq, if_true, if_false, exists_eq_left', true_implies, false_implies, exists_const, exists_eq_right, binA, intA, loadA, storeA, pickC, setAt, mapO, argsE, X.isC, resA, oneA, unA, boundA, eqiA, eqsA, fillA, fillE, ASt.fz, strA, Nat.reduceEqDiff, Nat.reduceLT, ↓reduceIte, reduceCtorEq, Nat.reduceAdd, Nat.reduceLeDiff, Int.reduceBEq, Int.reduceBNe, Int.reduceLT, Int.reduceLE, Int.reduceGT, Int.reduceGE, Nat.reduceDiv, Nat.reduceMul, Nat.reduceBEq, Nat.reduceMod, Nat.reduceSub, List.length_append, List.append_assoc, app_get_len, app_get_add, app_set_len, app_set_add, e1, e9, e10, e11, hdec, d4, d5, d6, d7, hall, cv, hv]
      exact allR_bad d3 hv
    · simp only [↓wpre, wset, wcore, ne_eq, if_true, if_false, exists_eq_left', true_implies, false_implies, exists_const, exists_eq_right, binA, intA, loadA, storeA, pickC, setAt, mapO, argsE, X.isC, resA, oneA, unA, boundA, eqiA, eqsA, fillA, fillE, ASt.fz, strA, Nat.reduceEqDiff, Nat.reduceLT, ↓reduceIte, reduceCtorEq, Nat.reduceAdd, Nat.reduceLeDiff, Int.reduceBEq, Int.reduceBNe, Int.reduceLT, Int.reduceLE, Int.reduceGT, Int.reduceGE, Nat.reduceDiv, Nat.reduceMul, Nat.reduceBEq, Nat.reduceMod, Nat.reduceSub, List.length_append, List.append_assoc, app_get_len, app_get_add, app_set_len, app_set_add, e1, e9, e10, e11, hdec, d4, d5, d6, d7, hall, cv, hv]
      exact EQ_in ⟨j + 1, by omega, ⟨_, rfl⟩, e1, e9, e10, next_ixv (by unfold lenB at *; omega), by omega, take_next d0 hgood hv⟩
  · have hdec : decide ((j : Int) < kas.length) = false := by simpa using hge
    simp only [↓wpre, wset, wcore, ne_eq, if_true, if_false, exists_eq_left', true_implies, false_implies, exists_const, exists_eq_right, binA, intA, loadA, storeA, pickC, setAt, mapO, argsE, X.isC, resA, oneA, unA, boundA, eqiA, eqsA, fillA, fillE, ASt.fz, strA, Nat.reduceEqDiff, Nat.reduceLT, ↓reduceIte, reduceCtorEq, Nat.reduceAdd, Nat.reduceLeDiff, Int.reduceBEq, Int.reduceBNe, Int.reduceLT, Int.reduceLE, Int.reduceGT, Int.reduceGE, Nat.reduceDiv, Nat.reduceMul, Nat.reduceBEq, Nat.reduceMod, Nat.reduceSub, List.length_append, List.append_assoc, app_get_len, app_get_add, app_set_len, app_set_add, e1, e9, e10, e11, hdec]
    rw [List.take_of_length_le (by omega)] at hgood
    exact allR_ok hr hgood
theorem tsz_split : ∀ {l : List Tm} {j : Nat} {x : Tm}, l[j]? = some x → tszL (l.take (j + 1)) = tszL (l.take j) + x.sz ∧ tszL (l.take j) + x.sz ≤ tszL l
  | [], _, _, h => by simp at h
  | y :: l, 0, x, h => by simp at h; subst h; simp [tszL]
  | y :: l, j + 1, x, h => by
    have := tsz_split (l := l) (j := j) (by simpa using h)
    simp only [List.take_succ_cons, tszL]; omega
theorem tdp_split : ∀ {l : List Tm} {j : Nat} {x : Tm}, l[j]? = some x → tdpL (l.take (j + 1)) = max (tdpL (l.take j)) x.dp ∧ x.dp ≤ tdpL l
  | [], _, _, h => by simp at h
  | y :: l, 0, x, h => by simp at h; subst h; simp [tdpL]; omega
  | y :: l, j + 1, x, h => by
    have := tdp_split (l := l) (j := j) (by simpa using h)
    simp only [List.take_succ_cons, tdpL]; omega
theorem i_max (a b : Nat) : (if (b : Int) > (a : Int) then (b : Int) else (a : Int)) = ((max a b : Nat) : Int) := by
  by_cases h : (b : Int) > (a : Int)
  · rw [if_pos h]; omega
  · rw [if_neg h]; omega
theorem measure_ret (e : Tm) : ∀ {a} {nodes depth : Int}, e.Is a → (e.sz : Int) ≤ nodes → nodes ≤ 4611686018427387904 → (e.dp : Int) ≤ depth + 1 → depth ≤ 4611686018427387904 → Out md pfs 52 [a, .int nodes, .int depth] (· = .tup [.int (e.sz : Nat), .int (e.dp : Nat)]) fun _ => False := by
  induction e using Tm.ind with
  | h k i n ls kids ih =>
  intro a nodes depth h hs hn hd hd2
  obtain ⟨t1, t2, las, kas, rfl, g1, g2, g3, g4, g5, g6, g7, g8, g9⟩ := h.opn
  have hl2 := g9.len
  rw [Tm.sz] at hs
  rw [Tm.dp] at hd
  refine out_of pf52_is (Nat.le_of_ble_eq_true rfl) ?_
  simp only [pf52, ↓wpre, wset, wcore, ne_eq, if_true, if_false, exists_eq_left', true_implies, false_implies, exists_const, exists_eq_right, binA, intA, loadA, storeA, pickC, setAt, mapO, argsE, X.isC, resA, oneA, unA, boundA, eqiA, eqsA, fillA, fillE, ASt.fz, strA, Nat.reduceEqDiff, Nat.reduceLT, ↓reduceIte, reduceCtorEq, Nat.reduceAdd, Nat.reduceLeDiff, Int.reduceBEq, Int.reduceBNe, Int.reduceLT, Int.reduceLE, Int.reduceGT, Int.reduceGE, Nat.reduceDiv, Nat.reduceMul, Nat.reduceBEq, Nat.reduceMod, Nat.reduceSub]
  refine W_loopE (fun j => kas.length - j) (fun j E H T => (∃ G, H = .cells false [.int k, .int i, .str n, .sl las t1, .sl kas t2] :: G) ∧ E 1 = .int nodes ∧ E 2 = .int depth ∧ E 3 = .ptr 0 0 ∧ E 15 = .sl kas t2 ∧ E 16 = .int kas.length ∧ E 17 = .int (j : Nat) ∧ j ≤ kas.length ∧ E 8 = .int ((1 + tszL (kids.take j) : Nat) : Int) ∧ E 9 = .int ((tdpL (kids.take j) : Nat) : Int)) ?_ 0 ⟨⟨[], rfl⟩, rfl, rfl, rfl, rfl, rfl, rfl, Nat.zero_le _, rfl, rfl⟩
  rintro j E H T ⟨⟨G, rfl⟩, e1, e2, e3, e15, e16, e17, hj, e8, e9⟩
  rcases Nat.lt_or_ge j kas.length with hlt | hge
  · have hdec : decide ((j : Int) < kas.length) = true := by simpa using hlt
    obtain ⟨x, c, d0, d1, d3, d4, d5, d6, d7, d8⟩ := g9.get tmAgg hlt
    obtain ⟨s1, s2⟩ := tsz_split d0
    obtain ⟨p1, p2⟩ := tdp_split d0
    have hall := g9.all tmAgg
    have hxd : 1 ≤ x.dp := by cases x; rw [Tm.dp]; omega
    have b1 : decide (((1 + tszL (kids.take j) : Nat) : Int) > nodes) = false := by simp only [decide_eq_false_iff_not]; omega
    have b2 : decide (depth < 0) = false := by simp only [decide_eq_false_iff_not]; omega
    have w1 : IntKind.i64.wrap (nodes - ((1 + tszL (kids.take j) : Nat) : Int)) = nodes - ((1 + tszL (kids.take j) : Nat) : Int) := wrap_in (by unfold in64; omega)
    have w2 : IntKind.i64.wrap (depth - 1) = depth - 1 := wrap_in (by unfold in64; omega)
    obtain ⟨_, rfl, cv⟩ := (ih x d3 (nodes := nodes - ((1 + tszL (kids.take j) : Nat) : Int)) (depth := depth - 1) d8 (by omega) (by omega) (by omega) (by omega)).call rfl (by simp [pvs_cons, pvs_nil, pv_v, tmPure _ d8])
    have w3 : IntKind.i64.wrap (((1 + tszL (kids.take j) : Nat) : Int) + (x.sz : Int)) = ((1 + tszL (kids.take (j + 1)) : Nat) : Int) := by rw [s1, wrap_in (by unfold in64; omega)]; omega
    have w4 := i_max (tdpL (kids.take j)) x.dp
    rw [← p1] at w4
    simp only [↓wpre, wset, wcore, ne_eq, if_true, if_false, exists_eq_left', true_implies, false_implies, exists_const, exists_eq_right, binA, intA, loadA, storeA, pickC, setAt, mapO, argsE, X.isC, resA, oneA, unA, boundA, eqiA, eqsA, fillA, fillE, ASt.fz, strA, Nat.reduceEqDiff, Nat.reduceLT, ↓reduceIte, reduceCtorEq, Nat.reduceAdd, Nat.reduceLeDiff, Int.reduceBEq, Int.reduceBNe, Int.reduceLT, Int.reduceLE, Int.reduceGT, Int.reduceGE, Nat.reduceDiv, Nat.reduceMul, Nat.reduceBEq, Nat.reduceMod, Nat.reduceSub, List.length_append, List.append_assoc, app_get_len, app_get_add, app_set_len, app_set_add, e1, e2, e3, e15, e16, e17, e8, e9, hdec, d4, d5, d6, d7, hall, b1, b2, w1, w2, cv, w3, w4]
    exact EQ_in ⟨j + 1, by omega, ⟨_, rfl⟩, e1, e2, e3, e15, e16, next_ixv (by unfold lenB at *; omega), by omega, rfl, rfl⟩
  · have hdec : decide ((j : Int) < kas.length) = false := by simpa using hge
    rw [List.take_of_length_le (by omega)] at e8 e9
    have w1 : IntKind.i64.wrap ((tdpL kids : Int) + 1) = ((tdpL kids + 1 : Nat) : Int) := by rw [wrap_in (by unfold in64; omega)]; omega
    simp only [↓wpre, wset, wcore, ne_eq, if_true, if_false, exists_eq_left', true_implies, false_implies, exists_const, exists_eq_right, binA, intA, loadA, storeA, pickC, setAt, mapO, argsE, X.isC, resA, oneA, unA, boundA, eqiA, eqsA, fillA, fillE, ASt.fz, strA, Nat.reduceEqDiff, Nat.reduceLT, ↓reduceIte, reduceCtorEq, Nat.reduceAdd, Nat.reduceLeDiff, Int.reduceBEq, Int.reduceBNe, Int.reduceLT, Int.reduceLE, Int.reduceGT, Int.reduceGE, Nat.reduceDiv, Nat.reduceMul, Nat.reduceBEq, Nat.reduceMod, Nat.reduceSub, List.length_append, List.append_assoc, app_get_len, app_get_add, app_set_len, app_set_add, e1, e2, e3, e15, e16, e17, e8, e9, hdec, w1]
    rw [Tm.sz, Tm.dp]
def encErr (e : Tm) : Int := if e.allR = true then 0 else 3
theorem encodable_ret {e : Tm} {a : AV} (h : e.Is a) (hs : e.sz ≤ 4096) (hd : e.dp ≤ 200) : Out md pfs 36 [a] (· = .int (encErr e)) fun _ => False := by
  have hp := tmPure _ h
  obtain ⟨_, rfl, c1⟩ := (measure_ret e (nodes := 4096) (depth := 1073741824) h (by omega) (by omega) (by omega) (by omega)).call rfl (by simp [pvs_cons, pvs_nil, pv_v, hp])
  obtain ⟨_, rfl, c2⟩ := (allRight_ret e h).call rfl (by simp [pvs_cons, pvs_nil, hp])
  obtain ⟨c, rfl, l1, l2, l3⟩ := tmCells h
  have b1 : decide ((e.sz : Int) > 4096) = false := by simp only [decide_eq_false_iff_not]; omega
  have b2 : decide ((e.dp : Int) > 200) = false := by simp only [decide_eq_false_iff_not]; omega
  refine out_of pf36_is (Nat.le_of_ble_eq_true rfl) ?_
  cases hr : e.allR
  all_goals
    simp only [pf36, ↓wpre, wset, wcore, ne_eq, if_true, if_false, exists_eq_left', true_implies, false_implies, exists_const, exists_eq_right, binA, intA, loadA, storeA, pickC, setAt, mapO, argsE, X.isC, resA, oneA, unA, boundA, eqiA, eqsA, fillA, fillE, ASt.fz, strA, Nat.reduceEqDiff, Nat.reduceLT, ↓reduceIte, reduceCtorEq, Nat.reduceAdd, Nat.reduceLeDiff, Int.reduceBEq, Int.reduceBNe, Int.reduceLT, Int.reduceLE, Int.reduceGT, Int.reduceGE, Nat.reduceDiv, Nat.reduceMul, Nat.reduceBEq, Nat.reduceMod, Nat.reduceSub, l1, l2, c1, c2, b1, b2, hr]
    simp [encErr, hr]
end Go.Proofs.Eng
