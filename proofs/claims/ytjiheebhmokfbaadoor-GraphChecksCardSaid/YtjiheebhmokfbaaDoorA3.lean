/- The text that tells nodes apart. No conditions beyond those in the theorems. -/
import Derived.Test.YtjiheebhmokfbaaDoorP7
import Derived.Test.YtjiheebhmokfbaaDoorP6
set_option linter.all false
set_option linter.deprecated false
set_option linter.unnecessarySimpa false
set_option linter.unusedVariables false
set_option linter.unusedSimpArgs false
set_option linter.defProp false
namespace Go.Proofs.Eng
open Go Go.Proofs
set_option maxRecDepth 100000
set_option maxHeartbeats 8000000
mutual
def Tm.allR : Tm → Bool
  | .mk k i n ls kids => (Tm.mk k i n ls kids).right && allRL kids
def allRL : List Tm → Bool
  | [] => true
  | t :: l => t.allR && allRL l
end
theorem allRL_iff : ∀ l : List Tm, allRL l = true ↔ ∀ t ∈ l, t.allR = true
  | [] => by simp [allRL]
  | t :: l => by simp [allRL, allRL_iff l]
theorem allR_bad {k i : Int} {n : ByteArray} {ls : List Lv} {kids : List Tm} {x : Tm} (hx : x ∈ kids) (h : x.allR = false) : AV.v (.bool false) = .bool (Tm.mk k i n ls kids).allR := by
  rw [Tm.allR]
  have : allRL kids = false := by
    cases ha : allRL kids with
    | false => rfl
    | true => have := (allRL_iff kids).1 ha x hx; rw [h] at this; cases this
  rw [this, Bool.and_false]
theorem allR_ok {k i : Int} {n : ByteArray} {ls : List Lv} {kids : List Tm} (hr : (Tm.mk k i n ls kids).right = true) (h : ∀ x ∈ kids, x.allR = true) : AV.v (.bool true) = .bool (Tm.mk k i n ls kids).allR := by
  rw [Tm.allR, hr, (allRL_iff kids).2 h]; rfl
theorem take_next {α : Type} {l : List α} {j : Nat} {x : α} {P : α → Prop} (d0 : l[j]? = some x) (h : ∀ y ∈ l.take j, P y) (hx : P x) : ∀ y ∈ l.take (j + 1), P y := fun y hy => by
  rw [List.take_add_one, d0] at hy
  simp only [Option.toList_some, List.mem_append, List.mem_singleton] at hy
  rcases hy with hy | rfl
  · exact h y hy
  · exact hx
theorem nodes_ret (e : Tm) : ∀ {a}, e.Is a → Out md pfs 58 [a] (· = .bool e.allR) fun _ => False := by
  induction e using Tm.ind with
  | h k i n ls kids ih =>
  intro a h
  obtain ⟨_, rfl, cr⟩ := (node_ret _ h).call rfl (by simp [pvs_cons, pvs_nil, tmPure _ h])
  obtain ⟨t1, t2, las, kas, rfl, g1, g2, g3, g4, g5, g6, g7, g8, g9⟩ := h.opn
  have hl2 := g9.len
  refine out_of pf58_is (Nat.le_of_ble_eq_true rfl) ?_
  cases hr : (Tm.mk k i n ls kids).right
  · simp only [pf58, ↓wpre, wset, wcore, wext, ne_eq, if_true, if_false, exists_eq_left', true_implies, false_implies, exists_const, exists_eq_right, binA, intA, loadA, storeA, pickC, setAt, mapO, argsE, X.isC, resA, oneA, unA, boundA, eqiA, eqsA, fillA, fillE, ASt.fz, strA, simprocAttr, cr, hr]
    rw [Tm.allR, hr, Bool.false_and]
  simp only [pf58, ↓wpre, wset, wcore, wext, ne_eq, if_true, if_false, exists_eq_left', true_implies, false_implies, exists_const, exists_eq_right, binA, intA, loadA, storeA, pickC, setAt, mapO, argsE, X.isC, resA, oneA, unA, boundA, eqiA, eqsA, fillA, fillE, ASt.fz, strA, simprocAttr, cr, hr]
  refine W_loopE (fun j => kas.length - j) (fun j E H T => H = [.cells false [.int k, .int i, .str n, .sl las t1, .sl kas t2]] ∧ E 1 = .ptr 0 0 ∧ E 3 = .int (j : Nat) ∧ j ≤ kas.length ∧ ∀ x ∈ kids.take j, x.allR = true) ?_ 0 ⟨rfl, rfl, rfl, Nat.zero_le _, by simp⟩
  rintro j E H T ⟨rfl, e1, e3, hj, hgood⟩
  rcases Nat.lt_or_ge j kas.length with hlt | hge
  · have hdec : decide ((j : Int) < kas.length) = true := by simpa using hlt
    obtain ⟨x, c, d0, d1, d3, d4, d5, d6, d7, d8⟩ := g9.get tmAgg hlt
    obtain ⟨_, rfl, cv⟩ := (ih x d3 d8).call rfl (by simp [pvs_cons, pvs_nil, tmPure _ d8])
    have hall := g9.all tmAgg
    cases hv : x.allR
    · simp only [↓wpre, wset, wcore, wext, ne_eq, if_true, if_false, exists_eq_left', true_implies, false_implies, exists_const, exists_eq_right, binA, intA, loadA, storeA, pickC, setAt, mapO, argsE, X.isC, resA, oneA, unA, boundA, eqiA, eqsA, fillA, fillE, ASt.fz, strA, simprocAttr, e1, e3, hdec, d4, d5, d6, d7, hall, cv, hv]
      exact allR_bad d3 hv
    · simp only [↓wpre, wset, wcore, wext, ne_eq, if_true, if_false, exists_eq_left', true_implies, false_implies, exists_const, exists_eq_right, binA, intA, loadA, storeA, pickC, setAt, mapO, argsE, X.isC, resA, oneA, unA, boundA, eqiA, eqsA, fillA, fillE, ASt.fz, strA, simprocAttr, e1, e3, hdec, d4, d5, d6, d7, hall, cv, hv]
      exact EQ_in ⟨j + 1, by omega, rfl, e1, next_ixv (by unfold lenB at *; omega), by omega, take_next d0 hgood hv⟩
  · have hdec : decide ((j : Int) < kas.length) = false := by simpa using hge
    simp only [↓wpre, wset, wcore, wext, ne_eq, if_true, if_false, exists_eq_left', true_implies, false_implies, exists_const, exists_eq_right, binA, intA, loadA, storeA, pickC, setAt, mapO, argsE, X.isC, resA, oneA, unA, boundA, eqiA, eqsA, fillA, fillE, ASt.fz, strA, simprocAttr, e1, e3, hdec]
    rw [List.take_of_length_le (by omega)] at hgood
    exact allR_ok hr hgood
theorem tsz_split : ∀ {l : List Tm} {j : Nat} {x : Tm}, l[j]? = some x → tszL (l.take (j + 1)) = tszL (l.take j) + x.sz ∧ tszL (l.take j) + x.sz ≤ tszL l
  | [], _, _, h => by simp at h
  | y :: l, 0, x, h => by simp at h; subst h; simp [tszL]
  | y :: l, j + 1, x, h => by
    have := tsz_split (l := l) (j := j) (by simpa using h)
    simp only [List.take_succ_cons, tszL]; omega
theorem tdp_split : ∀ {l : List Tm} {j : Nat} {x : Tm}, l[j]? = some x → tdpL (l.take (j + 1)) = max (tdpL (l.take j)) x.dp ∧ x.dp ≤ tdpL l
  | [], _, _, h => by simp at h
  | y :: l, 0, x, h => by simp at h; subst h; simp [tdpL]; omega
  | y :: l, j + 1, x, h => by
    have := tdp_split (l := l) (j := j) (by simpa using h)
    simp only [List.take_succ_cons, tdpL]; omega
theorem i_max (a b : Nat) : (if (b : Int) > (a : Int) then (b : Int) else (a : Int)) = ((max a b : Nat) : Int) := by
  by_cases h : (b : Int) > (a : Int)
  · rw [if_pos h]; omega
  · rw [if_neg h]; omega
theorem rsize_ret (e : Tm) : ∀ {a} {lim : Int}, e.Is a → (e.sz : Int) ≤ lim → lim ≤ 4611686018427387904 → Out md pfs 56 [a, .int lim] (· = .int (e.sz : Nat)) fun _ => False := by
  induction e using Tm.ind with
  | h k i n ls kids ih =>
  intro a lim h hs hn
  obtain ⟨t1, t2, las, kas, rfl, g1, g2, g3, g4, g5, g6, g7, g8, g9⟩ := h.opn
  have hl2 := g9.len
  rw [Tm.sz] at hs
  refine out_of pf56_is (Nat.le_of_ble_eq_true rfl) ?_
  simp only [pf56, ↓wpre, wset, wcore, wext, ne_eq, if_true, if_false, exists_eq_left', true_implies, false_implies, exists_const, exists_eq_right, binA, intA, loadA, storeA, pickC, setAt, mapO, argsE, X.isC, resA, oneA, unA, boundA, eqiA, eqsA, fillA, fillE, ASt.fz, strA, simprocAttr]
  refine W_loopE (fun j => kas.length - j) (fun j E H T => H = [.cells false [.int k, .int i, .str n, .sl las t1, .sl kas t2]] ∧ E 1 = .int lim ∧ E 2 = .ptr 0 0 ∧ E 6 = .int (j : Nat) ∧ j ≤ kas.length ∧ E 5 = .int ((1 + tszL (kids.take j) : Nat) : Int)) ?_ 0 ⟨rfl, rfl, rfl, rfl, Nat.zero_le _, rfl⟩
  rintro j E H T ⟨rfl, e1, e2, e6, hj, e5⟩
  rcases Nat.lt_or_ge j kas.length with hlt | hge
  · have hdec : decide ((j : Int) < kas.length) = true := by simpa using hlt
    obtain ⟨x, c, d0, d1, d3, d4, d5, d6, d7, d8⟩ := g9.get tmAgg hlt
    obtain ⟨s1, s2⟩ := tsz_split d0
    have hall := g9.all tmAgg
    have b1 : decide (((1 + tszL (kids.take j) : Nat) : Int) ≤ lim) = true := by simp only [decide_eq_true_eq]; omega
    obtain ⟨_, rfl, cv⟩ := (ih x d3 (lim := lim) d8 (by omega) hn).call rfl (by simp [pvs_cons, pvs_nil, pv_v, tmPure _ d8])
    have w3 : IntKind.i64.wrap (((1 + tszL (kids.take j) : Nat) : Int) + (x.sz : Int)) = ((1 + tszL (kids.take (j + 1)) : Nat) : Int) := by rw [s1, wrap_in (by unfold in64; omega)]; omega
    simp only [↓wpre, wset, wcore, wext, ne_eq, if_true, if_false, exists_eq_left', true_implies, false_implies, exists_const, exists_eq_right, binA, intA, loadA, storeA, pickC, setAt, mapO, argsE, X.isC, resA, oneA, unA, boundA, eqiA, eqsA, fillA, fillE, ASt.fz, strA, simprocAttr, e1, e2, e5, e6, hdec, d4, d5, d6, d7, hall, b1, cv, w3]
    exact EQ_in ⟨j + 1, by omega, rfl, e1, e2, next_ixv (by unfold lenB at *; omega), by omega, rfl⟩
  · have hdec : decide ((j : Int) < kas.length) = false := by simpa using hge
    rw [List.take_of_length_le (by omega)] at e5
    simp only [↓wpre, wset, wcore, wext, ne_eq, if_true, if_false, exists_eq_left', true_implies, false_implies, exists_const, exists_eq_right, binA, intA, loadA, storeA, pickC, setAt, mapO, argsE, X.isC, resA, oneA, unA, boundA, eqiA, eqsA, fillA, fillE, ASt.fz, strA, simprocAttr, e1, e2, e5, e6, hdec]
    rw [Tm.sz]
theorem rdepth_ret (e : Tm) : ∀ {a} {lim : Int}, e.Is a → (e.dp : Int) ≤ lim + 1 → lim ≤ 4611686018427387904 → Out md pfs 57 [a, .int lim] (· = .int (e.dp : Nat)) fun _ => False := by
  induction e using Tm.ind with
  | h k i n ls kids ih =>
  intro a lim h hs hn
  obtain ⟨t1, t2, las, kas, rfl, g1, g2, g3, g4, g5, g6, g7, g8, g9⟩ := h.opn
  have hl2 := g9.len
  rw [Tm.dp] at hs
  have b0 : decide (lim < 0) = false := by simp only [decide_eq_false_iff_not]; omega
  refine out_of pf57_is (Nat.le_of_ble_eq_true rfl) ?_
  simp only [pf57, ↓wpre, wset, wcore, wext, ne_eq, if_true, if_false, exists_eq_left', true_implies, false_implies, exists_const, exists_eq_right, binA, intA, loadA, storeA, pickC, setAt, mapO, argsE, X.isC, resA, oneA, unA, boundA, eqiA, eqsA, fillA, fillE, ASt.fz, strA, simprocAttr, b0]
  refine W_loopE (fun j => kas.length - j) (fun j E H T => H = [.cells false [.int k, .int i, .str n, .sl las t1, .sl kas t2]] ∧ E 1 = .int lim ∧ E 2 = .ptr 0 0 ∧ E 6 = .int (j : Nat) ∧ j ≤ kas.length ∧ E 5 = .int ((tdpL (kids.take j) : Nat) : Int)) ?_ 0 ⟨rfl, rfl, rfl, rfl, Nat.zero_le _, rfl⟩
  rintro j E H T ⟨rfl, e1, e2, e6, hj, e5⟩
  rcases Nat.lt_or_ge j kas.length with hlt | hge
  · have hdec : decide ((j : Int) < kas.length) = true := by simpa using hlt
    obtain ⟨x, c, d0, d1, d3, d4, d5, d6, d7, d8⟩ := g9.get tmAgg hlt
    obtain ⟨p1, p2⟩ := tdp_split d0
    have hall := g9.all tmAgg
    have hxd : 1 ≤ x.dp := by cases x; rw [Tm.dp]; omega
    have w2 : IntKind.i64.wrap (lim - 1) = lim - 1 := wrap_in (by unfold in64; omega)
    obtain ⟨_, rfl, cv⟩ := (ih x d3 (lim := lim - 1) d8 (by omega) (by omega)).call rfl (by simp [pvs_cons, pvs_nil, pv_v, tmPure _ d8])
    have w4 := i_max (tdpL (kids.take j)) x.dp
    rw [← p1] at w4
    simp only [↓wpre, wset, wcore, wext, ne_eq, if_true, if_false, exists_eq_left', true_implies, false_implies, exists_const, exists_eq_right, binA, intA, loadA, storeA, pickC, setAt, mapO, argsE, X.isC, resA, oneA, unA, boundA, eqiA, eqsA, fillA, fillE, ASt.fz, strA, simprocAttr, e1, e2, e5, e6, hdec, d4, d5, d6, d7, hall, w2, cv, w4]
    exact EQ_in ⟨j + 1, by omega, rfl, e1, e2, next_ixv (by unfold lenB at *; omega), by omega, rfl⟩
  · have hdec : decide ((j : Int) < kas.length) = false := by simpa using hge
    rw [List.take_of_length_le (by omega)] at e5
    have w1 : IntKind.i64.wrap ((tdpL kids : Int) + 1) = ((tdpL kids + 1 : Nat) : Int) := by rw [wrap_in (by unfold in64; omega)]; omega
    simp only [↓wpre, wset, wcore, wext, ne_eq, if_true, if_false, exists_eq_left', true_implies, false_implies, exists_const, exists_eq_right, binA, intA, loadA, storeA, pickC, setAt, mapO, argsE, X.isC, resA, oneA, unA, boundA, eqiA, eqsA, fillA, fillE, ASt.fz, strA, simprocAttr, e1, e2, e5, e6, hdec, w1]
    rw [Tm.dp]
def encErr (e : Tm) : Int := if e.allR = true then 0 else 3
theorem rEncodable_ret {e : Tm} {a : AV} (h : e.Is a) (hs : e.sz ≤ 4096) (hd : e.dp ≤ 200) : Out md pfs 27 [a] (· = .int (encErr e)) fun _ => False := by
  have hp := tmPure _ h
  obtain ⟨_, rfl, c1⟩ := (rsize_ret e (lim := 4096) h (by omega) (by omega)).call rfl (by simp [pvs_cons, pvs_nil, pv_v, hp])
  obtain ⟨_, rfl, c3⟩ := (rdepth_ret e (lim := 202) h (by omega) (by omega)).call rfl (by simp [pvs_cons, pvs_nil, pv_v, hp])
  obtain ⟨_, rfl, c2⟩ := (nodes_ret e h).call rfl (by simp [pvs_cons, pvs_nil, hp])
  obtain ⟨c, rfl, l1, l2, l3⟩ := tmCells h
  have b1 : decide ((e.sz : Int) > 4096) = false := by simp only [decide_eq_false_iff_not]; omega
  have b2 : decide ((e.dp : Int) > 200) = false := by simp only [decide_eq_false_iff_not]; omega
  refine out_of pf27_is (Nat.le_of_ble_eq_true rfl) ?_
  cases hr : e.allR
  all_goals
    simp only [pf27, ↓wpre, wset, wcore, wext, ne_eq, if_true, if_false, exists_eq_left', true_implies, false_implies, exists_const, exists_eq_right, binA, intA, loadA, storeA, pickC, setAt, mapO, argsE, X.isC, resA, oneA, unA, boundA, eqiA, eqsA, fillA, fillE, ASt.fz, strA, simprocAttr, l1, l2, c1, c2, c3, b1, b2, hr]
    simp [encErr, hr]
def strOf (l : List UInt8) : ByteArray := ⟨l.toArray⟩
theorem strOf_size (l : List UInt8) : (strOf l).size = l.length := by simp [strOf, ByteArray.size]
theorem strOf_app (a b : List UInt8) : strOf a ++ strOf b = strOf (a ++ b) := by
  apply ByteArray.ext
  simp [strOf]
theorem strOf_toList (l : List UInt8) : (strOf l).toList = l := by rw [ByteArray.toList_eq]; simp [strOf]
theorem strOf_inj {a b : List UInt8} (h : strOf a = strOf b) : a = b := by rw [← strOf_toList a, h, strOf_toList]
theorem of_str (s : ByteArray) : strOf s.toList = s := by apply ByteArray.ext; rw [ByteArray.toList_eq]; simp [strOf]
set_option maxHeartbeats 16000000
def sml1 : ByteArray := ByteArray.mk #[48,49,50,51,52,53,54,55,56,57,97,98,99,100,101,102,103,104,105,106,107,108,109,110,111,112,113,114,115,116,117,118,119,120,121,122]
def sml2 : ByteArray := ByteArray.mk #[48,48,48,49,48,50,48,51,48,52,48,53,48,54,48,55,48,56,48,57,49,48,49,49,49,50,49,51,49,52,49,53,49,54,49,55,49,56,49,57,
 50,48,50,49,50,50,50,51,50,52,50,53,50,54,50,55,50,56,50,57,51,48,51,49,51,50,51,51,51,52,51,53,51,54,51,55,51,56,51,57,
 52,48,52,49,52,50,52,51,52,52,52,53,52,54,52,55,52,56,52,57,53,48,53,49,53,50,53,51,53,52,53,53,53,54,53,55,53,56,53,57,
 54,48,54,49,54,50,54,51,54,52,54,53,54,54,54,55,54,56,54,57,55,48,55,49,55,50,55,51,55,52,55,53,55,54,55,55,55,56,55,57,
 56,48,56,49,56,50,56,51,56,52,56,53,56,54,56,55,56,56,56,57,57,48,57,49,57,50,57,51,57,52,57,53,57,54,57,55,57,56,57,57]
def pf102b : PF := ⟨15,[.t 2],.seq (.reg [⟨some 2,none,.mov (.c (.v (.string (ByteArray.mk #[])))),0,[]⟩]) (.seq (.seq (.reg [⟨some 3,none,.mov (.t 0),0,[]⟩,⟨some 4,none,
 .bin .lss (.t 3) (.c (.v (.int .i64 10))),0,[]⟩]) (.cond (.t 4) (.seq (.reg [⟨some 5,none,.mov (.t 0),0,[]⟩,⟨some 6,none,.mov (.t 0),0,[]⟩,⟨some 7,none,.bin .add (.t 6)
  (.c (.v (.int .i64 1))),0,[]⟩,⟨some 8,none,.strsl (.c (.v (.string sml1))) (some (.t 5)) (some (.t 7)),0,[]⟩,⟨some 2,none,.mov (.t 8),0,[]⟩]) .ret) .skip))
  (.seq (.reg [⟨some 9,none,.mov (.t 0),0,[]⟩,⟨some 10,none,.bin .mul (.t 9) (.c (.v (.int .i64 2))),0,[]⟩,⟨some 11,none,.mov (.t 0),0,[]⟩,⟨some 12,none,.bin .mul (.t 11)
  (.c (.v (.int .i64 2))),0,[]⟩,⟨some 13,none,.bin .add (.t 12) (.c (.v (.int .i64 2))),0,[]⟩,⟨some 14,none,.strsl (.c (.v (.string sml2))) (some (.t 10)) (some (.t 13)),
 0,[]⟩,⟨some 2,none,.mov (.t 14),0,[]⟩]) .ret))⟩
theorem pf102b_is : pfs 102 = some pf102b := pf102_is.trans rfl
theorem sm_a : sml1.size = 36 ∧ ∀ u : Fin 10, sml1.extract u.val (u.val + 1) = strOf (digF 20 u.val) := by decide
theorem sm_b : sml2.size = 200 ∧ ∀ u : Fin 100, 10 ≤ u.val → sml2.extract (u.val * 2) (u.val * 2 + 2) = strOf (digF 20 u.val) := by decide
theorem small_ret {u : Nat} (h : u < 100) : Out md pfs 102 [.int u] (· = .str (strOf (digF 20 u))) fun _ => False := by
  refine out_of pf102b_is (Nat.le_of_ble_eq_true rfl) ?_
  obtain ⟨z1, s1⟩ := sm_a
  obtain ⟨z2, s2⟩ := sm_b
  rcases Nat.lt_or_ge u 10 with hlt | hge
  · have hd : decide ((u : Int) < 10) = true := by simp only [decide_eq_true_eq]; omega
    have w1 : IntKind.i64.wrap ((u : Int) + 1) = ((u + 1 : Nat) : Int) := next_ix (by unfold lenB; omega)
    have b1 : ((u : Int) ≤ 36) = True := eq_true (by omega)
    have b2 : (((u + 1 : Nat) : Int) ≤ 36) = True := eq_true (by omega)
    have b3 : (u ≤ u + 1) = True := eq_true (by omega)
    have h1 := s1 ⟨u, hlt⟩
    simp only at h1
    simp only [pf102b, ↓wpre, wset, wcore, wext, ne_eq, if_true, if_false, exists_eq_left', true_implies, false_implies, exists_const, exists_eq_right, binA, intA, loadA, storeA, pickC, setAt, mapO, argsE, X.isC, resA, oneA, unA, boundA, eqiA, eqsA, fillA, fillE, ASt.fz, strA, simprocAttr, hd, w1, z1, b1, b2, b3, h1, Int.toNat_natCast]
  · have hd : decide ((u : Int) < 10) = false := by simp only [decide_eq_false_iff_not]; omega
    have w1 : IntKind.i64.wrap ((u : Int) * 2) = ((u * 2 : Nat) : Int) := by rw [wrap_in (by unfold in64; omega)]; omega
    have w2 : IntKind.i64.wrap (((u * 2 : Nat) : Int) + 2) = ((u * 2 + 2 : Nat) : Int) := by rw [wrap_in (by unfold in64; omega)]; omega
    have b1 : (((u * 2 : Nat) : Int) ≤ 200) = True := eq_true (by omega)
    have b2 : (((u * 2 + 2 : Nat) : Int) ≤ 200) = True := eq_true (by omega)
    have b3 : (u * 2 ≤ u * 2 + 2) = True := eq_true (by omega)
    have h1 := s2 ⟨u, h⟩ hge
    simp only at h1
    simp only [pf102b, ↓wpre, wset, wcore, wext, ne_eq, if_true, if_false, exists_eq_left', true_implies, false_implies, exists_const, exists_eq_right, binA, intA, loadA, storeA, pickC, setAt, mapO, argsE, X.isC, resA, oneA, unA, boundA, eqiA, eqsA, fillA, fillE, ASt.fz, strA, simprocAttr, hd, w1, w2, z2, b1, b2, b3, h1, Int.toNat_natCast]
theorem num_ret {n : Nat} (h1 : 1 ≤ n) (h2 : n < 18446744073709551616) : Out md pfs 103 [.v (.int .u64 (n : Nat))] (· = .int ((digF 20 n).length : Nat)) fun _ => False := by
  have hv : numO [.v (.int .u64 (n : Nat))] ⟨[], []⟩ = some (.int ((digF 20 n).length : Nat), ⟨[], []⟩) := by
    simp only [numO]
    rw [if_pos (by omega), Int.toNat_natCast]
  exact ⟨_, _, _, run_ora (f := 103) (pf := ⟨0, [], .ora numO⟩) (o := numO) (by unfold pfs; rw [if_pos rfl]) rfl hv, by simp only [Outc.purify]; rw [purify_pure rfl]; rfl, rfl⟩
theorem fmt_call {n : Nat} (h1 : 1 ≤ n) (h2 : n < 18446744073709551616) {H : List AObj} {T : List Nat} {i : Nat} {c : List AV} (hH : H[i]? = some (.cells false c)) (hc : (digF 20 n).length ≤ c.length) (hz : c.all isZ = true) (K KP : AV → ASt → Prop) :
    CW (run md pfs) md false ⟨H, T⟩ 104 [.bs i 0 (digF 20 n).length 1 false, .v (.int .u64 (n : Nat))] K KP () = K .undef ⟨H.set i (.cells false (bytes (digF 20 n) ++ c.drop (digF 20 n).length)), T⟩ := by
  have hm : md 104 = .raw := rfl
  have hv : fmtO [.bs i 0 (digF 20 n).length 1 false, .v (.int .u64 (n : Nat))] ⟨H, T⟩ = some (.undef, ⟨H.set i (.cells false (bytes (digF 20 n) ++ c.drop (digF 20 n).length)), T⟩) := by
    simp only [fmtO, hH, Int.toNat_natCast]
    rw [if_pos]
    exact ⟨by simp, ⟨by omega, by omega⟩, by simp, hc, hz⟩
  have := run_ora (md := md) (pfs := pfs) (f := 104) (pf := ⟨0, [], .ora fmtO⟩) (o := fmtO) (by unfold pfs; rw [if_neg (by decide), if_pos rfl]) rfl hv
  simp [CW, callA, hm, this]
theorem chunk1 : ∀ (n : Nat) (l : List AV), n ≤ l.length → chunk 1 false n l = l.take n
  | 0, l, _ => by simp [chunk]
  | n + 1, [], h => by simp at h
  | n + 1, x :: l, h => by
    have := chunk1 n l (by simpa using h)
    simp [chunk, this]
theorem bytes_one (l : List UInt8) : (bytes l).all AV.one = true := by
  rw [List.all_eq_true]; intro x hx
  obtain ⟨b, _, rfl⟩ := List.mem_map.1 hx; rfl
theorem elems_bytes {H : List AObj} {T : List Nat} {i n : Nat} {fz : Bool} {l : List UInt8} {z : List AV} (hH : H[i]? = some (.cells fz (bytes l ++ z))) (hn : n = l.length) : elemsA ⟨H, T⟩ (.bs i 0 n 1 false) = some (bytes l) := by
  subst hn
  have e : ((bytes l ++ z).drop 0).take (l.length * 1) = bytes l := by
    rw [List.drop_zero, Nat.mul_one, ← bytes_len l, List.take_append_of_le_length (Nat.le_refl _), List.take_length]
  simp only [elemsA, hH]
  rw [if_pos]
  · rw [List.drop_zero, chunk1 _ _ (by rw [List.length_append, bytes_len]; omega), ← bytes_len l, List.take_append_of_le_length (Nat.le_refl _), List.take_length]
  · refine ⟨by rw [List.length_append, bytes_len]; omega, ?_⟩
    rw [Nat.mul_one] at e
    simp only [Nat.mul_one, e, bytes_one]; rfl
theorem map_bytes (l : List UInt8) : List.map (fun c : UInt8 => AV.v (.int .u8 (c.toNat : Int))) l = bytes l := rfl
def zs24 : List AV := List.replicate 24 (.v (.int .u8 0))
theorem zs24_eq : [AV.v (.int .u8 0), AV.v (.int .u8 0), AV.v (.int .u8 0), AV.v (.int .u8 0), AV.v (.int .u8 0), AV.v (.int .u8 0), AV.v (.int .u8 0), AV.v (.int .u8 0), AV.v (.int .u8 0), AV.v (.int .u8 0), AV.v (.int .u8 0), AV.v (.int .u8 0), AV.v (.int .u8 0), AV.v (.int .u8 0), AV.v (.int .u8 0), AV.v (.int .u8 0), AV.v (.int .u8 0), AV.v (.int .u8 0), AV.v (.int .u8 0), AV.v (.int .u8 0), AV.v (.int .u8 0), AV.v (.int .u8 0), AV.v (.int .u8 0), AV.v (.int .u8 0)] = zs24 := rfl
def KeptX (p : Nat) (H H' : List AObj) : Prop := H.length ≤ H'.length ∧ ∀ k, k < H.length → k ≠ p → H'[k]? = H[k]?
theorem digF_lenle {n : Nat} (h2 : n < 18446744073709551616) : (digF 20 n).length ≤ 20 := by have := dig20_len h2; omega
theorem src_bs (s : ASt) (i o n es : Nat) (ag : Bool) : srcA s (.bs i o n es ag) = elemsA s (.bs i o n es ag) := rfl
theorem appendUint_rw {l : List UInt8} {n : Nat} (hn : n < 18446744073709551616) (hl : l.length + 20 ≤ capB) {H : List AObj} {T : List Nat} {t : Tl} (h : App T (bytes l) t) :
    Rw 98 [.sl (bytes l) t, .v (.int .u64 (n : Nat)), .int 10] ⟨H, T⟩ fun v s => ∃ t' G T', v = .sl (bytes (l ++ digF 20 n)) t' ∧ s = ⟨H ++ G, T'⟩ ∧ App T' (bytes (l ++ digF 20 n)) t' ∧ Oth T t T' t' := by
  refine rw_of pf98_is (Nat.le_of_ble_eq_true rfl) ?_
  have hd20 := digF_lenle hn
  obtain ⟨t2, T2, f1, f2, f3⟩ := app_many (es := 1) (xs := bytes (digF 20 n)) h (by rw [bytes_len, bytes_len]; omega) (bytes_all l) (bytes_all2 _)
  rw [← bytes_app] at f1 f2
  rcases Nat.lt_or_ge n 100 with hlt | hge
  · have hd : decide ((n : Int) < 100) = true := by simp only [decide_eq_true_eq]; omega
    have w1 : IntKind.i64.wrap (n : Int) = n := wrap_in (by unfold in64; omega)
    obtain ⟨_, rfl, c102⟩ := (small_ret hlt).call rfl (by simp [pvs_cons, pvs_nil, pv_v])
    simp only [pf98, ↓wpre, wset, wcore, wext, ne_eq, if_true, if_false, exists_eq_left', true_implies, false_implies, exists_const, exists_eq_right, binA, intA, loadA, storeA, pickC, setAt, mapO, argsE, X.isC, resA, oneA, unA, boundA, eqiA, eqsA, fillA, fillE, ASt.fz, strA, simprocAttr, hd, w1, c102, strOf_toList, map_bytes, f1, AQ_ret, AQ_normal, AQ_exit]
    exact ⟨_, [], _, rfl, by simp, f2, f3⟩
  · have hd : decide ((n : Int) < 100) = false := by simp only [decide_eq_false_iff_not]; omega
    obtain ⟨_, rfl, c103⟩ := (num_ret (n := n) (by omega) hn).call rfl (by simp [pvs_cons, pvs_nil, pv_v])
    have b1 : (((digF 20 n).length : Nat) : Int) ≤ 24 := by omega
    have c104 := fmt_call (n := n) (by omega) hn (H := H ++ [.cells false zs24]) (T := T) (i := H.length) (c := zs24) (by simp) (by simp [zs24]; omega) rfl
    rw [app_set_len, List.set_cons_zero] at c104
    have e1 := elems_bytes (fz := false) (z := zs24.drop (digF 20 n).length) (H := H ++ [.cells false (bytes (digF 20 n) ++ zs24.drop (digF 20 n).length)]) (T := T) (i := H.length) (n := (digF 20 n).length) (l := digF 20 n) (by simp) rfl
    simp only [pf98, ↓wpre, wset, wcore, wext, ne_eq, if_true, if_false, exists_eq_left', true_implies, false_implies, exists_const, exists_eq_right, binA, intA, loadA, storeA, pickC, setAt, mapO, argsE, X.isC, resA, oneA, unA, boundA, eqiA, eqsA, fillA, fillE, ASt.fz, strA, simprocAttr, hd, c103, b1, Int.toNat_natCast, zs24_eq, c104, src_bs, e1, f1, AQ_ret, AQ_normal, AQ_exit]
    exact ⟨_, _, _, rfl, rfl, f2, f3⟩
theorem u64_wrap {n : Int} (h0 : 0 ≤ n) (h1 : n < 18446744073709551616) : IntKind.u64.wrap n = n := by
  simp [IntKind.wrap, IntKind.bits, IntKind.signed]; omega
theorem u64_neg {n : Int} (h0 : -9223372036854775808 ≤ n) (h1 : n < 0) : IntKind.u64.wrap (0 - IntKind.u64.wrap n) = -n := by
  simp [IntKind.wrap, IntKind.bits, IntKind.signed]; omega
theorem bytes_45 (l : List UInt8) : bytes l ++ [AV.v (.int .u8 45)] = bytes (l ++ [45]) := by simp [bytes, byteA]
theorem bytes_32 (l : List UInt8) : bytes l ++ [AV.v (.int .u8 32)] = bytes (l ++ [32]) := by simp [bytes, byteA]
theorem numF_len {x : Int} (h : in64 x) : (numF x).length ≤ 21 := by
  unfold in64 at h
  unfold numF
  split
  · have := digF_lenle (n := x.natAbs) (by omega); simp; omega
  · have := digF_lenle (n := x.toNat) (by omega); omega
theorem appendInt0_rw {l : List UInt8} {x : Int} (hx : in64 x) (hl : l.length + 21 ≤ capB) {H : List AObj} {T : List Nat} {t : Tl} (h : App T (bytes l) t) :
    Rw 84 [.sl (bytes l) t, .int x, .int 10] ⟨H, T⟩ fun v s => ∃ t' G T', v = .sl (bytes (l ++ numF x)) t' ∧ s = ⟨H ++ G, T'⟩ ∧ App T' (bytes (l ++ numF x)) t' ∧ Oth T t T' t' := by
  refine rw_of pf84_is (Nat.le_of_ble_eq_true rfl) ?_
  have hx' := hx
  unfold in64 at hx'
  by_cases hn : x < 0
  · have hd : decide (x < 0) = true := by simp only [decide_eq_true_eq]; exact hn
    have w1 := u64_neg hx'.1 hn
    obtain ⟨n, hnx⟩ : ∃ n : Nat, -x = n := ⟨x.natAbs, by omega⟩
    rw [hnx] at w1
    obtain ⟨t2, T2, f1, f2, f3⟩ := app_many (es := 1) (xs := [.v (.int .u8 45)]) h (by rw [bytes_len]; simp; omega) (bytes_all l) rfl
    rw [bytes_45] at f1 f2
    obtain ⟨_, _, ⟨t3, G, T3, rfl, rfl, g2, g3⟩, c98⟩ := (appendUint_rw (l := l ++ [45]) (n := n) (H := H) (by omega) (by simp; omega) f2).call rfl
    have e : l ++ numF x = l ++ [45] ++ digF 20 n := by
      unfold numF; rw [if_pos hn, show x.natAbs = n from by omega]; simp
    simp only [pf84, ↓wpre, wset, wcore, wext, ne_eq, if_true, if_false, exists_eq_left', true_implies, false_implies, exists_const, exists_eq_right, binA, intA, loadA, storeA, pickC, setAt, mapO, argsE, X.isC, resA, oneA, unA, boundA, eqiA, eqsA, fillA, fillE, ASt.fz, strA, simprocAttr, hd, w1, f1, srcA_sl, c98, AQ_ret, AQ_normal, AQ_exit]
    rw [e]
    exact ⟨_, _, _, rfl, rfl, g2, f3.trans g3⟩
  · have hd : decide (x < 0) = false := by simp only [decide_eq_false_iff_not]; exact hn
    obtain ⟨n, rfl⟩ : ∃ n : Nat, x = n := ⟨x.toNat, by omega⟩
    have w1 := u64_wrap (n := (n : Int)) (by omega) (by omega)
    obtain ⟨_, _, ⟨t3, G, T3, rfl, rfl, g2, g3⟩, c98⟩ := (appendUint_rw (l := l) (n := n) (H := H) (by omega) (by omega) h).call rfl
    have e : l ++ numF n = l ++ digF 20 n := by
      unfold numF; rw [if_neg hn, Int.toNat_natCast]
    simp only [pf84, ↓wpre, wset, wcore, wext, ne_eq, if_true, if_false, exists_eq_left', true_implies, false_implies, exists_const, exists_eq_right, binA, intA, loadA, storeA, pickC, setAt, mapO, argsE, X.isC, resA, oneA, unA, boundA, eqiA, eqsA, fillA, fillE, ASt.fz, strA, simprocAttr, hd, w1, c98, AQ_ret, AQ_normal, AQ_exit]
    rw [e]
    exact ⟨_, _, _, rfl, rfl, g2, g3⟩
theorem appendInt_rw {l : List UInt8} {x : Int} (hx : in64 x) (hl : l.length + 21 ≤ capB) {H : List AObj} {T : List Nat} {t : Tl} (h : App T (bytes l) t) :
    Rw 68 [.sl (bytes l) t, .int x, .int 10] ⟨H, T⟩ fun v s => ∃ t' G T', v = .sl (bytes (l ++ numF x)) t' ∧ s = ⟨H ++ G, T'⟩ ∧ App T' (bytes (l ++ numF x)) t' ∧ Oth T t T' t' := by
  refine rw_of pf68_is (Nat.le_of_ble_eq_true rfl) ?_
  obtain ⟨_, _, ⟨t3, G, T3, rfl, rfl, g2, g3⟩, c84⟩ := (appendInt0_rw (H := H) hx hl h).call rfl
  simp only [pf68, ↓wpre, wset, wcore, wext, ne_eq, if_true, if_false, exists_eq_left', true_implies, false_implies, exists_const, exists_eq_right, binA, intA, loadA, storeA, pickC, setAt, mapO, argsE, X.isC, resA, oneA, unA, boundA, eqiA, eqsA, fillA, fillE, ASt.fz, strA, simprocAttr, c84, AQ_ret, AQ_normal, AQ_exit]
  exact ⟨_, _, _, rfl, rfl, g2, g3⟩
theorem add_sh {l : List UInt8} {x : Int} (hx : in64 x) (hl : l.length + 22 ≤ capB) {H : List AObj} {T : List Nat} {t : Tl} {p : Nat} (hp : H[p]? = some (.cells false [.sl (bytes l) t])) (h : App T (bytes l) t) :
    Sh md pfs 69 [.int x, .ptr p 0] ⟨H, T⟩ (fun v s => ∃ t' H' T', s = ⟨H', T'⟩ ∧ KeptX p H H' ∧ H'[p]? = some (.cells false [.sl (bytes (l ++ 32 :: numF x)) t']) ∧ App T' (bytes (l ++ 32 :: numF x)) t') fun _ _ => False := by
  refine sh_of pf69_is (Nat.le_of_ble_eq_true rfl) ?_
  obtain ⟨t2, T2, f1, f2, f3⟩ := app_many (es := 1) (xs := [.v (.int .u8 32)]) h (by rw [bytes_len]; simp; omega) (bytes_all l) rfl
  rw [bytes_32] at f1 f2
  obtain ⟨_, _, ⟨t3, G, T3, rfl, rfl, g2, g3⟩, c68⟩ := (appendInt_rw (l := l ++ [32]) (H := H) hx (by simp; omega) f2).call rfl
  have e : l ++ 32 :: numF x = l ++ [32] ++ numF x := by simp
  have hpl := lt_of_get hp
  have hp2 := app_get_of hp G
  simp only [pf69, ↓wpre, wset, wcore, wext, ne_eq, if_true, if_false, exists_eq_left', true_implies, false_implies, exists_const, exists_eq_right, binA, intA, loadA, storeA, pickC, setAt, mapO, argsE, X.isC, resA, oneA, unA, boundA, eqiA, eqsA, fillA, fillE, ASt.fz, strA, simprocAttr, hp, hp2, srcA_sl, f1, c68]
  rw [e]
  refine ⟨_, _, _, rfl, ⟨by simp, fun k h1 h2 => ?_⟩, ?_, g2⟩
  · rw [List.getElem?_set, if_neg (Ne.symm h2), List.getElem?_append_left h1]
  · rw [List.getElem?_set, if_pos rfl, if_pos (by simp; omega)]
structure Nd where
  k : Int
  i : Int
  n : ByteArray
  ls : List Lv
  kids : List Int
  deriving DecidableEq
def Nd.tm (n : Nd) : Tm := .mk n.k n.i n.n n.ls (n.kids.map fun _ => .mk 0 0 ⟨#[]⟩ [] [])
def Nd.formed (n : Nd) : Bool := n.tm.right
structure GT (T : List Tm) : Prop where
  good : Good T
  right : ∀ t ∈ T, t.right = true
def Nd.inR (m : Nat) (n : Nd) : Bool := n.kids.all fun k => decide (0 ≤ k) && decide (k < m)
def chkN : List Nd → List Nd → Int
  | _, [] => 0
  | P, n :: l => if n.formed = true then if n.inR P.length = true then if n ∈ P then 8 else chkN (P ++ [n]) l else 2 else 3
def checkN (l : List Nd) : Int := if l.length ≤ 65536 then chkN [] l else 6
theorem GT.enter {T : List Tm} {t : Tm} (h : GT T) (ht : ∀ x ∈ t.subs, x.right = true) : GT (t.enter T) := by
  obtain ⟨h1, _⟩ := enter_ok t T h.good fun x hx => (right_facts (ht x hx)).1
  exact ⟨h1.good, fun x hx => (h1.mem x).1 hx |>.elim (h.right x) (ht x)⟩
def Nd.Is (n : Nd) (a : AV) : Prop := ∃ t1 t2 las, a = .agg [.int n.k, .int n.i, .str n.n, .sl las t1, .sl (ints n.kids) t2] ∧ t1.pure = true ∧ t2.pure = true ∧ in64 n.k ∧ in64 n.i ∧ n.n.size ≤ lenB ∧ las.length ≤ lenB ∧ n.kids.length ≤ lenB ∧ LIs Lv.Is n.ls las ∧ ∀ x ∈ n.kids, in64 x
theorem ndPure {n : Nd} {a : AV} (h : n.Is a) : pureAV a = true := by
  obtain ⟨t1, t2, las, rfl, h1, h2, _, _, _, _, _, h3, _⟩ := h
  simp [pv_agg, pv_v, pv_sl, pvs_cons, pvs_nil, lvsPure h3, ints_pure, h1, h2]
theorem ndAgg : AggR Nd.Is 5 := ⟨fun {x a} h => by obtain ⟨t1, t2, las, rfl, _⟩ := h; exact ⟨_, rfl, rfl, rfl⟩, fun {x a} h => ndPure h⟩
def spN (x : Int) : List UInt8 := 32 :: numF x
def vT (v : Int × Int) : List UInt8 := spN v.1 ++ spN v.2
def lvT (l : Lv) : List UInt8 := spN l.c ++ (spN l.vs.length ++ l.vs.flatMap vT)
def headT (n : Nd) : List UInt8 := numF n.k ++ (spN n.i ++ spN n.ls.length)
def bodyT (n : Nd) : List UInt8 := headT n ++ (n.ls.flatMap lvT ++ n.kids.flatMap spN)
def keyX (n : Nd) : List UInt8 := bodyT n ++ 32 :: n.n.toList
theorem flat_step {α : Type} {f : α → List UInt8} {l : List α} {j : Nat} {x : α} (h : l[j]? = some x) : (l.take (j + 1)).flatMap f = (l.take j).flatMap f ++ f x := by
  rw [List.take_add_one, h, List.flatMap_append]; simp
theorem flat_le {α : Type} {f : α → List UInt8} {l : List α} {j : Nat} {x : α} (h : l[j]? = some x) : ((l.take j).flatMap f).length + (f x).length ≤ (l.flatMap f).length := by
  have h1 := flat_step (f := f) h
  have h2 : l.flatMap f = (l.take (j + 1)).flatMap f ++ (l.drop (j + 1)).flatMap f := by rw [← List.flatMap_append, List.take_append_drop]
  rw [h2, h1, List.length_append, List.length_append]; omega
theorem add_call {l : List UInt8} {x : Int} (hx : in64 x) (hl : l.length + 22 ≤ capB) {H : List AObj} {T : List Nat} {t : Tl} {p : Nat} (hp : H[p]? = some (.cells false [.sl (bytes l) t])) (h : App T (bytes l) t) :
    ∃ v t' H' T', KeptX p H H' ∧ H'[p]? = some (.cells false [.sl (bytes (l ++ spN x)) t']) ∧ App T' (bytes (l ++ spN x)) t' ∧ ∀ K KP, CW (run md pfs) md false ⟨H, T⟩ 69 [.int x, .ptr p 0] K KP () = K v ⟨H', T'⟩ := by
  rcases (add_sh hx hl hp h).call rfl with ⟨v, _, ⟨t', H', T', rfl, h1, h2, h3⟩, h4⟩ | ⟨_, _, h, _⟩
  · exact ⟨v, t', H', T', h1, h2, h3, h4⟩
  · exact h.elim
theorem KeptX.get {p k : Nat} {H H' : List AObj} {o : AObj} (h : KeptX p H H') (hk : H[k]? = some o) (hp : k ≠ p) : H'[k]? = some o := by rw [h.2 k (lt_of_get hk) hp]; exact hk
theorem KeptX.trans {p : Nat} {A B C : List AObj} (h : KeptX p A B) (k : KeptX p B C) : KeptX p A C := ⟨Nat.le_trans h.1 k.1, fun i hi hp => (k.2 i (Nat.lt_of_lt_of_le hi h.1) hp).trans (h.2 i hi hp)⟩
theorem key_ret {n : Nd} {a : AV} (h : n.Is a) (hl : (keyX n).length ≤ 1000000000) : Out md pfs 37 [a] (· = .str (strOf (keyX n))) fun _ => False := by
  obtain ⟨k, i, nm, ls, kids⟩ := n
  obtain ⟨nl, rfl⟩ : ∃ nl, nm = strOf nl := ⟨nm.toList, (of_str nm).symm⟩
  obtain ⟨t1, t2, las, rfl, g1, g2, g3, g4, g5, g6, g7, g8, g9⟩ := h
  simp only at g1 g2 g3 g4 g5 g6 g7 g8 g9
  have hll := g8.len
  have hall := g8.all lvAgg
  have hia := ints_all kids
  have hkl : (keyX ⟨k, i, strOf nl, ls, kids⟩).length = (headT ⟨k, i, strOf nl, ls, kids⟩).length + ((ls.flatMap lvT).length + (kids.flatMap spN).length) + (1 + nl.length) := by
    simp [keyX, bodyT, List.length_append, strOf_toList]; omega
  have hhl : (headT ⟨k, i, strOf nl, ls, kids⟩).length = (numF k).length + ((spN i).length + (spN ls.length).length) := by simp [headT, List.length_append]
  have hHT : headT ⟨k, i, strOf nl, ls, kids⟩ = numF k ++ (spN i ++ spN ls.length) := rfl
  generalize hHD : headT ⟨k, i, strOf nl, ls, kids⟩ = HD at *
  refine out_of pf37_is (Nat.le_of_ble_eq_true rfl) ?_
  generalize hB : AObj.cells false [AV.int k, AV.int i, AV.str (strOf nl), AV.sl las t1, AV.sl (ints kids) t2] = B
  obtain ⟨_, _, ⟨u1, G1, T1, rfl, rfl, a1, _⟩, c1⟩ := (appendInt_rw (l := []) (x := k) (H := [B]) (T := []) (t := .nil) g3 (by simp [capB]) (.inl ⟨rfl, rfl⟩)).call rfl
  rw [List.nil_append] at a1
  simp only [List.nil_append] at c1
  rw [show (bytes [] : List AV) = [] from rfl] at c1
  have hnk := numF_len g3
  obtain ⟨v2, u2, H2, T2, k2, p2, a2, c2⟩ := add_call (x := i) (H := B :: (G1 ++ [AObj.cells false [AV.sl (bytes (numF k)) u1]])) (p := G1.length + 1) g4 (by unfold capB; omega) (by simp) a1
  have z2 := k2.get (k := 0) rfl (by omega)
  have hni := numF_len g4
  have hlin : in64 (ls.length : Int) := by unfold in64; unfold lenB at g6; omega
  obtain ⟨v3, u3, H3, T3, k3, p3, a3, c3⟩ := add_call (x := (ls.length : Int)) (H := H2) hlin (by unfold capB; simp [spN]; omega) p2 a2
  have z3 := k3.get z2 (by omega)
  subst hB
  rw [← hll] at c3
  simp only [pf37, ↓wpre, wset, wcore, wext, ne_eq, if_true, if_false, exists_eq_left', true_implies, false_implies, exists_const, exists_eq_right, binA, intA, loadA, storeA, pickC, setAt, mapO, argsE, X.isC, resA, oneA, unA, boundA, eqiA, eqsA, fillA, fillE, ASt.fz, strA, simprocAttr, List.length_append, List.append_assoc, app_get_len, app_get_add, app_set_len, app_set_add, c1, c2, z2, c3, z3]
  refine W_loopE (fun j => las.length - j) (fun j E H T => ∃ u cur, H[0]? = some (.cells false [AV.int k, AV.int i, AV.str (strOf nl), AV.sl las t1, AV.sl (ints kids) t2]) ∧ H[G1.length + 1]? = some (.cells false [.sl (bytes cur) u]) ∧ App T (bytes cur) u ∧ E 1 = .ptr 0 0 ∧ E 3 = .ptr (G1.length + 1) 0 ∧ E 4 = .fn 69 [.ptr (G1.length + 1) 0] ∧ E 25 = .sl las t1 ∧ E 26 = .int las.length ∧ E 27 = .int (j : Nat) ∧ j ≤ las.length ∧ cur = HD ++ (ls.take j).flatMap lvT) ?_ 0 ⟨_, _, z3, p3, a3, rfl, rfl, rfl, rfl, rfl, rfl, Nat.zero_le _, by simp [hHT, List.append_assoc]⟩
  clear c1 c2 c3 z2 z3 p2 p3 a1 a2 a3 k2 k3
  rintro j E H T ⟨u, cur, z0, pp, aa, e1, e3, e4, e25, e26, e27, hj, hcur⟩
  rcases Nat.lt_or_ge j las.length with hlt | hge
  · have hdec : decide ((j : Int) < las.length) = true := by simpa using hlt
    obtain ⟨x, c, d0, d1, d3, d4, d5, d6, d7, d8⟩ := g8.get lvAgg hlt
    have hfl := flat_le (f := lvT) d0
    have hcl : cur.length = HD.length + ((ls.take j).flatMap lvT).length := by rw [hcur, List.length_append]
    have hlx : (lvT x).length = (spN x.c).length + ((spN x.vs.length).length + (x.vs.flatMap vT).length) := by simp [lvT]
    obtain ⟨t, vl, hc, b1, b2, b3, b4⟩ := d8
    simp only [AV.agg.injEq] at hc; subst hc
    have hvl := b4.len
    have hva := b4.all varAgg
    have hlp := lt_of_get pp
    have hsx := numF_len b2
    obtain ⟨v2, u2, H2, T2, k2, p2, a2, c2⟩ := add_call (x := x.c) (H := H ++ [.cells false [.int x.c, .sl vl t]]) b2 (by unfold capB; omega) (app_get_of pp _) aa
    have z2 := k2.get (app_get_of z0 _) (by omega)
    have q2 := k2.get (k := H.length) (o := .cells false [.int x.c, .sl vl t]) (by simp) (by omega)
    have hvin : in64 (vl.length : Int) := by unfold in64; unfold lenB at b3; omega
    obtain ⟨v3, u3, H3, T3, k3, p3, a3, c3⟩ := add_call (x := (vl.length : Int)) (H := H2) hvin (by unfold capB; simp [spN] at hlx ⊢; omega) p2 a2
    have z3 := k3.get z2 (by omega)
    have q3 := k3.get q2 (by omega)
    simp only [↓wpre, wset, wcore, wext, ne_eq, if_true, if_false, exists_eq_left', true_implies, false_implies, exists_const, exists_eq_right, binA, intA, loadA, storeA, pickC, setAt, mapO, argsE, X.isC, resA, oneA, unA, boundA, eqiA, eqsA, fillA, fillE, ASt.fz, strA, simprocAttr, List.length_append, List.append_assoc, app_get_len, app_get_add, app_set_len, app_set_add, e1, e3, e4, e25, e26, e27, hdec, d4, d5, d6, hall, c2, q2, c3, q3]
    rw [hvl] at p3 a3
    refine W_loopE (fun m => vl.length - m) (fun m E H T => ∃ u cur2, H[0]? = some (.cells false [AV.int k, AV.int i, AV.str (strOf nl), AV.sl las t1, AV.sl (ints kids) t2]) ∧ H[G1.length + 1]? = some (.cells false [.sl (bytes cur2) u]) ∧ App T (bytes cur2) u ∧ E 1 = .ptr 0 0 ∧ E 3 = .ptr (G1.length + 1) 0 ∧ E 4 = .fn 69 [.ptr (G1.length + 1) 0] ∧ E 25 = .sl las t1 ∧ E 26 = .int las.length ∧ E 27 = .int (j : Nat) ∧ E 41 = .sl vl t ∧ E 42 = .int vl.length ∧ E 43 = .int (m : Nat) ∧ m ≤ vl.length ∧ cur2 = cur ++ spN x.c ++ spN (x.vs.length : Int) ++ (x.vs.take m).flatMap vT) ?_ 0 ⟨_, _, z3, p3, a3, e1, e3, e4, e25, e26, e27, rfl, rfl, rfl, Nat.zero_le _, by simp⟩
    clear c2 c3 z2 z3 q2 q3 p2 p3 a2 a3 k2 k3 e1 e3 e4 e25 e26 e27 z0 pp aa hlp
    clear E H T
    rintro m E H T ⟨u, cur2, z0, pp, aa, e1, e3, e4, e25, e26, e27, e41, e42, e43, hm, hcur2⟩
    rcases Nat.lt_or_ge m vl.length with hml | hmg
    · have hdec : decide ((m : Int) < vl.length) = true := by simpa using hml
      obtain ⟨v, c, f0, f1, f3, f4, f5, f6, f7, f8⟩ := b4.get varAgg hml
      have hfl2 := flat_le (f := vT) f0
      obtain ⟨hc, i1, i2⟩ := f8
      simp only [AV.agg.injEq] at hc; subst hc
      have hlv : (vT v).length = (spN v.1).length + (spN v.2).length := by simp [vT]
      have hcl2 : cur2.length = cur.length + (spN x.c).length + (spN (x.vs.length : Int)).length + ((x.vs.take m).flatMap vT).length := by rw [hcur2]; simp only [List.length_append]
      have hn1 := numF_len i1
      have hn2 := numF_len i2
      have hlp := lt_of_get pp
      obtain ⟨v2, u2, H2, T2, k2, p2, a2, c2⟩ := add_call (x := v.1) (H := H ++ [.cells false [.int v.1, .int v.2]]) i1 (by unfold capB; omega) (app_get_of pp _) aa
      have z2 := k2.get (app_get_of z0 _) (by omega)
      have q2 := k2.get (k := H.length) (o := .cells false [.int v.1, .int v.2]) (by simp) (by omega)
      obtain ⟨v3, u3, H3, T3, k3, p3, a3, c3⟩ := add_call (x := v.2) (H := H2) i2 (by unfold capB; simp only [List.length_append]; omega) p2 a2
      have z3 := k3.get z2 (by omega)
      simp only [↓wpre, wset, wcore, wext, ne_eq, if_true, if_false, exists_eq_left', true_implies, false_implies, exists_const, exists_eq_right, binA, intA, loadA, storeA, pickC, setAt, mapO, argsE, X.isC, resA, oneA, unA, boundA, eqiA, eqsA, fillA, fillE, ASt.fz, strA, simprocAttr, List.length_append, List.append_assoc, app_get_len, app_get_add, app_set_len, app_set_add, e1, e3, e4, e25, e26, e27, e41, e42, e43, hdec, f4, f5, f6, hva, c2, q2, c3]
      exact EQ_in ⟨m + 1, by omega, _, _, z3, p3, a3, e1, e3, e4, e25, e26, e27, e41, e42, next_ixv (by omega), by omega, by rw [flat_step f0, hcur2]; simp only [vT, List.append_assoc]⟩
    · have hdec : decide ((m : Int) < vl.length) = false := by simpa using hmg
      rw [List.take_of_length_le (by omega)] at hcur2
      simp only [↓wpre, wset, wcore, wext, ne_eq, if_true, if_false, exists_eq_left', true_implies, false_implies, exists_const, exists_eq_right, binA, intA, loadA, storeA, pickC, setAt, mapO, argsE, X.isC, resA, oneA, unA, boundA, eqiA, eqsA, fillA, fillE, ASt.fz, strA, simprocAttr, e1, e3, e4, e25, e26, e27, e41, e42, e43, hdec]
      exact EQ_in ⟨j + 1, by omega, _, _, z0, pp, aa, e1, e3, e4, e25, e26, next_ixv (by omega), by omega, by rw [flat_step d0, hcur2, hcur]; simp only [lvT, List.append_assoc]⟩
  · have hdec : decide ((j : Int) < las.length) = false := by simpa using hge
    rw [List.take_of_length_le (by omega)] at hcur
    simp only [↓wpre, wset, wcore, wext, ne_eq, if_true, if_false, exists_eq_left', true_implies, false_implies, exists_const, exists_eq_right, binA, intA, loadA, storeA, pickC, setAt, mapO, argsE, X.isC, resA, oneA, unA, boundA, eqiA, eqsA, fillA, fillE, ASt.fz, strA, simprocAttr, e1, e3, e4, e25, e26, e27, hdec, z0]
    refine W_loopE (fun j => kids.length - j) (fun j E H T => ∃ u cur2, H[0]? = some (.cells false [AV.int k, AV.int i, AV.str (strOf nl), AV.sl las t1, AV.sl (ints kids) t2]) ∧ H[G1.length + 1]? = some (.cells false [.sl (bytes cur2) u]) ∧ App T (bytes cur2) u ∧ E 1 = .ptr 0 0 ∧ E 3 = .ptr (G1.length + 1) 0 ∧ E 4 = .fn 69 [.ptr (G1.length + 1) 0] ∧ E 58 = .sl (ints kids) t2 ∧ E 59 = .int kids.length ∧ E 60 = .int (j : Nat) ∧ j ≤ kids.length ∧ cur2 = cur ++ (kids.take j).flatMap spN) ?_ 0 ⟨_, _, z0, pp, aa, e1, e3, e4, rfl, by simp [updE, ints_len], rfl, Nat.zero_le _, by simp⟩
    have hcl : cur.length = HD.length + (ls.flatMap lvT).length := by rw [hcur, List.length_append]
    clear e1 e3 e4 e25 e26 e27 z0 pp aa
    clear E H T
    rintro m E H T ⟨u, cur2, z0, pp, aa, e1, e3, e4, e58, e59, e60, hm, hcur2⟩
    rcases Nat.lt_or_ge m kids.length with hml | hmg
    · have hdec : decide ((m : Int) < kids.length) = true := by simpa using hml
      obtain ⟨x, f0, f1, f2⟩ := ints_get hml
      have hfl2 := flat_le (f := spN) f0
      have hx : in64 x := g9 x (List.mem_of_getElem? f0)
      have hcl2 : cur2.length = cur.length + ((kids.take m).flatMap spN).length := by rw [hcur2]; simp only [List.length_append]
      have hn1 := numF_len hx
      obtain ⟨v2, u2, H2, T2, k2, p2, a2, c2⟩ := add_call (x := x) (H := H) hx (by unfold capB; omega) pp aa
      have z2 := k2.get z0 (by omega)
      simp only [↓wpre, wset, wcore, wext, ne_eq, if_true, if_false, exists_eq_left', true_implies, false_implies, exists_const, exists_eq_right, binA, intA, loadA, storeA, pickC, setAt, mapO, argsE, X.isC, resA, oneA, unA, boundA, eqiA, eqsA, fillA, fillE, ASt.fz, strA, simprocAttr, List.length_append, List.append_assoc, app_get_len, app_get_add, app_set_len, app_set_add, e1, e3, e4, e58, e59, e60, hdec, f2, hia, c2]
      exact EQ_in ⟨m + 1, by omega, _, _, z2, p2, a2, e1, e3, e4, e58, e59, next_ixv (by omega), by omega, by rw [flat_step f0, hcur2]; simp only [List.append_assoc]⟩
    · have hdec : decide ((m : Int) < kids.length) = false := by simpa using hmg
      rw [List.take_of_length_le (by omega)] at hcur2
      have hcl2 : cur2.length = cur.length + (kids.flatMap spN).length := by rw [hcur2]; simp only [List.length_append]
      have hs1 : (strOf cur2).size + (strOf [32]).size ≤ 1073741824 := by rw [strOf_size, strOf_size, List.length_singleton]; omega
      have hs2 : (strOf (cur2 ++ [32])).size + (strOf nl).size ≤ 1073741824 := by rw [strOf_size, strOf_size, List.length_append, List.length_singleton]; omega
      have hb : (ByteArray.mk cur2.toArray) = strOf cur2 := rfl
      have hb2 : (ByteArray.mk #[32]) = strOf [32] := rfl
      have hr : cur2 ++ [32] ++ nl = keyX ⟨k, i, strOf nl, ls, kids⟩ := by
        rw [keyX, bodyT, hHD, hcur2, hcur]; simp [strOf_toList]
      simp only [↓wpre, wset, wcore, wext, ne_eq, if_true, if_false, exists_eq_left', true_implies, false_implies, exists_const, exists_eq_right, binA, intA, loadA, storeA, pickC, setAt, mapO, argsE, X.isC, resA, oneA, unA, boundA, eqiA, eqsA, fillA, fillE, ASt.fz, strA, simprocAttr, e1, e3, e4, e58, e59, e60, hdec, z0, pp, bytesA_bytes, elemsA_sl, hb, hb2, hs1, strOf_app, hs2, hr]
end Go.Proofs.Eng
