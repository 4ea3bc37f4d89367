/- Few terms; levels are appended, and encoded by the reference. No conditions beyond those in the theorems. -/
import Derived.Test.YtbcnlbnimabdeaaT6
set_option linter.all false
set_option linter.deprecated false
set_option linter.unnecessarySimpa false
set_option linter.unusedVariables false
set_option linter.unusedSimpArgs false
set_option linter.defProp false
namespace Go.Proofs.Eng
open Go Go.Proofs
set_option maxRecDepth 100000
set_option maxHeartbeats 8000000
mutual
/-- Nodes with not too many parts. -/
def Tm.slim : Tm → Prop
  | .mk _ _ n ls kids => n.size ≤ 200 ∧ ls.length ≤ 10 ∧ (∀ l ∈ ls, l.vs.length ≤ 10) ∧ kids.length ≤ 6 ∧ slimL kids
def slimL : List Tm → Prop
  | [] => True
  | t :: l => t.slim ∧ slimL l
end
theorem slimL_iff : ∀ l : List Tm, slimL l ↔ ∀ t ∈ l, t.slim
  | [] => by simp [slimL]
  | t :: l => by simp [slimL, slimL_iff l]
def SmallP (e : Tm) (nodes : Int) (v : AV) : Prop := v = .tup [.int 0, .bool false] ∨ (v = .tup [.int (nodes - (e.sz : Nat)), .bool true] ∧ (e.sz : Int) ≤ nodes ∧ e.slim)
theorem small_ret (e : Tm) : ∀ {a} {nodes : Int}, e.Is a → nodes ≤ 1000 → in64 nodes → Out md pfs 35 [a, .int nodes] (SmallP e nodes) fun _ => False := by
  induction e using Tm.ind with
  | h k i n ls kids ih =>
  intro a nodes h hn hi
  obtain ⟨t1, t2, las, kas, rfl, g1, g2, g3, g4, g5, g6, g7, g8, g9⟩ := h.opn
  have hl1 := g8.len
  have hl2 := g9.len
  have no : SmallP (.mk k i n ls kids) nodes (.tup [.int 0, .bool false]) := Or.inl rfl
  refine out_of pf35_is (Nat.le_of_ble_eq_true rfl) ?_
  cases b0 : decide (nodes ≤ 0)
  case true =>
    simp only [pf35, ↓wpre, wset, wcore, ne_eq, if_true, if_false, exists_eq_left', true_implies, false_implies, exists_const, exists_eq_right, binA, intA, loadA, storeA, pickC, setAt, mapO, argsE, X.isC, resA, oneA, unA, boundA, eqiA, eqsA, fillA, fillE, ASt.fz, strA, Nat.reduceEqDiff, Nat.reduceLT, ↓reduceIte, reduceCtorEq, Nat.reduceAdd, Nat.reduceLeDiff, Int.reduceBEq, Int.reduceBNe, Int.reduceLT, Int.reduceLE, Int.reduceGT, Int.reduceGE, Nat.reduceDiv, Nat.reduceMul, Nat.reduceBEq, Nat.reduceMod, Nat.reduceSub, b0]
    exact no
  cases b1 : decide ((n.size : Int) > 200)
  case true =>
    simp only [pf35, ↓wpre, wset, wcore, ne_eq, if_true, if_false, exists_eq_left', true_implies, false_implies, exists_const, exists_eq_right, binA, intA, loadA, storeA, pickC, setAt, mapO, argsE, X.isC, resA, oneA, unA, boundA, eqiA, eqsA, fillA, fillE, ASt.fz, strA, Nat.reduceEqDiff, Nat.reduceLT, ↓reduceIte, reduceCtorEq, Nat.reduceAdd, Nat.reduceLeDiff, Int.reduceBEq, Int.reduceBNe, Int.reduceLT, Int.reduceLE, Int.reduceGT, Int.reduceGE, Nat.reduceDiv, Nat.reduceMul, Nat.reduceBEq, Nat.reduceMod, Nat.reduceSub, b0, b1]
    exact no
  cases b2 : decide ((las.length : Int) > 10)
  case true =>
    simp only [pf35, ↓wpre, wset, wcore, ne_eq, if_true, if_false, exists_eq_left', true_implies, false_implies, exists_const, exists_eq_right, binA, intA, loadA, storeA, pickC, setAt, mapO, argsE, X.isC, resA, oneA, unA, boundA, eqiA, eqsA, fillA, fillE, ASt.fz, strA, Nat.reduceEqDiff, Nat.reduceLT, ↓reduceIte, reduceCtorEq, Nat.reduceAdd, Nat.reduceLeDiff, Int.reduceBEq, Int.reduceBNe, Int.reduceLT, Int.reduceLE, Int.reduceGT, Int.reduceGE, Nat.reduceDiv, Nat.reduceMul, Nat.reduceBEq, Nat.reduceMod, Nat.reduceSub, b0, b1, b2]
    exact no
  cases b3 : decide ((kas.length : Int) > 6)
  case true =>
    simp only [pf35, ↓wpre, wset, wcore, ne_eq, if_true, if_false, exists_eq_left', true_implies, false_implies, exists_const, exists_eq_right, binA, intA, loadA, storeA, pickC, setAt, mapO, argsE, X.isC, resA, oneA, unA, boundA, eqiA, eqsA, fillA, fillE, ASt.fz, strA, Nat.reduceEqDiff, Nat.reduceLT, ↓reduceIte, reduceCtorEq, Nat.reduceAdd, Nat.reduceLeDiff, Int.reduceBEq, Int.reduceBNe, Int.reduceLT, Int.reduceLE, Int.reduceGT, Int.reduceGE, Nat.reduceDiv, Nat.reduceMul, Nat.reduceBEq, Nat.reduceMod, Nat.reduceSub, b0, b1, b2, b3]
    exact no
  simp only [pf35, ↓wpre, wset, wcore, ne_eq, if_true, if_false, exists_eq_left', true_implies, false_implies, exists_const, exists_eq_right, binA, intA, loadA, storeA, pickC, setAt, mapO, argsE, X.isC, resA, oneA, unA, boundA, eqiA, eqsA, fillA, fillE, ASt.fz, strA, Nat.reduceEqDiff, Nat.reduceLT, ↓reduceIte, reduceCtorEq, Nat.reduceAdd, Nat.reduceLeDiff, Int.reduceBEq, Int.reduceBNe, Int.reduceLT, Int.reduceLE, Int.reduceGT, Int.reduceGE, Nat.reduceDiv, Nat.reduceMul, Nat.reduceBEq, Nat.reduceMod, Nat.reduceSub, b0, b1, b2, b3]
  simp only [decide_eq_false_iff_not] at b0 b1 b2 b3
  refine W_loopE (fun j => las.length - j) (fun j E H T => (∃ G, H = .cells false [.int k, .int i, .str n, .sl las t1, .sl kas t2] :: G) ∧ E 1 = .int nodes ∧ E 2 = .ptr 0 0 ∧ E 33 = .sl las t1 ∧ E 34 = .int las.length ∧ E 35 = .int (j : Nat) ∧ j ≤ las.length ∧ ∀ x ∈ ls.take j, x.vs.length ≤ 10) ?_ 0 ⟨⟨[], rfl⟩, rfl, rfl, rfl, rfl, rfl, Nat.zero_le _, by simp⟩
  rintro j E H T ⟨⟨G, rfl⟩, e1, e2, e33, e34, e35, hj, hgood⟩
  rcases Nat.lt_or_ge j las.length with hlt | hge
  · have hdec : decide ((j : Int) < las.length) = true := by simpa using hlt
    obtain ⟨x, c, d0, d1, d3, d4, d5, d6, d7, d8⟩ := g8.get lvAgg hlt
    obtain ⟨tx, xl, ex, x1, x2, x3, x4⟩ := d8
    cases ex
    have hxl := x4.len
    have hall := g8.all lvAgg
    cases b4 : decide ((xl.length : Int) > 10)
    · simp only [↓wpre, wset, wcore, ne_eq, if_true, if_false, exists_eq_left', true_implies, false_implies, exists_const, exists_eq_right, binA, intA, loadA, storeA, pickC, setAt, mapO, argsE, X.isC, resA, oneA, unA, boundA, eqiA, eqsA, fillA, fillE, ASt.fz, strA, Nat.reduceEqDiff, Nat.reduceLT, ↓reduceIte, reduceCtorEq, Nat.reduceAdd, Nat.reduceLeDiff, Int.reduceBEq, Int.reduceBNe, Int.reduceLT, Int.reduceLE, Int.reduceGT, Int.reduceGE, Nat.reduceDiv, Nat.reduceMul, Nat.reduceBEq, Nat.reduceMod, Nat.reduceSub, List.length_append, List.append_assoc, app_get_len, app_get_add, app_set_len, app_set_add, e1, e2, e33, e34, e35, hdec, d4, hall, b4]
      exact EQ_in ⟨j + 1, by omega, ⟨_, rfl⟩, e1, e2, e33, e34, next_ixv (by unfold lenB at *; omega), by omega, take_next d0 hgood (by simp only [decide_eq_false_iff_not] at b4; omega)⟩
    · simp only [↓wpre, wset, wcore, ne_eq, if_true, if_false, exists_eq_left', true_implies, false_implies, exists_const, exists_eq_right, binA, intA, loadA, storeA, pickC, setAt, mapO, argsE, X.isC, resA, oneA, unA, boundA, eqiA, eqsA, fillA, fillE, ASt.fz, strA, Nat.reduceEqDiff, Nat.reduceLT, ↓reduceIte, reduceCtorEq, Nat.reduceAdd, Nat.reduceLeDiff, Int.reduceBEq, Int.reduceBNe, Int.reduceLT, Int.reduceLE, Int.reduceGT, Int.reduceGE, Nat.reduceDiv, Nat.reduceMul, Nat.reduceBEq, Nat.reduceMod, Nat.reduceSub, List.length_append, List.append_assoc, app_get_len, app_get_add, app_set_len, app_set_add, e1, e2, e33, e34, e35, hdec, d4, hall, b4]
      exact no
  · have hdec : decide ((j : Int) < las.length) = false := by simpa using hge
    rw [List.take_of_length_le (by omega)] at hgood
    have w1 : IntKind.i64.wrap (nodes - 1) = nodes - 1 := wrap_in (by unfold in64; omega)
    simp only [↓wpre, wset, wcore, ne_eq, if_true, if_false, exists_eq_left', true_implies, false_implies, exists_const, exists_eq_right, binA, intA, loadA, storeA, pickC, setAt, mapO, argsE, X.isC, resA, oneA, unA, boundA, eqiA, eqsA, fillA, fillE, ASt.fz, strA, Nat.reduceEqDiff, Nat.reduceLT, ↓reduceIte, reduceCtorEq, Nat.reduceAdd, Nat.reduceLeDiff, Int.reduceBEq, Int.reduceBNe, Int.reduceLT, Int.reduceLE, Int.reduceGT, Int.reduceGE, Nat.reduceDiv, Nat.reduceMul, Nat.reduceBEq, Nat.reduceMod, Nat.reduceSub, List.length_append, List.append_assoc, app_get_len, app_get_add, app_set_len, app_set_add, e1, e2, e33, e34, e35, hdec, w1]
    refine W_loopE (fun j => kas.length - j) (fun j E H T => (∃ G, H = .cells false [.int k, .int i, .str n, .sl las t1, .sl kas t2] :: G) ∧ E 1 = .int (nodes - 1 - (tszL (kids.take j) : Nat)) ∧ E 2 = .ptr 0 0 ∧ E 47 = .sl kas t2 ∧ E 48 = .int kas.length ∧ E 49 = .int (j : Nat) ∧ j ≤ kas.length ∧ (tszL (kids.take j) : Int) ≤ nodes - 1 ∧ ∀ x ∈ kids.take j, x.slim) ?_ 0 ⟨⟨G, rfl⟩, (by show AV.int (nodes - 1) = _; simp [tszL]), e2, rfl, rfl, rfl, Nat.zero_le _, by simp [tszL]; omega, by simp⟩
    clear e1 e2 e33 e34 e35 hj hge hdec E T
    rintro j E H T ⟨⟨G, rfl⟩, e1, e2, e47, e48, e49, hj, hsum, hsl⟩
    rcases Nat.lt_or_ge j kas.length with hlt | hge
    · have hdec : decide ((j : Int) < kas.length) = true := by simpa using hlt
      obtain ⟨x, c, d0, d1, d3, d4, d5, d6, d7, d8⟩ := g9.get tmAgg hlt
      obtain ⟨s1, s2⟩ := tsz_split d0
      have hall := g9.all tmAgg
      obtain ⟨v, hv, cv⟩ := (ih x d3 (nodes := nodes - 1 - (tszL (kids.take j) : Nat)) d8 (by omega) (by unfold in64; omega)).call rfl (by simp [pvs_cons, pvs_nil, pv_v, tmPure _ d8])
      rcases hv with rfl | ⟨rfl, hle, hxs⟩
      · simp only [↓wpre, wset, wcore, ne_eq, if_true, if_false, exists_eq_left', true_implies, false_implies, exists_const, exists_eq_right, binA, intA, loadA, storeA, pickC, setAt, mapO, argsE, X.isC, resA, oneA, unA, boundA, eqiA, eqsA, fillA, fillE, ASt.fz, strA, Nat.reduceEqDiff, Nat.reduceLT, ↓reduceIte, reduceCtorEq, Nat.reduceAdd, Nat.reduceLeDiff, Int.reduceBEq, Int.reduceBNe, Int.reduceLT, Int.reduceLE, Int.reduceGT, Int.reduceGE, Nat.reduceDiv, Nat.reduceMul, Nat.reduceBEq, Nat.reduceMod, Nat.reduceSub, List.length_append, List.append_assoc, app_get_len, app_get_add, app_set_len, app_set_add, e1, e2, e47, e48, e49, hdec, d4, d5, d6, d7, hall, cv]
        exact no
      · simp only [↓wpre, wset, wcore, ne_eq, if_true, if_false, exists_eq_left', true_implies, false_implies, exists_const, exists_eq_right, binA, intA, loadA, storeA, pickC, setAt, mapO, argsE, X.isC, resA, oneA, unA, boundA, eqiA, eqsA, fillA, fillE, ASt.fz, strA, Nat.reduceEqDiff, Nat.reduceLT, ↓reduceIte, reduceCtorEq, Nat.reduceAdd, Nat.reduceLeDiff, Int.reduceBEq, Int.reduceBNe, Int.reduceLT, Int.reduceLE, Int.reduceGT, Int.reduceGE, Nat.reduceDiv, Nat.reduceMul, Nat.reduceBEq, Nat.reduceMod, Nat.reduceSub, List.length_append, List.append_assoc, app_get_len, app_get_add, app_set_len, app_set_add, e1, e2, e47, e48, e49, hdec, d4, d5, d6, d7, hall, cv]
        exact EQ_in ⟨j + 1, by omega, ⟨_, rfl⟩, (by show AV.int (nodes - 1 - (tszL (kids.take j) : Nat) - (x.sz : Nat)) = _; exact congrArg AV.int (by rw [s1]; omega)), e2, e47, e48, next_ixv (by unfold lenB at *; omega), by omega, by omega, take_next d0 hsl hxs⟩
    · have hdec : decide ((j : Int) < kas.length) = false := by simpa using hge
      rw [List.take_of_length_le (by omega)] at e1 hsum hsl
      simp only [↓wpre, wset, wcore, ne_eq, if_true, if_false, exists_eq_left', true_implies, false_implies, exists_const, exists_eq_right, binA, intA, loadA, storeA, pickC, setAt, mapO, argsE, X.isC, resA, oneA, unA, boundA, eqiA, eqsA, fillA, fillE, ASt.fz, strA, Nat.reduceEqDiff, Nat.reduceLT, ↓reduceIte, reduceCtorEq, Nat.reduceAdd, Nat.reduceLeDiff, Int.reduceBEq, Int.reduceBNe, Int.reduceLT, Int.reduceLE, Int.reduceGT, Int.reduceGE, Nat.reduceDiv, Nat.reduceMul, Nat.reduceBEq, Nat.reduceMod, Nat.reduceSub, List.length_append, List.append_assoc, app_get_len, app_get_add, app_set_len, app_set_add, e1, e2, e47, e48, e49, hdec]
      refine Or.inr ⟨?_, ?_, ?_⟩
      · rw [Tm.sz]; simp only [AV.tup.injEq, List.cons.injEq, and_true, AV.v.injEq, Value.int.injEq, true_and]; omega
      · rw [Tm.sz]; omega
      · rw [Tm.slim, slimL_iff]; exact ⟨by omega, by omega, hgood, by omega, hsl⟩
/-- Few, small terms. -/
def FewP (l : List Tm) : Prop := l.length ≤ 8 ∧ tszL l ≤ 200 ∧ ∀ t ∈ l, t.slim
theorem few_ret {l : List Tm} {al : List AV} {t : Tl} (h : LIs Tm.Is l al) (ht : t.pure = true) (hl : al.length ≤ lenB) : Out md pfs 16 [.sl al t] (fun v => ∃ b, v = .bool b ∧ (b = true → FewP l)) fun _ => False := by
  have hl2 := h.len
  have no : ∃ b, AV.v (.bool false) = .bool b ∧ (b = true → FewP l) := ⟨false, rfl, by simp⟩
  refine out_of pf16_is (Nat.le_of_ble_eq_true rfl) ?_
  simp only [pf16, ↓wpre, wset, wcore, ne_eq, if_true, if_false, exists_eq_left', true_implies, false_implies, exists_const, exists_eq_right, binA, intA, loadA, storeA, pickC, setAt, mapO, argsE, X.isC, resA, oneA, unA, boundA, eqiA, eqsA, fillA, fillE, ASt.fz, strA, Nat.reduceEqDiff, Nat.reduceLT, ↓reduceIte, reduceCtorEq, Nat.reduceAdd, Nat.reduceLeDiff, Int.reduceBEq, Int.reduceBNe, Int.reduceLT, Int.reduceLE, Int.reduceGT, Int.reduceGE, Nat.reduceDiv, Nat.reduceMul, Nat.reduceBEq, Nat.reduceMod, Nat.reduceSub]
  refine W_loopE (fun j => al.length - j) (fun j E H T => E 0 = .sl al t ∧ E 3 = .int (200 - (tszL (l.take j) : Nat) : Int) ∧ E 8 = .sl al t ∧ E 9 = .int al.length ∧ E 10 = .int (j : Nat) ∧ j ≤ al.length ∧ (tszL (l.take j) : Int) ≤ 200 ∧ ∀ x ∈ l.take j, x.slim) ?_ 0 ⟨rfl, rfl, rfl, rfl, rfl, Nat.zero_le _, by simp [tszL], by simp⟩
  rintro j E H T ⟨e0, e3, e8, e9, e10, hj, hsum, hsl⟩
  rcases Nat.lt_or_ge j al.length with hlt | hge
  · have hdec : decide ((j : Int) < al.length) = true := by simpa using hlt
    obtain ⟨x, c, d0, d1, d3, d4, d5, d6, d7, d8⟩ := h.get tmAgg hlt
    obtain ⟨s1, s2⟩ := tsz_split d0
    have hall := h.all tmAgg
    obtain ⟨v, hv, cv⟩ := (small_ret x (nodes := 200 - (tszL (l.take j) : Nat)) d8 (by omega) (by unfold in64; omega)).call rfl (by simp [pvs_cons, pvs_nil, pv_v, tmPure _ d8])
    rcases hv with rfl | ⟨rfl, hle, hxs⟩
    · simp only [↓wpre, wset, wcore, ne_eq, if_true, if_false, exists_eq_left', true_implies, false_implies, exists_const, exists_eq_right, binA, intA, loadA, storeA, pickC, setAt, mapO, argsE, X.isC, resA, oneA, unA, boundA, eqiA, eqsA, fillA, fillE, ASt.fz, strA, Nat.reduceEqDiff, Nat.reduceLT, ↓reduceIte, reduceCtorEq, Nat.reduceAdd, Nat.reduceLeDiff, Int.reduceBEq, Int.reduceBNe, Int.reduceLT, Int.reduceLE, Int.reduceGT, Int.reduceGE, Nat.reduceDiv, Nat.reduceMul, Nat.reduceBEq, Nat.reduceMod, Nat.reduceSub, List.length_append, List.append_assoc, app_get_len, app_get_add, app_set_len, app_set_add, e0, e3, e8, e9, e10, hdec, d4, d5, d6, d7, hall, cv]
      exact no
    · simp only [↓wpre, wset, wcore, ne_eq, if_true, if_false, exists_eq_left', true_implies, false_implies, exists_const, exists_eq_right, binA, intA, loadA, storeA, pickC, setAt, mapO, argsE, X.isC, resA, oneA, unA, boundA, eqiA, eqsA, fillA, fillE, ASt.fz, strA, Nat.reduceEqDiff, Nat.reduceLT, ↓reduceIte, reduceCtorEq, Nat.reduceAdd, Nat.reduceLeDiff, Int.reduceBEq, Int.reduceBNe, Int.reduceLT, Int.reduceLE, Int.reduceGT, Int.reduceGE, Nat.reduceDiv, Nat.reduceMul, Nat.reduceBEq, Nat.reduceMod, Nat.reduceSub, List.length_append, List.append_assoc, app_get_len, app_get_add, app_set_len, app_set_add, e0, e3, e8, e9, e10, hdec, d4, d5, d6, d7, hall, cv]
      exact EQ_in ⟨j + 1, by omega, e0, (by show AV.int ((200 : Int) - (tszL (l.take j) : Nat) - (x.sz : Nat)) = _; exact congrArg AV.int (by rw [s1]; omega)), e8, e9, next_ixv (by unfold lenB at *; omega), by omega, by omega, take_next d0 hsl hxs⟩
  · have hdec : decide ((j : Int) < al.length) = false := by simpa using hge
    rw [List.take_of_length_le (by omega)] at hsum hsl
    simp only [↓wpre, wset, wcore, ne_eq, if_true, if_false, exists_eq_left', true_implies, false_implies, exists_const, exists_eq_right, binA, intA, loadA, storeA, pickC, setAt, mapO, argsE, X.isC, resA, oneA, unA, boundA, eqiA, eqsA, fillA, fillE, ASt.fz, strA, Nat.reduceEqDiff, Nat.reduceLT, ↓reduceIte, reduceCtorEq, Nat.reduceAdd, Nat.reduceLeDiff, Int.reduceBEq, Int.reduceBNe, Int.reduceLT, Int.reduceLE, Int.reduceGT, Int.reduceGE, Nat.reduceDiv, Nat.reduceMul, Nat.reduceBEq, Nat.reduceMod, Nat.reduceSub, e0, e3, e8, e9, e10, hdec]
    exact ⟨_, rfl, fun hb => ⟨by simp only [decide_eq_true_eq] at hb; omega, by omega, hsl⟩⟩
end Go.Proofs.Eng
