/- Equality of levels and of terms. No conditions beyond those in the theorems. -/
import Derived.Test.YtbcnlbnimabdeaaD48
set_option linter.all false
set_option linter.deprecated false
set_option linter.unnecessarySimpa false
set_option linter.unusedVariables false
set_option linter.unusedSimpArgs false
set_option linter.defProp false
namespace Go.Proofs.Eng
open Go Go.Proofs
set_option maxRecDepth 100000
set_option maxHeartbeats 4000000
theorem eqg_var (a b c d : Int) : eqgA [false, false] [.int a, .int b] [.int c, .int d] = some (decide ((a, b) = (c, d))) := by
  simp only [eqgA, keyOK, keyEq, if_true, Bool.and_true]
  by_cases h1 : a = c <;> by_cases h2 : b = d <;> simp [h1, h2]
theorem take_step {α : Type} {l m : List α} {j : Nat} {x : α} (h : l.take j = m.take j) (h1 : l[j]? = some x) (h2 : m[j]? = some x) : l.take (j + 1) = m.take (j + 1) := by
  rw [List.take_add_one, List.take_add_one, h, h1, h2]
theorem list_ne {α : Type} {l m : List α} {j : Nat} {x y : α} (h1 : l[j]? = some x) (h2 : m[j]? = some y) (h : x ≠ y) : l ≠ m := by
  rintro rfl; rw [h1] at h2; cases h2; exact h rfl
theorem lsame_ret {l m : Lv} {a b : AV} (h : l.Is a) (h' : m.Is b) : Out md pfs 66 [a, b] (· = .bool (decide (l = m))) fun _ => False := by
  obtain ⟨t, al, rfl, g1, g2, g3, g4⟩ := h
  obtain ⟨u, bl, rfl, q1, q2, q3, q4⟩ := h'
  obtain ⟨c, vs⟩ := l
  obtain ⟨d, ws⟩ := m
  have hl1 := g4.len
  have hl2 := q4.len
  simp only at hl1 hl2 g4 q4 g2 q2
  refine out_of pf66_is (Nat.le_of_ble_eq_true rfl) ?_
  cases b1 : (c != d)
  · have hcd : c = d := by simpa using b1
    subst hcd
    cases b2 : ((al.length : Int) != bl.length)
    · have hlen : bl.length = al.length := by simp at b2; omega
      simp only [pf66, ↓wpre, wset, wcore, ne_eq, if_true, if_false, exists_eq_left', true_implies, false_implies, exists_const, exists_eq_right, binA, intA, loadA, storeA, pickC, setAt, mapO, argsE, X.isC, resA, oneA, unA, boundA, eqiA, eqsA, fillA, fillE, ASt.fz, strA, Nat.reduceEqDiff, Nat.reduceLT, ↓reduceIte, reduceCtorEq, Nat.reduceAdd, Nat.reduceLeDiff, Int.reduceBEq, Int.reduceBNe, Int.reduceLT, Int.reduceLE, Int.reduceGT, Int.reduceGE, Nat.reduceDiv, Nat.reduceMul, Nat.reduceBEq, Nat.reduceMod, Nat.reduceSub, b1, b2]
      refine W_loopE (fun j => al.length - j) (fun j E H T => H = [.cells false [.int c, .sl al t], .cells false [.int c, .sl bl u]] ∧ E 2 = .ptr 0 0 ∧ E 3 = .ptr 1 0 ∧ E 5 = .int (j : Nat) ∧ j ≤ al.length ∧ vs.take j = ws.take j) ?_ 0 ⟨rfl, rfl, rfl, rfl, Nat.zero_le _, by simp⟩
      rintro j E H T ⟨rfl, e2, e3, e5, hj, ht⟩
      rcases Nat.lt_or_ge j al.length with hlt | hge
      · have hdec : decide ((j : Int) < al.length) = true := by simpa using hlt
        obtain ⟨x, c1, d0, d1, d3, d4, d5, d6, d7, ⟨d8, _, _⟩⟩ := g4.get varAgg hlt
        obtain ⟨y, c2, f0, f1, f3, f4, f5, f6, f7, ⟨f8, _, _⟩⟩ := q4.get varAgg (i := j) (by omega)
        cases d8; cases f8
        have hall := g4.all varAgg
        have hall2 := q4.all varAgg
        have hq := eqg_var x.1 x.2 y.1 y.2
        rw [show ((x.1, x.2) : Int × Int) = x from rfl, show ((y.1, y.2) : Int × Int) = y from rfl] at hq
        cases b3 : decide (x = y)
        · simp only [↓wpre, wset, wcore, ne_eq, if_true, if_false, exists_eq_left', true_implies, false_implies, exists_const, exists_eq_right, binA, intA, loadA, storeA, pickC, setAt, mapO, argsE, X.isC, resA, oneA, unA, boundA, eqiA, eqsA, fillA, fillE, ASt.fz, strA, Nat.reduceEqDiff, Nat.reduceLT, ↓reduceIte, reduceCtorEq, Nat.reduceAdd, Nat.reduceLeDiff, Int.reduceBEq, Int.reduceBNe, Int.reduceLT, Int.reduceLE, Int.reduceGT, Int.reduceGE, Nat.reduceDiv, Nat.reduceMul, Nat.reduceBEq, Nat.reduceMod, Nat.reduceSub, e2, e3, e5, hdec, d4, f4, hall, hall2, hq, b3, Bool.true_xor, Bool.not_false]
          have hxy : x ≠ y := by simpa using b3
          have : vs ≠ ws := list_ne d0 f0 hxy
          simp [this]
        · have hxy : x = y := by simpa using b3
          subst hxy
          simp only [↓wpre, wset, wcore, ne_eq, if_true, if_false, exists_eq_left', true_implies, false_implies, exists_const, exists_eq_right, binA, intA, loadA, storeA, pickC, setAt, mapO, argsE, X.isC, resA, oneA, unA, boundA, eqiA, eqsA, fillA, fillE, ASt.fz, strA, Nat.reduceEqDiff, Nat.reduceLT, ↓reduceIte, reduceCtorEq, Nat.reduceAdd, Nat.reduceLeDiff, Int.reduceBEq, Int.reduceBNe, Int.reduceLT, Int.reduceLE, Int.reduceGT, Int.reduceGE, Nat.reduceDiv, Nat.reduceMul, Nat.reduceBEq, Nat.reduceMod, Nat.reduceSub, e2, e3, e5, hdec, d4, f4, hall, hall2, hq, b3, Bool.true_xor, Bool.not_true]
          exact EQ_in ⟨j + 1, by omega, rfl, e2, e3, next_ixv (by unfold lenB at *; omega), by omega, take_step ht d0 f0⟩
      · have hdec : decide ((j : Int) < al.length) = false := by simpa using hge
        simp only [↓wpre, wset, wcore, ne_eq, if_true, if_false, exists_eq_left', true_implies, false_implies, exists_const, exists_eq_right, binA, intA, loadA, storeA, pickC, setAt, mapO, argsE, X.isC, resA, oneA, unA, boundA, eqiA, eqsA, fillA, fillE, ASt.fz, strA, Nat.reduceEqDiff, Nat.reduceLT, ↓reduceIte, reduceCtorEq, Nat.reduceAdd, Nat.reduceLeDiff, Int.reduceBEq, Int.reduceBNe, Int.reduceLT, Int.reduceLE, Int.reduceGT, Int.reduceGE, Nat.reduceDiv, Nat.reduceMul, Nat.reduceBEq, Nat.reduceMod, Nat.reduceSub, e2, e3, e5, hdec]
        rw [List.take_of_length_le (by omega), List.take_of_length_le (by omega)] at ht
        simp [ht]
    · simp only [pf66, ↓wpre, wset, wcore, ne_eq, if_true, if_false, exists_eq_left', true_implies, false_implies, exists_const, exists_eq_right, binA, intA, loadA, storeA, pickC, setAt, mapO, argsE, X.isC, resA, oneA, unA, boundA, eqiA, eqsA, fillA, fillE, ASt.fz, strA, Nat.reduceEqDiff, Nat.reduceLT, ↓reduceIte, reduceCtorEq, Nat.reduceAdd, Nat.reduceLeDiff, Int.reduceBEq, Int.reduceBNe, Int.reduceLT, Int.reduceLE, Int.reduceGT, Int.reduceGE, Nat.reduceDiv, Nat.reduceMul, Nat.reduceBEq, Nat.reduceMod, Nat.reduceSub, b1, b2]
      have : vs ≠ ws := by rintro rfl; simp at b2; omega
      simp [this]
  · simp only [pf66, ↓wpre, wset, wcore, ne_eq, if_true, if_false, exists_eq_left', true_implies, false_implies, exists_const, exists_eq_right, binA, intA, loadA, storeA, pickC, setAt, mapO, argsE, X.isC, resA, oneA, unA, boundA, eqiA, eqsA, fillA, fillE, ASt.fz, strA, Nat.reduceEqDiff, Nat.reduceLT, ↓reduceIte, reduceCtorEq, Nat.reduceAdd, Nat.reduceLeDiff, Int.reduceBEq, Int.reduceBNe, Int.reduceLT, Int.reduceLE, Int.reduceGT, Int.reduceGE, Nat.reduceDiv, Nat.reduceMul, Nat.reduceBEq, Nat.reduceMod, Nat.reduceSub, b1]
    have : c ≠ d := by simpa using b1
    simp [this]
theorem lsames_ret {ls ms : List Lv} {al bl : List AV} {t u : Tl} (h : LIs Lv.Is ls al) (h' : LIs Lv.Is ms bl) (ht : t.pure = true) (hu : u.pure = true) (hl : al.length ≤ lenB) : Out md pfs 47 [.sl al t, .sl bl u] (· = .bool (decide (ls = ms))) fun _ => False := by
  have hl1 := h.len
  have hl2 := h'.len
  refine out_of pf47_is (Nat.le_of_ble_eq_true rfl) ?_
  cases b2 : ((al.length : Int) != bl.length)
  · have hlen : bl.length = al.length := by simp at b2; omega
    simp only [pf47, ↓wpre, wset, wcore, ne_eq, if_true, if_false, exists_eq_left', true_implies, false_implies, exists_const, exists_eq_right, binA, intA, loadA, storeA, pickC, setAt, mapO, argsE, X.isC, resA, oneA, unA, boundA, eqiA, eqsA, fillA, fillE, ASt.fz, strA, Nat.reduceEqDiff, Nat.reduceLT, ↓reduceIte, reduceCtorEq, Nat.reduceAdd, Nat.reduceLeDiff, Int.reduceBEq, Int.reduceBNe, Int.reduceLT, Int.reduceLE, Int.reduceGT, Int.reduceGE, Nat.reduceDiv, Nat.reduceMul, Nat.reduceBEq, Nat.reduceMod, Nat.reduceSub, b2]
    refine W_loopE (fun j => al.length - j) (fun j E H T => H = [] ∧ E 0 = .sl al t ∧ E 1 = .sl bl u ∧ E 5 = .int (j : Nat) ∧ j ≤ al.length ∧ ls.take j = ms.take j) ?_ 0 ⟨rfl, rfl, rfl, rfl, Nat.zero_le _, by simp⟩
    rintro j E H T ⟨rfl, e0, e1, e5, hj, hq⟩
    rcases Nat.lt_or_ge j al.length with hlt | hge
    · have hdec : decide ((j : Int) < al.length) = true := by simpa using hlt
      obtain ⟨x, c1, d0, d1, d3, d4, d5, d6, d7, d8⟩ := h.get lvAgg hlt
      obtain ⟨y, c2, f0, f1, f3, f4, f5, f6, f7, f8⟩ := h'.get lvAgg (i := j) (by omega)
      have hall := h.all lvAgg
      have hall2 := h'.all lvAgg
      obtain ⟨_, rfl, cr⟩ := (lsame_ret d8 f8).call rfl (by simp [pvs_cons, pvs_nil, lvPure d8, lvPure f8])
      cases b3 : decide (x = y)
      · have hxy : x ≠ y := by simpa using b3
        simp only [↓wpre, wset, wcore, ne_eq, if_true, if_false, exists_eq_left', true_implies, false_implies, exists_const, exists_eq_right, binA, intA, loadA, storeA, pickC, setAt, mapO, argsE, X.isC, resA, oneA, unA, boundA, eqiA, eqsA, fillA, fillE, ASt.fz, strA, Nat.reduceEqDiff, Nat.reduceLT, ↓reduceIte, reduceCtorEq, Nat.reduceAdd, Nat.reduceLeDiff, Int.reduceBEq, Int.reduceBNe, Int.reduceLT, Int.reduceLE, Int.reduceGT, Int.reduceGE, Nat.reduceDiv, Nat.reduceMul, Nat.reduceBEq, Nat.reduceMod, Nat.reduceSub, e0, e1, e5, hdec, d4, d5, d6, f4, f5, f6, hall, hall2, cr, b3]
        have : ls ≠ ms := list_ne d0 f0 hxy
        simp [this]
      · have hxy : x = y := by simpa using b3
        subst hxy
        simp only [↓wpre, wset, wcore, ne_eq, if_true, if_false, exists_eq_left', true_implies, false_implies, exists_const, exists_eq_right, binA, intA, loadA, storeA, pickC, setAt, mapO, argsE, X.isC, resA, oneA, unA, boundA, eqiA, eqsA, fillA, fillE, ASt.fz, strA, Nat.reduceEqDiff, Nat.reduceLT, ↓reduceIte, reduceCtorEq, Nat.reduceAdd, Nat.reduceLeDiff, Int.reduceBEq, Int.reduceBNe, Int.reduceLT, Int.reduceLE, Int.reduceGT, Int.reduceGE, Nat.reduceDiv, Nat.reduceMul, Nat.reduceBEq, Nat.reduceMod, Nat.reduceSub, e0, e1, e5, hdec, d4, d5, d6, f4, f5, f6, hall, hall2, cr, b3]
        exact EQ_in ⟨j + 1, by omega, rfl, e0, e1, next_ixv (by unfold lenB at *; omega), by omega, take_step hq d0 f0⟩
    · have hdec : decide ((j : Int) < al.length) = false := by simpa using hge
      simp only [↓wpre, wset, wcore, ne_eq, if_true, if_false, exists_eq_left', true_implies, false_implies, exists_const, exists_eq_right, binA, intA, loadA, storeA, pickC, setAt, mapO, argsE, X.isC, resA, oneA, unA, boundA, eqiA, eqsA, fillA, fillE, ASt.fz, strA, Nat.reduceEqDiff, Nat.reduceLT, ↓reduceIte, reduceCtorEq, Nat.reduceAdd, Nat.reduceLeDiff, Int.reduceBEq, Int.reduceBNe, Int.reduceLT, Int.reduceLE, Int.reduceGT, Int.reduceGE, Nat.reduceDiv, Nat.reduceMul, Nat.reduceBEq, Nat.reduceMod, Nat.reduceSub, e0, e1, e5, hdec]
      rw [List.take_of_length_le (by omega), List.take_of_length_le (by omega)] at hq
      simp [hq]
  · simp only [pf47, ↓wpre, wset, wcore, ne_eq, if_true, if_false, exists_eq_left', true_implies, false_implies, exists_const, exists_eq_right, binA, intA, loadA, storeA, pickC, setAt, mapO, argsE, X.isC, resA, oneA, unA, boundA, eqiA, eqsA, fillA, fillE, ASt.fz, strA, Nat.reduceEqDiff, Nat.reduceLT, ↓reduceIte, reduceCtorEq, Nat.reduceAdd, Nat.reduceLeDiff, Int.reduceBEq, Int.reduceBNe, Int.reduceLT, Int.reduceLE, Int.reduceGT, Int.reduceGE, Nat.reduceDiv, Nat.reduceMul, Nat.reduceBEq, Nat.reduceMod, Nat.reduceSub, b2]
    have : ls ≠ ms := by rintro rfl; simp at b2; omega
    simp [this]
theorem tsame_ret (e : Tm) : ∀ {f a b}, e.Is a → Tm.Is f b → Out md pfs 22 [a, b] (· = .bool (decide (e = f))) fun _ => False := by
  induction e using Tm.ind with
  | h k i n ls kids ih =>
  rintro ⟨k', i', n', ls', kids'⟩ a b h h'
  obtain ⟨t1, t2, las, kas, rfl, g1, g2, g3, g4, g5, g6, g7, g8, g9⟩ := h.opn
  obtain ⟨u1, u2, lbs, kbs, rfl, q1, q2, q3, q4, q5, q6, q7, q8, q9⟩ := h'.opn
  have hl1 := g9.len
  have hl2 := q9.len
  obtain ⟨_, rfl, cl⟩ := (lsames_ret g8 q8 g1 q1 g6).call rfl (by simp [pvs_cons, pvs_nil, pv_sl, lvsPure g8, lvsPure q8, g1, q1])
  refine out_of pf22_is (Nat.le_of_ble_eq_true rfl) ?_
  cases b1 : (k != k')
  case true =>
    simp only [pf22, ↓wpre, wset, wcore, ne_eq, if_true, if_false, exists_eq_left', true_implies, false_implies, exists_const, exists_eq_right, binA, intA, loadA, storeA, pickC, setAt, mapO, argsE, X.isC, resA, oneA, unA, boundA, eqiA, eqsA, fillA, fillE, ASt.fz, strA, Nat.reduceEqDiff, Nat.reduceLT, ↓reduceIte, reduceCtorEq, Nat.reduceAdd, Nat.reduceLeDiff, Int.reduceBEq, Int.reduceBNe, Int.reduceLT, Int.reduceLE, Int.reduceGT, Int.reduceGE, Nat.reduceDiv, Nat.reduceMul, Nat.reduceBEq, Nat.reduceMod, Nat.reduceSub, b1]
    have : k ≠ k' := by simpa using b1
    simp [this]
  have hk : k = k' := by simpa using b1
  subst hk
  cases b2 : (i != i')
  case true =>
    simp only [pf22, ↓wpre, wset, wcore, ne_eq, if_true, if_false, exists_eq_left', true_implies, false_implies, exists_const, exists_eq_right, binA, intA, loadA, storeA, pickC, setAt, mapO, argsE, X.isC, resA, oneA, unA, boundA, eqiA, eqsA, fillA, fillE, ASt.fz, strA, Nat.reduceEqDiff, Nat.reduceLT, ↓reduceIte, reduceCtorEq, Nat.reduceAdd, Nat.reduceLeDiff, Int.reduceBEq, Int.reduceBNe, Int.reduceLT, Int.reduceLE, Int.reduceGT, Int.reduceGE, Nat.reduceDiv, Nat.reduceMul, Nat.reduceBEq, Nat.reduceMod, Nat.reduceSub, b1, b2]
    have : i ≠ i' := by simpa using b2
    simp [this]
  have hi : i = i' := by simpa using b2
  subst hi
  cases b3 : (n.toList == n'.toList)
  case false =>
    simp only [pf22, ↓wpre, wset, wcore, ne_eq, if_true, if_false, exists_eq_left', true_implies, false_implies, exists_const, exists_eq_right, binA, intA, loadA, storeA, pickC, setAt, mapO, argsE, X.isC, resA, oneA, unA, boundA, eqiA, eqsA, fillA, fillE, ASt.fz, strA, Nat.reduceEqDiff, Nat.reduceLT, ↓reduceIte, reduceCtorEq, Nat.reduceAdd, Nat.reduceLeDiff, Int.reduceBEq, Int.reduceBNe, Int.reduceLT, Int.reduceLE, Int.reduceGT, Int.reduceGE, Nat.reduceDiv, Nat.reduceMul, Nat.reduceBEq, Nat.reduceMod, Nat.reduceSub, b1, b2, b3]
    have : n ≠ n' := by rintro rfl; simp at b3
    simp [this]
  have hn : n = n' := toList_inj (by simpa using b3)
  subst hn
  cases b4 : decide (ls = ls')
  case false =>
    simp only [pf22, ↓wpre, wset, wcore, ne_eq, if_true, if_false, exists_eq_left', true_implies, false_implies, exists_const, exists_eq_right, binA, intA, loadA, storeA, pickC, setAt, mapO, argsE, X.isC, resA, oneA, unA, boundA, eqiA, eqsA, fillA, fillE, ASt.fz, strA, Nat.reduceEqDiff, Nat.reduceLT, ↓reduceIte, reduceCtorEq, Nat.reduceAdd, Nat.reduceLeDiff, Int.reduceBEq, Int.reduceBNe, Int.reduceLT, Int.reduceLE, Int.reduceGT, Int.reduceGE, Nat.reduceDiv, Nat.reduceMul, Nat.reduceBEq, Nat.reduceMod, Nat.reduceSub, b1, b2, b3, cl, b4]
    have : ls ≠ ls' := by simpa using b4
    simp [this]
  have hls : ls = ls' := by simpa using b4
  subst hls
  cases b5 : ((kas.length : Int) != kbs.length)
  case true =>
    simp only [pf22, ↓wpre, wset, wcore, ne_eq, if_true, if_false, exists_eq_left', true_implies, false_implies, exists_const, exists_eq_right, binA, intA, loadA, storeA, pickC, setAt, mapO, argsE, X.isC, resA, oneA, unA, boundA, eqiA, eqsA, fillA, fillE, ASt.fz, strA, Nat.reduceEqDiff, Nat.reduceLT, ↓reduceIte, reduceCtorEq, Nat.reduceAdd, Nat.reduceLeDiff, Int.reduceBEq, Int.reduceBNe, Int.reduceLT, Int.reduceLE, Int.reduceGT, Int.reduceGE, Nat.reduceDiv, Nat.reduceMul, Nat.reduceBEq, Nat.reduceMod, Nat.reduceSub, b1, b2, b3, cl, b4, b5]
    have : kids ≠ kids' := by rintro rfl; simp at b5; omega
    simp [this]
  have hlen : kbs.length = kas.length := by simp at b5; omega
  simp only [pf22, ↓wpre, wset, wcore, ne_eq, if_true, if_false, exists_eq_left', true_implies, false_implies, exists_const, exists_eq_right, binA, intA, loadA, storeA, pickC, setAt, mapO, argsE, X.isC, resA, oneA, unA, boundA, eqiA, eqsA, fillA, fillE, ASt.fz, strA, Nat.reduceEqDiff, Nat.reduceLT, ↓reduceIte, reduceCtorEq, Nat.reduceAdd, Nat.reduceLeDiff, Int.reduceBEq, Int.reduceBNe, Int.reduceLT, Int.reduceLE, Int.reduceGT, Int.reduceGE, Nat.reduceDiv, Nat.reduceMul, Nat.reduceBEq, Nat.reduceMod, Nat.reduceSub, b1, b2, b3, cl, b4, b5]
  refine W_loopE (fun j => kas.length - j) (fun j E H T => H = [.cells false [.int k, .int i, .str n, .sl las t1, .sl kas t2], .cells false [.int k, .int i, .str n, .sl lbs u1, .sl kbs u2]] ∧ E 2 = .ptr 0 0 ∧ E 3 = .ptr 1 0 ∧ E 5 = .int (j : Nat) ∧ j ≤ kas.length ∧ kids.take j = kids'.take j) ?_ 0 ⟨rfl, rfl, rfl, rfl, Nat.zero_le _, by simp⟩
  rintro j E H T ⟨rfl, e2, e3, e5, hj, hq⟩
  rcases Nat.lt_or_ge j kas.length with hlt | hge
  · have hdec : decide ((j : Int) < kas.length) = true := by simpa using hlt
    obtain ⟨x, c1, d0, d1, d3, d4, d5, d6, d7, d8⟩ := g9.get tmAgg hlt
    obtain ⟨y, c2, f0, f1, f3, f4, f5, f6, f7, f8⟩ := q9.get tmAgg (i := j) (by omega)
    have hall := g9.all tmAgg
    have hall2 := q9.all tmAgg
    obtain ⟨_, rfl, cr⟩ := (ih x d3 d8 f8).call rfl (by simp [pvs_cons, pvs_nil, tmPure _ d8, tmPure _ f8])
    cases b6 : decide (x = y)
    · have hxy : x ≠ y := by simpa using b6
      simp only [↓wpre, wset, wcore, ne_eq, if_true, if_false, exists_eq_left', true_implies, false_implies, exists_const, exists_eq_right, binA, intA, loadA, storeA, pickC, setAt, mapO, argsE, X.isC, resA, oneA, unA, boundA, eqiA, eqsA, fillA, fillE, ASt.fz, strA, Nat.reduceEqDiff, Nat.reduceLT, ↓reduceIte, reduceCtorEq, Nat.reduceAdd, Nat.reduceLeDiff, Int.reduceBEq, Int.reduceBNe, Int.reduceLT, Int.reduceLE, Int.reduceGT, Int.reduceGE, Nat.reduceDiv, Nat.reduceMul, Nat.reduceBEq, Nat.reduceMod, Nat.reduceSub, e2, e3, e5, hdec, d4, d5, d6, f4, f5, f6, hall, hall2, cr, b6]
      have : kids ≠ kids' := list_ne d0 f0 hxy
      simp [this]
    · have hxy : x = y := by simpa using b6
      subst hxy
      simp only [↓wpre, wset, wcore, ne_eq, if_true, if_false, exists_eq_left', true_implies, false_implies, exists_const, exists_eq_right, binA, intA, loadA, storeA, pickC, setAt, mapO, argsE, X.isC, resA, oneA, unA, boundA, eqiA, eqsA, fillA, fillE, ASt.fz, strA, Nat.reduceEqDiff, Nat.reduceLT, ↓reduceIte, reduceCtorEq, Nat.reduceAdd, Nat.reduceLeDiff, Int.reduceBEq, Int.reduceBNe, Int.reduceLT, Int.reduceLE, Int.reduceGT, Int.reduceGE, Nat.reduceDiv, Nat.reduceMul, Nat.reduceBEq, Nat.reduceMod, Nat.reduceSub, e2, e3, e5, hdec, d4, d5, d6, f4, f5, f6, hall, hall2, cr, b6]
      exact EQ_in ⟨j + 1, by omega, rfl, e2, e3, next_ixv (by unfold lenB at *; omega), by omega, take_step hq d0 f0⟩
  · have hdec : decide ((j : Int) < kas.length) = false := by simpa using hge
    simp only [↓wpre, wset, wcore, ne_eq, if_true, if_false, exists_eq_left', true_implies, false_implies, exists_const, exists_eq_right, binA, intA, loadA, storeA, pickC, setAt, mapO, argsE, X.isC, resA, oneA, unA, boundA, eqiA, eqsA, fillA, fillE, ASt.fz, strA, Nat.reduceEqDiff, Nat.reduceLT, ↓reduceIte, reduceCtorEq, Nat.reduceAdd, Nat.reduceLeDiff, Int.reduceBEq, Int.reduceBNe, Int.reduceLT, Int.reduceLE, Int.reduceGT, Int.reduceGE, Nat.reduceDiv, Nat.reduceMul, Nat.reduceBEq, Nat.reduceMod, Nat.reduceSub, e2, e3, e5, hdec]
    rw [List.take_of_length_le (by omega), List.take_of_length_le (by omega)] at hq
    simp [hq]
end Go.Proofs.Eng
