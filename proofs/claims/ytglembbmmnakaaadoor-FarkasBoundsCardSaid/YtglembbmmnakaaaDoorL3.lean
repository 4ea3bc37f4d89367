/- FarkasBounds holds of all arguments. No conditions beyond those in the theorems. -/
import Derived.Test.YtglembbmmnakaaaDoorT4
import Derived.Test.YtglembbmmnakaaaDoorF17
import Derived.Test.YtglembbmmnakaaaDoorL4
set_option linter.all false
set_option linter.deprecated false
set_option linter.unnecessarySimpa false
set_option linter.unusedVariables false
set_option linter.unusedSimpArgs false
set_option linter.defProp false
namespace Go.Proofs.Eng
open Go Go.Proofs
set_option maxRecDepth 100000
set_option maxHeartbeats 16000000
def BIs (p : Int × Int) (a : AV) : Prop := a = .agg [.v (.int .i16 p.1), .v (.int .i16 p.2)] ∧ (-32768 ≤ p.1 ∧ p.1 ≤ 32767) ∧ -32768 ≤ p.2 ∧ p.2 ≤ 32767
theorem biAgg : AggR BIs 2 := ⟨fun {x a} h => by obtain ⟨rfl, _⟩ := h; exact ⟨_, rfl, rfl, rfl⟩, fun {x a} h => by obtain ⟨rfl, _⟩ := h; simp [pureAV, pureAVs]⟩
def rowB (p : Int × Int) : List Int := [p.1, p.2]
def aB (r : List Int) : Bool := decide (gt0 r 0 = 0) && decide (gt0 r 1 > 0)
def pB (r s : List Int) : Bool := decide (gt0 r 0 > 0) && decide (gt0 s 0 < 0) && decide (gt0 r 0 * gt0 s 1 - gt0 s 0 * gt0 r 1 > 0)
theorem noneR_def (l : List (List Int)) : noneR l = l.any fun r => aB r || l.any (pB r) := rfl
theorem any_next {α : Type} {P : α → Bool} {l : List α} {k : Nat} {x : α} (h : l[k]? = some x) : (l.take (k + 1)).any P = ((l.take k).any P || P x) := by
  rw [List.take_add_one, h, List.any_append]
  simp
theorem right_two {rows : List (List Int)} (h1 : rows.length ≤ 20) (h2 : ∀ r ∈ rows, r.length = 2) (h3 : ∀ r ∈ rows, Bnd 1000000 r) : rightR rows = 0 := by
  have hhd : rows ≠ [] → (rows.headD []).length = 2 := fun h => by
    cases rows with
    | nil => exact absurd rfl h
    | cons r rows => exact h2 r (by simp)
  unfold rightR
  rw [if_neg (show ¬ rows.length > 24 by omega)]
  have e1 : rows.any (badLen (rows.headD []).length) = false := by
    rw [List.any_eq_false]
    intro r hr
    have := hhd (List.ne_nil_of_mem hr)
    have := h2 r hr
    simp only [badLen, Bool.or_eq_true, decide_eq_true_eq]
    omega
  have e2 : rows.any (fun r => r.any badNum) = false := by
    rw [List.any_eq_false]
    intro r hr
    rw [Bool.not_eq_true, List.any_eq_false]
    intro n hn
    have := h3 r hr n hn
    simp only [badNum, Bool.or_eq_true, decide_eq_true_eq]
    omega
  rw [if_neg (by rw [e1]; exact Bool.false_ne_true), if_neg (fun h => by have := hhd (fun e => by rw [e] at h; simp at h); omega), if_neg (by rw [e2]; exact Bool.false_ne_true)]
theorem prod16 {x y : Int} (hx : -32768 ≤ x ∧ x ≤ 32767) (hy : -32768 ≤ y ∧ y ≤ 32767) : -1073741824 ≤ x * y ∧ x * y ≤ 1073741824 := by
  have h : (x * y).natAbs ≤ 32768 * 32768 := by rw [Int.natAbs_mul]; exact Nat.mul_le_mul (by omega) (by omega)
  omega
theorem rowB_at {l : List (Int × Int)} {bl : List AV} {i : Nat} (h : LIs RowIs (l.map rowB) bl) (hi : i < bl.length) : ∃ p tx, l[i]? = some p ∧ bl[i]? = some (.sl [.int p.1, .int p.2] tx) ∧ (l.map rowB)[i]? = some (rowB p) := by
  obtain ⟨x, tx, g1, g2, g3, _⟩ := row_get h hi
  rw [List.getElem?_map] at g1
  obtain ⟨p, hp, rfl⟩ := Option.map_eq_some_iff.1 g1
  exact ⟨p, tx, hp, g3, by rw [List.getElem?_map, hp]; rfl⟩
theorem bounds_ret {l : List (Int × Int)} {al : List AV} {t : Tl} (h : LIs BIs l al) (ht : t.pure = true) (hl : al.length ≤ lenB) : Out md pfs 3 [.sl al t] (· = .bool true) fun _ => False := by
  have hln := h.len
  have hall := h.all biAgg
  obtain ⟨_, rfl, aw⟩ := awake_ret.call rfl (by simp [pvs_nil])
  refine out_of pf3_is (Nat.le_of_ble_eq_true rfl) ?_
  by_cases h20 : al.length > 20
  · have d1 : decide ((al.length : Int) > 20) = true := decide_eq_true (by omega)
    simp only [pf3, ↓wpre, wset, wcore, ne_eq, if_true, if_false, exists_eq_left', true_implies, false_implies, exists_const, exists_eq_right, binA, intA, loadA, storeA, pickC, setAt, mapO, argsE, X.isC, resA, oneA, unA, boundA, eqiA, eqsA, fillA, fillE, ASt.fz, strA, Nat.reduceEqDiff, Nat.reduceLT, ↓reduceIte, reduceCtorEq, Nat.reduceAdd, Nat.reduceLeDiff, Int.reduceBEq, Int.reduceBNe, Int.reduceLT, Int.reduceLE, Int.reduceGT, Int.reduceGE, Nat.reduceDiv, Nat.reduceMul, Nat.reduceBEq, Nat.reduceMod, Nat.reduceSub, d1, aw]
  have d1 : decide ((al.length : Int) > 20) = false := decide_eq_false (by omega)
  simp only [pf3, ↓wpre, wset, wcore, ne_eq, if_true, if_false, exists_eq_left', true_implies, false_implies, exists_const, exists_eq_right, binA, intA, loadA, storeA, pickC, setAt, mapO, argsE, X.isC, resA, oneA, unA, boundA, eqiA, eqsA, fillA, fillE, ASt.fz, strA, Nat.reduceEqDiff, Nat.reduceLT, ↓reduceIte, reduceCtorEq, Nat.reduceAdd, Nat.reduceLeDiff, Int.reduceBEq, Int.reduceBNe, Int.reduceLT, Int.reduceLE, Int.reduceGT, Int.reduceGE, Nat.reduceDiv, Nat.reduceMul, Nat.reduceBEq, Nat.reduceMod, Nat.reduceSub, d1]
  refine W_loopE (fun k => al.length - k) (fun k E H T => ∃ bl tt, E 3 = .sl bl tt ∧ E 18 = .sl al t ∧ E 19 = .int al.length ∧ E 20 = .int (k : Nat) ∧ k ≤ al.length ∧ LIs RowIs ((l.take k).map rowB) bl ∧ App T bl tt) ?_ 0 ⟨[], .nil, rfl, rfl, rfl, rfl, Nat.zero_le _, trivial, app_start _⟩
  rintro k E H T ⟨bl, tt, e3, e18, e19, e20, hk, hL, hA⟩
  have hbl := hL.len
  rw [List.length_map, List.length_take] at hbl
  rcases Nat.lt_or_ge k al.length with hlt | hge
  · have hdec : decide ((k : Int) < (al.length : Int)) = true := by simpa using hlt
    obtain ⟨p, c, g1, g2, g3, g4, g5, g6, g7, hc, hp1, hp2⟩ := h.get biAgg hlt
    cases hc
    have w1 : IntKind.i64.wrap p.1 = p.1 := wrap_in (by unfold Eng.in64; omega)
    have w2 : IntKind.i64.wrap p.2 = p.2 := wrap_in (by unfold Eng.in64; omega)
    obtain ⟨t', T', ap, hA', _⟩ := app_one (es := 1) (x := .sl [.int p.1, .int p.2] (.cap 2)) hA (by unfold capB; omega) (rows_all hL) rfl rfl
    simp only [↓wpre, wset, wcore, ne_eq, if_true, if_false, exists_eq_left', true_implies, false_implies, exists_const, exists_eq_right, binA, intA, loadA, storeA, pickC, setAt, mapO, argsE, X.isC, resA, oneA, unA, boundA, eqiA, eqsA, fillA, fillE, ASt.fz, strA, Nat.reduceEqDiff, Nat.reduceLT, ↓reduceIte, reduceCtorEq, Nat.reduceAdd, Nat.reduceLeDiff, Int.reduceBEq, Int.reduceBNe, Int.reduceLT, Int.reduceLE, Int.reduceGT, Int.reduceGE, Nat.reduceDiv, Nat.reduceMul, Nat.reduceBEq, Nat.reduceMod, Nat.reduceSub, List.length_append, List.append_assoc, app_get_len, app_get_add, app_set_len, app_set_add, e3, e18, e19, e20, hdec, g4, hall, w1, w2, ap]
    exact EQ_in ⟨k + 1, by omega, _, t', rfl, e18, e19, next_ixv (by omega), by omega, by
      rw [List.take_add_one, g1, List.map_append]
      exact hL.append (.one ⟨.cap 2, rfl, rfl, by show 2 ≤ lenB; unfold lenB; omega, fun n hn => by
        simp only [rowB, List.mem_cons, List.not_mem_nil, or_false] at hn
        unfold Eng.in64
        rcases hn with rfl | rfl <;> omega⟩), hA'⟩
  have hdec : decide ((k : Int) < (al.length : Int)) = false := by simpa using hge
  rw [List.take_of_length_le (by omega)] at hL
  have hb2 : bl.length = al.length := by omega
  have hba := rows_all hL
  simp only [↓wpre, wset, wcore, ne_eq, if_true, if_false, exists_eq_left', true_implies, false_implies, exists_const, exists_eq_right, binA, intA, loadA, storeA, pickC, setAt, mapO, argsE, X.isC, resA, oneA, unA, boundA, eqiA, eqsA, fillA, fillE, ASt.fz, strA, Nat.reduceEqDiff, Nat.reduceLT, ↓reduceIte, reduceCtorEq, Nat.reduceAdd, Nat.reduceLeDiff, Int.reduceBEq, Int.reduceBNe, Int.reduceLT, Int.reduceLE, Int.reduceGT, Int.reduceGE, Nat.reduceDiv, Nat.reduceMul, Nat.reduceBEq, Nat.reduceMod, Nat.reduceSub, e3, e18, e19, e20, hdec]
  clear e18 e19 e20 hdec hge hk hbl
  have hbnd : ∀ p ∈ l, (-32768 ≤ p.1 ∧ p.1 ≤ 32767) ∧ -32768 ≤ p.2 ∧ p.2 ≤ 32767 := fun p hp => by
    obtain ⟨i, hi⟩ := List.mem_iff_getElem?.1 hp
    obtain ⟨p', c, g1, g2, g3, g4, g5, g6, g7, hc, hp1, hp2⟩ := h.get biAgg (i := i) (by have := (List.getElem?_eq_some_iff.1 hi).1; omega)
    rw [hi] at g1; cases g1
    exact ⟨hp1, hp2⟩
  generalize hrows : l.map rowB = rows at *
  refine W_loopE (fun k => bl.length - k) (fun k E H T' => T' = T ∧ E 3 = .sl bl tt ∧ E 6 = .bool ((rows.take k).any fun r => aB r || rows.any (pB r)) ∧ E 35 = .sl bl tt ∧ E 36 = .int bl.length ∧ E 37 = .int (k : Nat) ∧ k ≤ bl.length) ?_ 0 ⟨rfl, e3, rfl, rfl, rfl, rfl, Nat.zero_le _⟩
  clear e3
  rintro k E H T' ⟨rfl, e3, e6, e35, e36, e37, hk⟩
  rcases Nat.lt_or_ge k bl.length with hlt | hge
  · have hdec : decide ((k : Int) < (bl.length : Int)) = true := by simpa using hlt
    obtain ⟨p, tx, g1, g2, g3⟩ := rowB_at (by rw [hrows]; exact hL) hlt
    rw [hrows] at g3
    have hpb := hbnd p (List.mem_of_getElem? g1)
    have hA0 : aB (rowB p) = ((p.1 == 0) && decide (p.2 > 0)) := by
      show (decide (p.1 = 0) && decide (p.2 > 0)) = _
      congr 1
    have hinner : ∀ v, v = ((rows.take k).any (fun r => aB r || rows.any (pB r)) || aB (rowB p)) → AV.bool v = .bool ((rows.take k).any (fun r => aB r || rows.any (pB r)) || aB (rowB p) || (rows.take 0).any (pB (rowB p))) := fun v h => by rw [h]; simp
    have hcases : ((rows.take k).any (fun r => aB r || rows.any (pB r)) = true) ∨ ((rows.take k).any (fun r => aB r || rows.any (pB r)) = false ∧ (p.1 == 0) = false) ∨ ((rows.take k).any (fun r => aB r || rows.any (pB r)) = false ∧ (p.1 == 0) = true) := by
      cases (rows.take k).any (fun r => aB r || rows.any (pB r)) <;> cases (p.1 == 0) <;> simp
    have hnext := any_next (P := fun r => aB r || rows.any (pB r)) g3
    rcases hcases with hP | ⟨hP, h1⟩ | ⟨hP, h1⟩
    · rw [hP] at e6
      simp only [↓wpre, wset, wcore, ne_eq, if_true, if_false, exists_eq_left', true_implies, false_implies, exists_const, exists_eq_right, binA, intA, loadA, storeA, pickC, setAt, mapO, argsE, X.isC, resA, oneA, unA, boundA, eqiA, eqsA, fillA, fillE, ASt.fz, strA, Nat.reduceEqDiff, Nat.reduceLT, ↓reduceIte, reduceCtorEq, Nat.reduceAdd, Nat.reduceLeDiff, Int.reduceBEq, Int.reduceBNe, Int.reduceLT, Int.reduceLE, Int.reduceGT, Int.reduceGE, Nat.reduceDiv, Nat.reduceMul, Nat.reduceBEq, Nat.reduceMod, Nat.reduceSub, List.length_append, List.append_assoc, app_get_len, app_get_add, app_set_len, app_set_add, e3, e6, e35, e36, e37, hdec, g2, hba]
      refine W_loopE (fun m => bl.length - m) (fun m E H T'' => T'' = T' ∧ E 3 = .sl bl tt ∧ E 6 = .bool ((rows.take k).any (fun r => aB r || rows.any (pB r)) || aB (rowB p) || (rows.take m).any (pB (rowB p))) ∧ E 8 = .sl [.int p.1, .int p.2] tx ∧ E 35 = .sl bl tt ∧ E 36 = .int bl.length ∧ E 37 = .int (k : Nat) ∧ E 54 = .sl bl tt ∧ E 55 = .int bl.length ∧ E 56 = .int (m : Nat) ∧ m ≤ bl.length) ?_ 0 ⟨rfl, e3, hinner _ (by rw [hP, hA0]; simp [hP]), rfl, e35, e36, e37, rfl, rfl, rfl, Nat.zero_le _⟩
      clear e3 e6 e35 e36 e37 hdec
      rintro m E H T'' ⟨rfl, e3, e6, e8, e35, e36, e37, e54, e55, e56, hm⟩
      rcases Nat.lt_or_ge m bl.length with hml | hmg
      · have hdec : decide ((m : Int) < (bl.length : Int)) = true := by simpa using hml
        obtain ⟨q, tq, f1, f2, f3⟩ := rowB_at (by rw [hrows]; exact hL) hml
        rw [hrows] at f3
        have hqb := hbnd q (List.mem_of_getElem? f1)
        have hin := any_next (P := pB (rowB p)) f3
        have hpB : pB (rowB p) (rowB q) = (decide (p.1 > 0) && decide (q.1 < 0) && decide (p.1 * q.2 - q.1 * p.2 > 0)) := rfl
        have b1 := prod16 hpb.1 hqb.2
        have b2 := prod16 hqb.1 hpb.2
        have x1 : IntKind.i64.wrap (p.1 * q.2) = p.1 * q.2 := wrap_in (by unfold Eng.in64; omega)
        have x2 : IntKind.i64.wrap (q.1 * p.2) = q.1 * p.2 := wrap_in (by unfold Eng.in64; omega)
        have x3 : IntKind.i64.wrap (p.1 * q.2 - q.1 * p.2) = p.1 * q.2 - q.1 * p.2 := wrap_in (by unfold Eng.in64; omega)
        have hfin : ∀ v, v = ((rows.take k).any (fun r => aB r || rows.any (pB r)) || aB (rowB p) || (rows.take m).any (pB (rowB p)) || pB (rowB p) (rowB q)) → AV.bool v = .bool ((rows.take k).any (fun r => aB r || rows.any (pB r)) || aB (rowB p) || (rows.take (m + 1)).any (pB (rowB p))) := fun v h => by rw [h, hin]; simp only [Bool.or_assoc]
        cases hQ : ((rows.take k).any (fun r => aB r || rows.any (pB r)) || aB (rowB p) || (rows.take m).any (pB (rowB p)))
        · rw [hQ] at e6 hfin
          cases c2 : decide (p.1 > 0)
          · simp only [↓wpre, wset, wcore, ne_eq, if_true, if_false, exists_eq_left', true_implies, false_implies, exists_const, exists_eq_right, binA, intA, loadA, storeA, pickC, setAt, mapO, argsE, X.isC, resA, oneA, unA, boundA, eqiA, eqsA, fillA, fillE, ASt.fz, strA, Nat.reduceEqDiff, Nat.reduceLT, ↓reduceIte, reduceCtorEq, Nat.reduceAdd, Nat.reduceLeDiff, Int.reduceBEq, Int.reduceBNe, Int.reduceLT, Int.reduceLE, Int.reduceGT, Int.reduceGE, Nat.reduceDiv, Nat.reduceMul, Nat.reduceBEq, Nat.reduceMod, Nat.reduceSub, List.length_append, List.append_assoc, app_get_len, app_get_add, app_set_len, app_set_add, e3, e6, e8, e35, e36, e37, e54, e55, e56, hdec, f2, hba, c2]
            exact EQ_in ⟨m + 1, by omega, rfl, e3, hfin _ (by rw [hpB, c2]; rfl), e8, e35, e36, e37, e54, e55, next_ixv (by omega), by omega⟩
          · cases c3 : decide (q.1 < 0)
            · simp only [↓wpre, wset, wcore, ne_eq, if_true, if_false, exists_eq_left', true_implies, false_implies, exists_const, exists_eq_right, binA, intA, loadA, storeA, pickC, setAt, mapO, argsE, X.isC, resA, oneA, unA, boundA, eqiA, eqsA, fillA, fillE, ASt.fz, strA, Nat.reduceEqDiff, Nat.reduceLT, ↓reduceIte, reduceCtorEq, Nat.reduceAdd, Nat.reduceLeDiff, Int.reduceBEq, Int.reduceBNe, Int.reduceLT, Int.reduceLE, Int.reduceGT, Int.reduceGE, Nat.reduceDiv, Nat.reduceMul, Nat.reduceBEq, Nat.reduceMod, Nat.reduceSub, List.length_append, List.append_assoc, app_get_len, app_get_add, app_set_len, app_set_add, e3, e6, e8, e35, e36, e37, e54, e55, e56, hdec, f2, hba, c2, c3]
              exact EQ_in ⟨m + 1, by omega, rfl, e3, hfin _ (by rw [hpB, c2, c3]; rfl), e8, e35, e36, e37, e54, e55, next_ixv (by omega), by omega⟩
            · simp only [↓wpre, wset, wcore, ne_eq, if_true, if_false, exists_eq_left', true_implies, false_implies, exists_const, exists_eq_right, binA, intA, loadA, storeA, pickC, setAt, mapO, argsE, X.isC, resA, oneA, unA, boundA, eqiA, eqsA, fillA, fillE, ASt.fz, strA, Nat.reduceEqDiff, Nat.reduceLT, ↓reduceIte, reduceCtorEq, Nat.reduceAdd, Nat.reduceLeDiff, Int.reduceBEq, Int.reduceBNe, Int.reduceLT, Int.reduceLE, Int.reduceGT, Int.reduceGE, Nat.reduceDiv, Nat.reduceMul, Nat.reduceBEq, Nat.reduceMod, Nat.reduceSub, List.length_append, List.append_assoc, app_get_len, app_get_add, app_set_len, app_set_add, e3, e6, e8, e35, e36, e37, e54, e55, e56, hdec, f2, hba, c2, c3, x1, x2, x3]
              exact EQ_in ⟨m + 1, by omega, rfl, e3, hfin _ (by rw [hpB, c2, c3]; rfl), e8, e35, e36, e37, e54, e55, next_ixv (by omega), by omega⟩
        · rw [hQ] at e6 hfin
          simp only [↓wpre, wset, wcore, ne_eq, if_true, if_false, exists_eq_left', true_implies, false_implies, exists_const, exists_eq_right, binA, intA, loadA, storeA, pickC, setAt, mapO, argsE, X.isC, resA, oneA, unA, boundA, eqiA, eqsA, fillA, fillE, ASt.fz, strA, Nat.reduceEqDiff, Nat.reduceLT, ↓reduceIte, reduceCtorEq, Nat.reduceAdd, Nat.reduceLeDiff, Int.reduceBEq, Int.reduceBNe, Int.reduceLT, Int.reduceLE, Int.reduceGT, Int.reduceGE, Nat.reduceDiv, Nat.reduceMul, Nat.reduceBEq, Nat.reduceMod, Nat.reduceSub, List.length_append, List.append_assoc, app_get_len, app_get_add, app_set_len, app_set_add, e3, e6, e8, e35, e36, e37, e54, e55, e56, hdec, f2, hba]
          exact EQ_in ⟨m + 1, by omega, rfl, e3, hfin _ (by simp), e8, e35, e36, e37, e54, e55, next_ixv (by omega), by omega⟩
      · have hdec : decide ((m : Int) < (bl.length : Int)) = false := by simpa using hmg
        rw [List.take_of_length_le (show rows.length ≤ m by have := hL.len; omega)] at e6
        simp only [↓wpre, wset, wcore, ne_eq, if_true, if_false, exists_eq_left', true_implies, false_implies, exists_const, exists_eq_right, binA, intA, loadA, storeA, pickC, setAt, mapO, argsE, X.isC, resA, oneA, unA, boundA, eqiA, eqsA, fillA, fillE, ASt.fz, strA, Nat.reduceEqDiff, Nat.reduceLT, ↓reduceIte, reduceCtorEq, Nat.reduceAdd, Nat.reduceLeDiff, Int.reduceBEq, Int.reduceBNe, Int.reduceLT, Int.reduceLE, Int.reduceGT, Int.reduceGE, Nat.reduceDiv, Nat.reduceMul, Nat.reduceBEq, Nat.reduceMod, Nat.reduceSub, e3, e6, e8, e35, e36, e37, e54, e55, e56, hdec]
        exact EQ_in ⟨k + 1, by omega, rfl, e3, by rw [hnext, ← Bool.or_assoc]; exact e6, e35, e36, next_ixv (by omega), by omega⟩
    · rw [hP] at e6
      simp only [↓wpre, wset, wcore, ne_eq, if_true, if_false, exists_eq_left', true_implies, false_implies, exists_const, exists_eq_right, binA, intA, loadA, storeA, pickC, setAt, mapO, argsE, X.isC, resA, oneA, unA, boundA, eqiA, eqsA, fillA, fillE, ASt.fz, strA, Nat.reduceEqDiff, Nat.reduceLT, ↓reduceIte, reduceCtorEq, Nat.reduceAdd, Nat.reduceLeDiff, Int.reduceBEq, Int.reduceBNe, Int.reduceLT, Int.reduceLE, Int.reduceGT, Int.reduceGE, Nat.reduceDiv, Nat.reduceMul, Nat.reduceBEq, Nat.reduceMod, Nat.reduceSub, List.length_append, List.append_assoc, app_get_len, app_get_add, app_set_len, app_set_add, e3, e6, e35, e36, e37, hdec, g2, hba, h1]
      refine W_loopE (fun m => bl.length - m) (fun m E H T'' => T'' = T' ∧ E 3 = .sl bl tt ∧ E 6 = .bool ((rows.take k).any (fun r => aB r || rows.any (pB r)) || aB (rowB p) || (rows.take m).any (pB (rowB p))) ∧ E 8 = .sl [.int p.1, .int p.2] tx ∧ E 35 = .sl bl tt ∧ E 36 = .int bl.length ∧ E 37 = .int (k : Nat) ∧ E 54 = .sl bl tt ∧ E 55 = .int bl.length ∧ E 56 = .int (m : Nat) ∧ m ≤ bl.length) ?_ 0 ⟨rfl, e3, hinner _ (by rw [hP, hA0]; simp [h1]), rfl, e35, e36, e37, rfl, rfl, rfl, Nat.zero_le _⟩
      clear e3 e6 e35 e36 e37 hdec
      rintro m E H T'' ⟨rfl, e3, e6, e8, e35, e36, e37, e54, e55, e56, hm⟩
      rcases Nat.lt_or_ge m bl.length with hml | hmg
      · have hdec : decide ((m : Int) < (bl.length : Int)) = true := by simpa using hml
        obtain ⟨q, tq, f1, f2, f3⟩ := rowB_at (by rw [hrows]; exact hL) hml
        rw [hrows] at f3
        have hqb := hbnd q (List.mem_of_getElem? f1)
        have hin := any_next (P := pB (rowB p)) f3
        have hpB : pB (rowB p) (rowB q) = (decide (p.1 > 0) && decide (q.1 < 0) && decide (p.1 * q.2 - q.1 * p.2 > 0)) := rfl
        have b1 := prod16 hpb.1 hqb.2
        have b2 := prod16 hqb.1 hpb.2
        have x1 : IntKind.i64.wrap (p.1 * q.2) = p.1 * q.2 := wrap_in (by unfold Eng.in64; omega)
        have x2 : IntKind.i64.wrap (q.1 * p.2) = q.1 * p.2 := wrap_in (by unfold Eng.in64; omega)
        have x3 : IntKind.i64.wrap (p.1 * q.2 - q.1 * p.2) = p.1 * q.2 - q.1 * p.2 := wrap_in (by unfold Eng.in64; omega)
        have hfin : ∀ v, v = ((rows.take k).any (fun r => aB r || rows.any (pB r)) || aB (rowB p) || (rows.take m).any (pB (rowB p)) || pB (rowB p) (rowB q)) → AV.bool v = .bool ((rows.take k).any (fun r => aB r || rows.any (pB r)) || aB (rowB p) || (rows.take (m + 1)).any (pB (rowB p))) := fun v h => by rw [h, hin]; simp only [Bool.or_assoc]
        cases hQ : ((rows.take k).any (fun r => aB r || rows.any (pB r)) || aB (rowB p) || (rows.take m).any (pB (rowB p)))
        · rw [hQ] at e6 hfin
          cases c2 : decide (p.1 > 0)
          · simp only [↓wpre, wset, wcore, ne_eq, if_true, if_false, exists_eq_left', true_implies, false_implies, exists_const, exists_eq_right, binA, intA, loadA, storeA, pickC, setAt, mapO, argsE, X.isC, resA, oneA, unA, boundA, eqiA, eqsA, fillA, fillE, ASt.fz, strA, Nat.reduceEqDiff, Nat.reduceLT, ↓reduceIte, reduceCtorEq, Nat.reduceAdd, Nat.reduceLeDiff, Int.reduceBEq, Int.reduceBNe, Int.reduceLT, Int.reduceLE, Int.reduceGT, Int.reduceGE, Nat.reduceDiv, Nat.reduceMul, Nat.reduceBEq, Nat.reduceMod, Nat.reduceSub, List.length_append, List.append_assoc, app_get_len, app_get_add, app_set_len, app_set_add, e3, e6, e8, e35, e36, e37, e54, e55, e56, hdec, f2, hba, c2]
            exact EQ_in ⟨m + 1, by omega, rfl, e3, hfin _ (by rw [hpB, c2]; rfl), e8, e35, e36, e37, e54, e55, next_ixv (by omega), by omega⟩
          · cases c3 : decide (q.1 < 0)
            · simp only [↓wpre, wset, wcore, ne_eq, if_true, if_false, exists_eq_left', true_implies, false_implies, exists_const, exists_eq_right, binA, intA, loadA, storeA, pickC, setAt, mapO, argsE, X.isC, resA, oneA, unA, boundA, eqiA, eqsA, fillA, fillE, ASt.fz, strA, Nat.reduceEqDiff, Nat.reduceLT, ↓reduceIte, reduceCtorEq, Nat.reduceAdd, Nat.reduceLeDiff, Int.reduceBEq, Int.reduceBNe, Int.reduceLT, Int.reduceLE, Int.reduceGT, Int.reduceGE, Nat.reduceDiv, Nat.reduceMul, Nat.reduceBEq, Nat.reduceMod, Nat.reduceSub, List.length_append, List.append_assoc, app_get_len, app_get_add, app_set_len, app_set_add, e3, e6, e8, e35, e36, e37, e54, e55, e56, hdec, f2, hba, c2, c3]
              exact EQ_in ⟨m + 1, by omega, rfl, e3, hfin _ (by rw [hpB, c2, c3]; rfl), e8, e35, e36, e37, e54, e55, next_ixv (by omega), by omega⟩
            · simp only [↓wpre, wset, wcore, ne_eq, if_true, if_false, exists_eq_left', true_implies, false_implies, exists_const, exists_eq_right, binA, intA, loadA, storeA, pickC, setAt, mapO, argsE, X.isC, resA, oneA, unA, boundA, eqiA, eqsA, fillA, fillE, ASt.fz, strA, Nat.reduceEqDiff, Nat.reduceLT, ↓reduceIte, reduceCtorEq, Nat.reduceAdd, Nat.reduceLeDiff, Int.reduceBEq, Int.reduceBNe, Int.reduceLT, Int.reduceLE, Int.reduceGT, Int.reduceGE, Nat.reduceDiv, Nat.reduceMul, Nat.reduceBEq, Nat.reduceMod, Nat.reduceSub, List.length_append, List.append_assoc, app_get_len, app_get_add, app_set_len, app_set_add, e3, e6, e8, e35, e36, e37, e54, e55, e56, hdec, f2, hba, c2, c3, x1, x2, x3]
              exact EQ_in ⟨m + 1, by omega, rfl, e3, hfin _ (by rw [hpB, c2, c3]; rfl), e8, e35, e36, e37, e54, e55, next_ixv (by omega), by omega⟩
        · rw [hQ] at e6 hfin
          simp only [↓wpre, wset, wcore, ne_eq, if_true, if_false, exists_eq_left', true_implies, false_implies, exists_const, exists_eq_right, binA, intA, loadA, storeA, pickC, setAt, mapO, argsE, X.isC, resA, oneA, unA, boundA, eqiA, eqsA, fillA, fillE, ASt.fz, strA, Nat.reduceEqDiff, Nat.reduceLT, ↓reduceIte, reduceCtorEq, Nat.reduceAdd, Nat.reduceLeDiff, Int.reduceBEq, Int.reduceBNe, Int.reduceLT, Int.reduceLE, Int.reduceGT, Int.reduceGE, Nat.reduceDiv, Nat.reduceMul, Nat.reduceBEq, Nat.reduceMod, Nat.reduceSub, List.length_append, List.append_assoc, app_get_len, app_get_add, app_set_len, app_set_add, e3, e6, e8, e35, e36, e37, e54, e55, e56, hdec, f2, hba]
          exact EQ_in ⟨m + 1, by omega, rfl, e3, hfin _ (by simp), e8, e35, e36, e37, e54, e55, next_ixv (by omega), by omega⟩
      · have hdec : decide ((m : Int) < (bl.length : Int)) = false := by simpa using hmg
        rw [List.take_of_length_le (show rows.length ≤ m by have := hL.len; omega)] at e6
        simp only [↓wpre, wset, wcore, ne_eq, if_true, if_false, exists_eq_left', true_implies, false_implies, exists_const, exists_eq_right, binA, intA, loadA, storeA, pickC, setAt, mapO, argsE, X.isC, resA, oneA, unA, boundA, eqiA, eqsA, fillA, fillE, ASt.fz, strA, Nat.reduceEqDiff, Nat.reduceLT, ↓reduceIte, reduceCtorEq, Nat.reduceAdd, Nat.reduceLeDiff, Int.reduceBEq, Int.reduceBNe, Int.reduceLT, Int.reduceLE, Int.reduceGT, Int.reduceGE, Nat.reduceDiv, Nat.reduceMul, Nat.reduceBEq, Nat.reduceMod, Nat.reduceSub, e3, e6, e8, e35, e36, e37, e54, e55, e56, hdec]
        exact EQ_in ⟨k + 1, by omega, rfl, e3, by rw [hnext, ← Bool.or_assoc]; exact e6, e35, e36, next_ixv (by omega), by omega⟩
    · rw [hP] at e6
      simp only [↓wpre, wset, wcore, ne_eq, if_true, if_false, exists_eq_left', true_implies, false_implies, exists_const, exists_eq_right, binA, intA, loadA, storeA, pickC, setAt, mapO, argsE, X.isC, resA, oneA, unA, boundA, eqiA, eqsA, fillA, fillE, ASt.fz, strA, Nat.reduceEqDiff, Nat.reduceLT, ↓reduceIte, reduceCtorEq, Nat.reduceAdd, Nat.reduceLeDiff, Int.reduceBEq, Int.reduceBNe, Int.reduceLT, Int.reduceLE, Int.reduceGT, Int.reduceGE, Nat.reduceDiv, Nat.reduceMul, Nat.reduceBEq, Nat.reduceMod, Nat.reduceSub, List.length_append, List.append_assoc, app_get_len, app_get_add, app_set_len, app_set_add, e3, e6, e35, e36, e37, hdec, g2, hba, h1]
      refine W_loopE (fun m => bl.length - m) (fun m E H T'' => T'' = T' ∧ E 3 = .sl bl tt ∧ E 6 = .bool ((rows.take k).any (fun r => aB r || rows.any (pB r)) || aB (rowB p) || (rows.take m).any (pB (rowB p))) ∧ E 8 = .sl [.int p.1, .int p.2] tx ∧ E 35 = .sl bl tt ∧ E 36 = .int bl.length ∧ E 37 = .int (k : Nat) ∧ E 54 = .sl bl tt ∧ E 55 = .int bl.length ∧ E 56 = .int (m : Nat) ∧ m ≤ bl.length) ?_ 0 ⟨rfl, e3, hinner _ (by rw [hP, hA0]; simp [h1]), rfl, e35, e36, e37, rfl, rfl, rfl, Nat.zero_le _⟩
      clear e3 e6 e35 e36 e37 hdec
      rintro m E H T'' ⟨rfl, e3, e6, e8, e35, e36, e37, e54, e55, e56, hm⟩
      rcases Nat.lt_or_ge m bl.length with hml | hmg
      · have hdec : decide ((m : Int) < (bl.length : Int)) = true := by simpa using hml
        obtain ⟨q, tq, f1, f2, f3⟩ := rowB_at (by rw [hrows]; exact hL) hml
        rw [hrows] at f3
        have hqb := hbnd q (List.mem_of_getElem? f1)
        have hin := any_next (P := pB (rowB p)) f3
        have hpB : pB (rowB p) (rowB q) = (decide (p.1 > 0) && decide (q.1 < 0) && decide (p.1 * q.2 - q.1 * p.2 > 0)) := rfl
        have b1 := prod16 hpb.1 hqb.2
        have b2 := prod16 hqb.1 hpb.2
        have x1 : IntKind.i64.wrap (p.1 * q.2) = p.1 * q.2 := wrap_in (by unfold Eng.in64; omega)
        have x2 : IntKind.i64.wrap (q.1 * p.2) = q.1 * p.2 := wrap_in (by unfold Eng.in64; omega)
        have x3 : IntKind.i64.wrap (p.1 * q.2 - q.1 * p.2) = p.1 * q.2 - q.1 * p.2 := wrap_in (by unfold Eng.in64; omega)
        have hfin : ∀ v, v = ((rows.take k).any (fun r => aB r || rows.any (pB r)) || aB (rowB p) || (rows.take m).any (pB (rowB p)) || pB (rowB p) (rowB q)) → AV.bool v = .bool ((rows.take k).any (fun r => aB r || rows.any (pB r)) || aB (rowB p) || (rows.take (m + 1)).any (pB (rowB p))) := fun v h => by rw [h, hin]; simp only [Bool.or_assoc]
        cases hQ : ((rows.take k).any (fun r => aB r || rows.any (pB r)) || aB (rowB p) || (rows.take m).any (pB (rowB p)))
        · rw [hQ] at e6 hfin
          cases c2 : decide (p.1 > 0)
          · simp only [↓wpre, wset, wcore, ne_eq, if_true, if_false, exists_eq_left', true_implies, false_implies, exists_const, exists_eq_right, binA, intA, loadA, storeA, pickC, setAt, mapO, argsE, X.isC, resA, oneA, unA, boundA, eqiA, eqsA, fillA, fillE, ASt.fz, strA, Nat.reduceEqDiff, Nat.reduceLT, ↓reduceIte, reduceCtorEq, Nat.reduceAdd, Nat.reduceLeDiff, Int.reduceBEq, Int.reduceBNe, Int.reduceLT, Int.reduceLE, Int.reduceGT, Int.reduceGE, Nat.reduceDiv, Nat.reduceMul, Nat.reduceBEq, Nat.reduceMod, Nat.reduceSub, List.length_append, List.append_assoc, app_get_len, app_get_add, app_set_len, app_set_add, e3, e6, e8, e35, e36, e37, e54, e55, e56, hdec, f2, hba, c2]
            exact EQ_in ⟨m + 1, by omega, rfl, e3, hfin _ (by rw [hpB, c2]; rfl), e8, e35, e36, e37, e54, e55, next_ixv (by omega), by omega⟩
          · cases c3 : decide (q.1 < 0)
            · simp only [↓wpre, wset, wcore, ne_eq, if_true, if_false, exists_eq_left', true_implies, false_implies, exists_const, exists_eq_right, binA, intA, loadA, storeA, pickC, setAt, mapO, argsE, X.isC, resA, oneA, unA, boundA, eqiA, eqsA, fillA, fillE, ASt.fz, strA, Nat.reduceEqDiff, Nat.reduceLT, ↓reduceIte, reduceCtorEq, Nat.reduceAdd, Nat.reduceLeDiff, Int.reduceBEq, Int.reduceBNe, Int.reduceLT, Int.reduceLE, Int.reduceGT, Int.reduceGE, Nat.reduceDiv, Nat.reduceMul, Nat.reduceBEq, Nat.reduceMod, Nat.reduceSub, List.length_append, List.append_assoc, app_get_len, app_get_add, app_set_len, app_set_add, e3, e6, e8, e35, e36, e37, e54, e55, e56, hdec, f2, hba, c2, c3]
              exact EQ_in ⟨m + 1, by omega, rfl, e3, hfin _ (by rw [hpB, c2, c3]; rfl), e8, e35, e36, e37, e54, e55, next_ixv (by omega), by omega⟩
            · simp only [↓wpre, wset, wcore, ne_eq, if_true, if_false, exists_eq_left', true_implies, false_implies, exists_const, exists_eq_right, binA, intA, loadA, storeA, pickC, setAt, mapO, argsE, X.isC, resA, oneA, unA, boundA, eqiA, eqsA, fillA, fillE, ASt.fz, strA, Nat.reduceEqDiff, Nat.reduceLT, ↓reduceIte, reduceCtorEq, Nat.reduceAdd, Nat.reduceLeDiff, Int.reduceBEq, Int.reduceBNe, Int.reduceLT, Int.reduceLE, Int.reduceGT, Int.reduceGE, Nat.reduceDiv, Nat.reduceMul, Nat.reduceBEq, Nat.reduceMod, Nat.reduceSub, List.length_append, List.append_assoc, app_get_len, app_get_add, app_set_len, app_set_add, e3, e6, e8, e35, e36, e37, e54, e55, e56, hdec, f2, hba, c2, c3, x1, x2, x3]
              exact EQ_in ⟨m + 1, by omega, rfl, e3, hfin _ (by rw [hpB, c2, c3]; rfl), e8, e35, e36, e37, e54, e55, next_ixv (by omega), by omega⟩
        · rw [hQ] at e6 hfin
          simp only [↓wpre, wset, wcore, ne_eq, if_true, if_false, exists_eq_left', true_implies, false_implies, exists_const, exists_eq_right, binA, intA, loadA, storeA, pickC, setAt, mapO, argsE, X.isC, resA, oneA, unA, boundA, eqiA, eqsA, fillA, fillE, ASt.fz, strA, Nat.reduceEqDiff, Nat.reduceLT, ↓reduceIte, reduceCtorEq, Nat.reduceAdd, Nat.reduceLeDiff, Int.reduceBEq, Int.reduceBNe, Int.reduceLT, Int.reduceLE, Int.reduceGT, Int.reduceGE, Nat.reduceDiv, Nat.reduceMul, Nat.reduceBEq, Nat.reduceMod, Nat.reduceSub, List.length_append, List.append_assoc, app_get_len, app_get_add, app_set_len, app_set_add, e3, e6, e8, e35, e36, e37, e54, e55, e56, hdec, f2, hba]
          exact EQ_in ⟨m + 1, by omega, rfl, e3, hfin _ (by simp), e8, e35, e36, e37, e54, e55, next_ixv (by omega), by omega⟩
      · have hdec : decide ((m : Int) < (bl.length : Int)) = false := by simpa using hmg
        rw [List.take_of_length_le (show rows.length ≤ m by have := hL.len; omega)] at e6
        simp only [↓wpre, wset, wcore, ne_eq, if_true, if_false, exists_eq_left', true_implies, false_implies, exists_const, exists_eq_right, binA, intA, loadA, storeA, pickC, setAt, mapO, argsE, X.isC, resA, oneA, unA, boundA, eqiA, eqsA, fillA, fillE, ASt.fz, strA, Nat.reduceEqDiff, Nat.reduceLT, ↓reduceIte, reduceCtorEq, Nat.reduceAdd, Nat.reduceLeDiff, Int.reduceBEq, Int.reduceBNe, Int.reduceLT, Int.reduceLE, Int.reduceGT, Int.reduceGE, Nat.reduceDiv, Nat.reduceMul, Nat.reduceBEq, Nat.reduceMod, Nat.reduceSub, e3, e6, e8, e35, e36, e37, e54, e55, e56, hdec]
        exact EQ_in ⟨k + 1, by omega, rfl, e3, by rw [hnext, ← Bool.or_assoc]; exact e6, e35, e36, next_ixv (by omega), by omega⟩
  · obtain rfl : k = bl.length := by omega
    have hdec : decide ((bl.length : Int) < (bl.length : Int)) = false := by simp
    have hrl := hL.len
    rw [List.take_of_length_le (by omega), ← noneR_def] at e6
    have htwo : ∀ r ∈ rows, r.length = 2 := fun r hr => by
      rw [← hrows] at hr
      obtain ⟨p, _, rfl⟩ := List.mem_map.1 hr
      rfl
    have hright := right_two (by omega) htwo fun r hr n hn => by
      rw [← hrows] at hr
      obtain ⟨p, hp, rfl⟩ := List.mem_map.1 hr
      have := hbnd p hp
      simp only [rowB, List.mem_cons, List.not_mem_nil, or_false] at hn
      omega
    obtain ⟨t', p1, p2⟩ := app_purify (s := ⟨H, T'⟩) (n := 20) hA (rowsPure hL) (by omega)
    obtain ⟨_, ⟨u, rfl, hu⟩, k11⟩ := (refute_ret hL p1 (by unfold lenB; omega)).callV (args := [.sl bl tt]) (s := ⟨H, T'⟩) rfl (by simp only [mapO, p2])
    obtain ⟨H', e, hf⟩ := fz_args (H := H) (T := T') [.sl bl tt]
    rw [e] at k11
    rcases bounds_law hright (by omega) htwo with h5 | ⟨h0, hn⟩
    · have c5 : ((refuteR rows).2.2 == 5) = true := by rw [h5]; rfl
      simp only [↓wpre, wset, wcore, ne_eq, if_true, if_false, exists_eq_left', true_implies, false_implies, exists_const, exists_eq_right, binA, intA, loadA, storeA, pickC, setAt, mapO, argsE, X.isC, resA, oneA, unA, boundA, eqiA, eqsA, fillA, fillE, ASt.fz, strA, Nat.reduceEqDiff, Nat.reduceLT, ↓reduceIte, reduceCtorEq, Nat.reduceAdd, Nat.reduceLeDiff, Int.reduceBEq, Int.reduceBNe, Int.reduceLT, Int.reduceLE, Int.reduceGT, Int.reduceGE, Nat.reduceDiv, Nat.reduceMul, Nat.reduceBEq, Nat.reduceMod, Nat.reduceSub, e3, e6, e35, e36, e37, hdec, k11, c5, aw]
    · have c5 : ((refuteR rows).2.2 == 5) = false := by rw [h0]; rfl
      have c6 : ((refuteR rows).2.2 == 0) = true := by rw [h0]; rfl
      have c7 : (noneR rows == noneR rows) = true := by simp
      rw [hn] at k11
      simp only [↓wpre, wset, wcore, ne_eq, if_true, if_false, exists_eq_left', true_implies, false_implies, exists_const, exists_eq_right, binA, intA, loadA, storeA, pickC, setAt, mapO, argsE, X.isC, resA, oneA, unA, boundA, eqiA, eqsA, fillA, fillE, ASt.fz, strA, Nat.reduceEqDiff, Nat.reduceLT, ↓reduceIte, reduceCtorEq, Nat.reduceAdd, Nat.reduceLeDiff, Int.reduceBEq, Int.reduceBNe, Int.reduceLT, Int.reduceLE, Int.reduceGT, Int.reduceGE, Nat.reduceDiv, Nat.reduceMul, Nat.reduceBEq, Nat.reduceMod, Nat.reduceSub, e3, e6, e35, e36, e37, hdec, k11, c5, c6, c7, aw]
end Go.Proofs.Eng
