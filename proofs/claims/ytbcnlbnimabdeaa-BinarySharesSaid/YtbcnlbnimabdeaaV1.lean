/- BinaryShares holds of all arguments. No conditions beyond those in the theorems. -/
import Derived.Test.YtbcnlbnimabdeaaV0
import Derived.Test.YtbcnlbnimabdeaaLT
set_option linter.all false
set_option linter.deprecated false
set_option linter.unnecessarySimpa false
set_option linter.unusedVariables false
set_option linter.unusedSimpArgs false
set_option linter.defProp false
namespace Go.Proofs.Eng
open Go Go.Proofs
set_option maxRecDepth 100000
set_option maxHeartbeats 16000000
/-- The queue's state. -/
def QSt (l all todo : List Tm) (E : Env) (T : List Nat) : Prop := ∃ aal ta qal tq, E 3 = .str (strOf (putT l)) ∧ E 5 = .sl aal ta ∧ E 6 = .sl qal tq ∧ LIs Tm.Is all aal ∧ LIs Tm.Is todo qal ∧ Queue l all todo ∧ AllQ 0 T aal ta ∧ (qal = [] ∨ TlQ 0 T tq)
theorem first_app {al : List AV} (hl : al.length ≤ capB) (hx : (al.all fun x => x.cells.length == 5 && x.cells.all oneCell) = true) : ∃ t0 T0, (∀ H, appA ⟨H, []⟩ 5 none [] .nil al = some (.sl al t0, ⟨H, T0⟩)) ∧ (al = [] ∨ TlQ 0 T0 t0) := by
  have hn : al.length ≤ 1073741824 := hl
  cases al with
  | nil => exact ⟨.nil, [], fun H => by simp [appA], .inl rfl⟩
  | cons x al =>
    refine ⟨.tl 0 0, [0], fun H => ?_, .inr ⟨0, rfl, .inl rfl⟩⟩
    simp only [appA, hx]
    simp only [List.length_cons] at hn
    simp [hn]
theorem shares_law {l : List Tm} {al : List AV} {t : Tl} (h : LIs Tm.Is l al) (ht : t.pure = true) (hl : al.length ≤ lenB) : Out md pfs 7 [.sl al t] (· = .bool true) fun _ => False := by
  have hp := tmsPure h
  obtain ⟨_, rfl, aw⟩ := awake_ret.call rfl (by simp [pvs_nil])
  obtain ⟨_, ⟨b, rfl, hb⟩, kf⟩ := (few_ret h ht hl).call rfl (by simp [pvs_cons, pvs_nil, pv_sl, ht, hp])
  refine out_of pf7_is (Nat.le_of_ble_eq_true rfl) ?_
  cases b
  · simp only [pf7, ↓wpre, wset, wcore, ne_eq, if_true, if_false, exists_eq_left', true_implies, false_implies, exists_const, exists_eq_right, binA, intA, loadA, storeA, pickC, setAt, mapO, argsE, X.isC, resA, oneA, unA, boundA, eqiA, eqsA, fillA, fillE, ASt.fz, strA, Nat.reduceEqDiff, Nat.reduceLT, ↓reduceIte, reduceCtorEq, Nat.reduceAdd, Nat.reduceLeDiff, Int.reduceBEq, Int.reduceBNe, Int.reduceLT, Int.reduceLE, Int.reduceGT, Int.reduceGE, Nat.reduceDiv, Nat.reduceMul, Nat.reduceBEq, Nat.reduceMod, Nat.reduceSub, kf, aw]
  · have hfew := hb rfl
    obtain ⟨z1, z2, z3⟩ := few_sizes hfew
    have hl2 := h.len
    have h8 := hfew.1
    have h200 := hfew.2.1
    obtain ⟨_, rfl, k1⟩ := (PutTerms_ret h ht (by omega) z1 (fun ha => by have := z2 ha; unfold entB; omega) (fun _ => by unfold entB; omega)).call rfl (by simp [pvs_cons, pvs_nil, pv_sl, ht, hp])
    cases har : allRL l
    · have e : putR l = ([], 3) := by rw [putR, har]; simp
      rw [e] at k1
      have n3 : ((3 : Int) != 0) = true := rfl
      simp only [pf7, ↓wpre, wset, wcore, ne_eq, if_true, if_false, exists_eq_left', true_implies, false_implies, exists_const, exists_eq_right, binA, intA, loadA, storeA, pickC, setAt, mapO, argsE, X.isC, resA, oneA, unA, boundA, eqiA, eqsA, fillA, fillE, ASt.fz, strA, Nat.reduceEqDiff, Nat.reduceLT, ↓reduceIte, reduceCtorEq, Nat.reduceAdd, Nat.reduceLeDiff, Int.reduceBEq, Int.reduceBNe, Int.reduceLT, Int.reduceLE, Int.reduceGT, Int.reduceGE, Nat.reduceDiv, Nat.reduceMul, Nat.reduceBEq, Nat.reduceMod, Nat.reduceSub, kf, k1, n3, aw]
    · have e : putR l = (putT l, 0) := by rw [putR, har]; simp
      rw [e] at k1
      have n3 : ((0 : Int) != 0) = false := rfl
      have e00 : ((0 : Int) == 0) = true := rfl
      have z2 := z2 har
      have hsz : (strOf (putT l)).size ≤ capB := by rw [strOf_size]; unfold capB; omega
      obtain ⟨k, hg⟩ : ∃ k, getNumR (strOf (putT l)) = .tup [.int ((enterL [] l).length : Nat), .int (k : Nat), .int 0] := by
        refine ⟨(encN (enterL [] l).length).length, ?_⟩
        rw [getNumR, strOf_toList, putT, getN_enc (by unfold mostN; omega)]
      obtain ⟨_, rfl, k3⟩ := (GetNumber_ret hsz).call rfl (by simp [pvs_cons, pvs_nil, pv_v])
      rw [hg] at k3
      obtain ⟨t0, T0, f1, f2⟩ := first_app (al := al) (by unfold capB; omega) (h.all2 tmAgg)
      simp only [pf7, ↓wpre, wset, wcore, ne_eq, if_true, if_false, exists_eq_left', true_implies, false_implies, exists_const, exists_eq_right, binA, intA, loadA, storeA, pickC, setAt, mapO, argsE, X.isC, resA, oneA, unA, boundA, eqiA, eqsA, fillA, fillE, ASt.fz, strA, Nat.reduceEqDiff, Nat.reduceLT, ↓reduceIte, reduceCtorEq, Nat.reduceAdd, Nat.reduceLeDiff, Int.reduceBEq, Int.reduceBNe, Int.reduceLT, Int.reduceLE, Int.reduceGT, Int.reduceGE, Nat.reduceDiv, Nat.reduceMul, Nat.reduceBEq, Nat.reduceMod, Nat.reduceSub, List.length_append, List.append_assoc, app_get_len, app_get_add, app_set_len, app_set_add, kf, k1, n3, f1]
      refine W_loopE (fun p => tszL p.2) (fun (p : List Tm × List Tm) E H T => QSt l p.1 p.2 E T) ?_ ([], l) ⟨[], .nil, al, t0, rfl, rfl, rfl, trivial, h, .start l, .inl ⟨rfl, rfl⟩, f2⟩
      rintro ⟨all, todo⟩ E H T ⟨aal, ta, qal, tq, e3, e5, e6, ha, hq, hQ, hA, hT⟩
      simp only at ha hq hQ
      cases todo with
      | nil =>
        have hq0 := hq.len
        have hd : decide ((qal.length : Int) > 0) = false := by rw [hq0]; rfl
        have hal := ha.len
        have e8 : (((enterL [] l).length : Int) == (aal.length : Int)) = true := by rw [hQ.done har, hal]; simp
        simp only [↓wpre, wset, wcore, ne_eq, if_true, if_false, exists_eq_left', true_implies, false_implies, exists_const, exists_eq_right, binA, intA, loadA, storeA, pickC, setAt, mapO, argsE, X.isC, resA, oneA, unA, boundA, eqiA, eqsA, fillA, fillE, ASt.fz, strA, Nat.reduceEqDiff, Nat.reduceLT, ↓reduceIte, reduceCtorEq, Nat.reduceAdd, Nat.reduceLeDiff, Int.reduceBEq, Int.reduceBNe, Int.reduceLT, Int.reduceLE, Int.reduceGT, Int.reduceGE, Nat.reduceDiv, Nat.reduceMul, Nat.reduceBEq, Nat.reduceMod, Nat.reduceSub, List.length_append, List.append_assoc, app_get_len, app_get_add, app_set_len, app_set_add, e3, e5, e6, hd, k3, e00, e8, aw]
      | cons x r =>
        have hq0 := hq.len
        have hlt : 0 < qal.length := by rw [hq0]; simp
        have hd : decide ((qal.length : Int) > 0) = true := by simp only [decide_eq_true_eq]; omega
        obtain ⟨x', c, d0, d2, d3, d4, d5, d6, d7, d8⟩ := hq.get tmAgg hlt
        simp at d0; subst d0
        have hTq : TlQ 0 T tq := by
          rcases hT with rfl | hT
          · simp at hlt
          · exact hT
        obtain ⟨v, hv, hs⟩ := hTq.slice hlt
        obtain ⟨xk, xi, xn, xls, kids⟩ := x
        obtain ⟨t1, t2, las, kas, hc, _, ht2, _, _, _, _, hkl, _, hks⟩ := d8.opn
        have hc' : c = [.int xk, .int xi, .str xn, .sl las t1, .sl kas t2] := by simpa using hc
        have d8' := d8
        have hQ2 := hQ.next
        subst hc'
        have hz := hQ.sz
        have hzl := hQ.len
        have hal := ha.len
        have hkz := hks.len
        have hrz := len_tszL r
        have hkz2 := len_tszL kids
        have hsx : tszL (Tm.mk xk xi xn xls kids :: r) = 1 + tszL kids + tszL r := by rw [tszL, Tm.sz]
        have hq1 : qal.length = r.length + 1 := by rw [hq0, List.length_cons]
        have hrq : LIs Tm.Is r (qal.drop 1) := hq.drop 1
        obtain ⟨v', T1, hap, hT1, hk1⟩ := app_tls (xs := kas) hv (l := qal.drop 1) (by rw [List.length_drop]; unfold capB; omega) (hrq.all tmAgg) (hks.all2 tmAgg)
        have hA1 := hA.keep hk1
        have hall := hq.all tmAgg
        have h1q : ((1 : Int) ≤ (qal.length : Int)) = True := by rw [hq1]; simp; omega
        simp only [↓wpre, wset, wcore, ne_eq, if_true, if_false, exists_eq_left', true_implies, false_implies, exists_const, exists_eq_right, binA, intA, loadA, storeA, pickC, setAt, mapO, argsE, X.isC, resA, oneA, unA, boundA, eqiA, eqsA, fillA, fillE, ASt.fz, strA, Nat.reduceEqDiff, Nat.reduceLT, ↓reduceIte, reduceCtorEq, Nat.reduceAdd, Nat.reduceLeDiff, Int.reduceBEq, Int.reduceBNe, Int.reduceLT, Int.reduceLE, Int.reduceGT, Int.reduceGE, Nat.reduceDiv, Nat.reduceMul, Nat.reduceBEq, Nat.reduceMod, Nat.reduceSub, List.length_append, List.append_assoc, app_get_len, app_get_add, app_set_len, app_set_add, e3, e5, e6, hd, d4, d5, d6, d7, hs, hap, hall, h1q]
        refine W_loopE (fun j => aal.length - j) (fun j E H' T' => T' = T1 ∧ H'[H.length]? = some (.cells false [.int xk, .int xi, .str xn, .sl las t1, .sl kas t2]) ∧ E 3 = .str (strOf (putT l)) ∧ E 5 = .sl aal ta ∧ E 6 = .sl (qal.drop 1 ++ kas) (.tls 0 v' 5) ∧ E 7 = .ptr H.length 0 ∧ E 8 = .bool (decide (Tm.mk xk xi xn xls kids ∈ all.take j)) ∧ E 40 = .sl aal ta ∧ E 41 = .int aal.length ∧ E 42 = .int (j : Nat) ∧ j ≤ aal.length) ?_ 0 ⟨rfl, by simp, e3, e5, rfl, rfl, by rw [List.take_zero]; rfl, rfl, rfl, rfl, Nat.zero_le _⟩
        clear e3 e5 e6
        rintro j E H' T' ⟨rfl, hH, e3, e5, e6, e7, e8, e40, e41, e42, hj⟩
        have hHl : H.length < H'.length := (List.getElem?_eq_some_iff.1 hH).1
        have hHa : ∀ L, (H' ++ L)[H.length]? = some (.cells false [.int xk, .int xi, .str xn, .sl las t1, .sl kas t2]) := fun L => app_get_of hH L
        have halla := ha.all tmAgg
        rcases Nat.lt_or_ge j aal.length with hlt | hge
        · have hdec : decide ((j : Int) < aal.length) = true := by simpa using hlt
          obtain ⟨y, c, b0, b2, b3, b4, b5, b6, b7, b8⟩ := ha.get tmAgg hlt
          obtain ⟨_, rfl, cs⟩ := (tsame_ret y b8 d8).call rfl (by simp [pvs_cons, pvs_nil, tmPure _ b8, tmPure _ d8])
          have htk : all.take (j + 1) = all.take j ++ [y] := by rw [List.take_add_one, b0]; rfl
          cases hs : decide (Tm.mk xk xi xn xls kids ∈ all.take j)
          · rw [hs] at e8
            simp only [↓wpre, wset, wcore, ne_eq, if_true, if_false, exists_eq_left', true_implies, false_implies, exists_const, exists_eq_right, binA, intA, loadA, storeA, pickC, setAt, mapO, argsE, X.isC, resA, oneA, unA, boundA, eqiA, eqsA, fillA, fillE, ASt.fz, strA, Nat.reduceEqDiff, Nat.reduceLT, ↓reduceIte, reduceCtorEq, Nat.reduceAdd, Nat.reduceLeDiff, Int.reduceBEq, Int.reduceBNe, Int.reduceLT, Int.reduceLE, Int.reduceGT, Int.reduceGE, Nat.reduceDiv, Nat.reduceMul, Nat.reduceBEq, Nat.reduceMod, Nat.reduceSub, List.length_append, List.append_assoc, app_get_len, app_get_add, app_set_len, app_set_add, e5, e7, e8, e40, e41, e42, hdec, b4, b5, b6, b7, halla, hH, hHa, cs]
            have hm : decide (Tm.mk xk xi xn xls kids ∈ all.take (j + 1)) = decide (y = Tm.mk xk xi xn xls kids) := by
              rw [htk]; simp only [decide_eq_false_iff_not] at hs; simp [hs, eq_comm]
            exact EQ_in ⟨j + 1, by omega, rfl, hHa _, e3, e5, e6, e7, by rw [hm]; rfl, e40, e41, next_ixv (by unfold lenB; omega), by omega⟩
          · rw [hs] at e8
            simp only [↓wpre, wset, wcore, ne_eq, if_true, if_false, exists_eq_left', true_implies, false_implies, exists_const, exists_eq_right, binA, intA, loadA, storeA, pickC, setAt, mapO, argsE, X.isC, resA, oneA, unA, boundA, eqiA, eqsA, fillA, fillE, ASt.fz, strA, Nat.reduceEqDiff, Nat.reduceLT, ↓reduceIte, reduceCtorEq, Nat.reduceAdd, Nat.reduceLeDiff, Int.reduceBEq, Int.reduceBNe, Int.reduceLT, Int.reduceLE, Int.reduceGT, Int.reduceGE, Nat.reduceDiv, Nat.reduceMul, Nat.reduceBEq, Nat.reduceMod, Nat.reduceSub, List.length_append, List.append_assoc, app_get_len, app_get_add, app_set_len, app_set_add, e5, e7, e8, e40, e41, e42, hdec, b4, b5, b6, b7, halla, hH, hHa]
            have hm : decide (Tm.mk xk xi xn xls kids ∈ all.take (j + 1)) = true := by
              rw [htk]; simp only [decide_eq_true_eq] at hs; simp [hs]
            exact EQ_in ⟨j + 1, by omega, rfl, hHa _, e3, e5, e6, e7, by rw [hm]; rfl, e40, e41, next_ixv (by unfold lenB; omega), by omega⟩
        · have hdec : decide ((j : Int) < aal.length) = false := by simpa using hge
          rw [List.take_of_length_le (by omega)] at e8
          obtain ⟨ta', T2, ap2, hA2, hT2⟩ := AllQ.one (x := .agg [.int xk, .int xi, .str xn, .sl las t1, .sl kas t2]) hA1 hT1 (by unfold capB; omega) halla rfl rfl
          by_cases hm : Tm.mk xk xi xn xls kids ∈ all
          · rw [decide_eq_true hm] at e8
            rw [if_pos hm] at hQ2
            simp only [↓wpre, wset, wcore, ne_eq, if_true, if_false, exists_eq_left', true_implies, false_implies, exists_const, exists_eq_right, binA, intA, loadA, storeA, pickC, setAt, mapO, argsE, X.isC, resA, oneA, unA, boundA, eqiA, eqsA, fillA, fillE, ASt.fz, strA, Nat.reduceEqDiff, Nat.reduceLT, ↓reduceIte, reduceCtorEq, Nat.reduceAdd, Nat.reduceLeDiff, Int.reduceBEq, Int.reduceBNe, Int.reduceLT, Int.reduceLE, Int.reduceGT, Int.reduceGE, Nat.reduceDiv, Nat.reduceMul, Nat.reduceBEq, Nat.reduceMod, Nat.reduceSub, List.length_append, List.append_assoc, app_get_len, app_get_add, app_set_len, app_set_add, e5, e7, e8, e40, e41, e42, hdec]
            exact EQ_in ⟨(all, r ++ kids), hQ2.2, aal, ta, qal.drop 1 ++ kas, .tls 0 v' 5, e3, e5, e6, ha, hrq.append hks, hQ2.1, hA1, .inr hT1⟩
          · rw [decide_eq_false hm] at e8
            rw [if_neg hm] at hQ2
            simp only [↓wpre, wset, wcore, ne_eq, if_true, if_false, exists_eq_left', true_implies, false_implies, exists_const, exists_eq_right, binA, intA, loadA, storeA, pickC, setAt, mapO, argsE, X.isC, resA, oneA, unA, boundA, eqiA, eqsA, fillA, fillE, ASt.fz, strA, Nat.reduceEqDiff, Nat.reduceLT, ↓reduceIte, reduceCtorEq, Nat.reduceAdd, Nat.reduceLeDiff, Int.reduceBEq, Int.reduceBNe, Int.reduceLT, Int.reduceLE, Int.reduceGT, Int.reduceGE, Nat.reduceDiv, Nat.reduceMul, Nat.reduceBEq, Nat.reduceMod, Nat.reduceSub, List.length_append, List.append_assoc, app_get_len, app_get_add, app_set_len, app_set_add, e5, e7, e8, e40, e41, e42, hdec, hH, ap2]
            exact EQ_in ⟨(all ++ [Tm.mk xk xi xn xls kids], r ++ kids), hQ2.2, aal ++ [.agg [.int xk, .int xi, .str xn, .sl las t1, .sl kas t2]], ta', qal.drop 1 ++ kas, .tls 0 v' 5, e3, rfl, e6, ha.append (LIs.one d8), hrq.append hks, hQ2.1, hA2, .inr hT2⟩
end Go.Proofs.Eng
