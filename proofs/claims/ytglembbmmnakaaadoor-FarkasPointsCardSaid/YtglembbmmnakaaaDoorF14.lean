/- One stage of the elimination: the reference's. No conditions beyond those in the theorems. -/
import Derived.Test.YtglembbmmnakaaaDoorF13
set_option linter.all false
set_option linter.deprecated false
set_option linter.unnecessarySimpa false
set_option linter.unusedVariables false
set_option linter.unusedSimpArgs false
set_option linter.defProp false
namespace Go.Proofs.Eng
open Go Go.Proofs
set_option maxRecDepth 100000
set_option maxHeartbeats 16000000
theorem rws_flat : ∀ {l : List Rw} {al : List AV}, LIs RwIs l al → pureAVs (flat al) = true
  | [], [], _ => rfl
  | _ :: _, [], h => by simp [LIs] at h
  | [], _ :: _, h => by simp [LIs] at h
  | x :: l, a :: al, h => by
    simp only [LIs] at h
    obtain ⟨⟨t, u, rfl, h1, h2⟩, h3⟩ := h
    have := rws_flat h3
    simp only [flat, List.flatMap_cons, AV.cells, List.cons_append, List.nil_append, pvs_cons, Bool.and_eq_true] at this ⊢
    simp [pv_sl, h1, h2, ints_pure, this]
theorem frz_rws {n : Nat} {s : ASt} {l : List Rw} {al : List AV} {t : Tl} (h : LIs RwIs l al) : frz n s (.sl al t) = s := by
  cases n with
  | zero => rfl
  | succ n =>
    rw [frz]
    split
    · rfl
    · exact frzs_pure (rws_flat h)
theorem has_call {l : List Rw} {al : List AV} {t : Tl} {T : List Nat} {x : Rw} {a : AV} (h : LIs RwIs l al) (hx : RwIs x a) (hA : App T al t) (hl : al.length ≤ lenB) (hlen : ∀ r ∈ l, r.A.length ≤ lenB) : ∀ H K KP, CW (run md pfs) md false ⟨H, T⟩ 46 [.sl al t, a] K KP () = K (.bool (hasR l x.A)) ⟨H, T⟩ := by
  intro H K KP
  obtain ⟨t', p1, p2⟩ := app_purify (s := ⟨H, T⟩) (n := 20) hA (rwsPure h) (by omega)
  obtain ⟨_, rfl, hc⟩ := (has_ret (t := t') h hx p1 hl hlen).callV (args := [.sl al t, a]) (s := ⟨H, T⟩) rfl (by simp only [mapO, p2, purify_pure (rwPure hx)])
  rw [hc, List.foldl_cons, List.foldl_cons, List.foldl_nil, frz_rws h, frz_pure (rwPure hx)]
theorem rstage_ret {l : List Rw} {al : List AV} {t : Tl} {j w m : Nat} (h : LIs RwIs l al) (ht : t.pure = true) (hE : ∀ r ∈ l, RowE w m r) (hl : l.length ≤ 500) (hj : j < w) (hw : w ≤ 9) (hm : m ≤ 24) :
    Out md pfs 39 [.sl al t, .int (j : Nat)] (fun v => (∃ l' al' t', stageR j l = .ok l' ∧ v = .tup [.sl al' t', .int 0] ∧ t'.pure = true ∧ LIs RwIs l' al' ∧ (∀ r ∈ l', RowE w m r) ∧ l'.length ≤ 500) ∨ ∃ e : Nat, e ≠ 0 ∧ stageR j l = .error e ∧ v = .tup [.sl [] .nil, .int e]) fun _ => False := by
  have hln := h.len
  have hall := h.all rwAgg
  refine out_of pf39_is (Nat.le_of_ble_eq_true rfl) ?_
  simp only [pf39, ↓wpre, wset, wcore, ne_eq, if_true, if_false, exists_eq_left', true_implies, false_implies, exists_const, exists_eq_right, binA, intA, loadA, storeA, pickC, setAt, mapO, argsE, X.isC, resA, oneA, unA, boundA, eqiA, eqsA, fillA, fillE, ASt.fz, strA, Nat.reduceEqDiff, Nat.reduceLT, ↓reduceIte, reduceCtorEq, Nat.reduceAdd, Nat.reduceLeDiff, Int.reduceBEq, Int.reduceBNe, Int.reduceLT, Int.reduceLE, Int.reduceGT, Int.reduceGE, Nat.reduceDiv, Nat.reduceMul, Nat.reduceBEq, Nat.reduceMod, Nat.reduceSub]
  refine W_loopE (fun k => al.length - k) (fun k E H T => ∃ acc bl tt, E 0 = .sl al t ∧ E 1 = .int (j : Nat) ∧ E 6 = .sl bl tt ∧ E 7 = .int (k : Nat) ∧ k ≤ al.length ∧ LIs RwIs acc bl ∧ App T bl tt ∧ keepZ j acc (l.drop k) = keepZ j [] l ∧ acc.length ≤ k ∧ ∀ r ∈ acc, RowE w m r) ?_ 0 ⟨[], [], .nil, rfl, rfl, rfl, rfl, Nat.zero_le _, trivial, app_start _, rfl, Nat.zero_le _, by simp⟩
  rintro k E H T ⟨acc, bl, tt, e0, e1, e6, e7, hk, hL, hA, hz, hac, haE⟩
  have hbl := hL.len
  rcases Nat.lt_or_ge k al.length with hlt | hge
  · have hdec : decide ((k : Int) < (al.length : Int)) = true := by simpa using hlt
    obtain ⟨r, c, g1, g2, g3, g4, g5, g6, g7, g8⟩ := h.get rwAgg hlt
    have hrE := hE r g3
    obtain ⟨tr, ur, hc, hr1, hr2⟩ := g8
    cases hc
    have hat := hrE.at hj
    have hra := ints_all r.A
    rw [g2, keepZ] at hz
    by_cases h0 : r.A.getD j 0 = 0
    · have c0 : (r.A.getD j 0 == 0) = true := by simpa using h0
      rw [if_pos h0] at hz
      have c46 := has_call (x := r) (a := .agg [.sl (ints r.A) tr, .sl (ints r.F) ur]) hL ⟨tr, ur, rfl, hr1, hr2⟩ hA (by unfold lenB; omega) (fun r hr => by rw [(haE r hr).lA]; unfold lenB; omega)
      cases hh : hasR acc r.A
      · rw [hh] at c46
        rw [if_neg (by simp [hh])] at hz
        obtain ⟨t', T', ap, hA', _⟩ := app_one (es := 2) (x := .agg [.sl (ints r.A) tr, .sl (ints r.F) ur]) hA (by unfold capB; omega) (hL.all rwAgg) rfl rfl
        simp only [↓wpre, wset, wcore, ne_eq, if_true, if_false, exists_eq_left', true_implies, false_implies, exists_const, exists_eq_right, binA, intA, loadA, storeA, pickC, setAt, mapO, argsE, X.isC, resA, oneA, unA, boundA, eqiA, eqsA, fillA, fillE, ASt.fz, strA, Nat.reduceEqDiff, Nat.reduceLT, ↓reduceIte, reduceCtorEq, Nat.reduceAdd, Nat.reduceLeDiff, Int.reduceBEq, Int.reduceBNe, Int.reduceLT, Int.reduceLE, Int.reduceGT, Int.reduceGE, Nat.reduceDiv, Nat.reduceMul, Nat.reduceBEq, Nat.reduceMod, Nat.reduceSub, e0, e1, e6, e7, hdec, g4, hall, hat, hra, c0, c46, ap]
        exact EQ_in ⟨k + 1, by omega, acc ++ [r], _, t', e0, e1, rfl, next_ixv (by unfold lenB; omega), by omega, hL.append (.one ⟨tr, ur, rfl, hr1, hr2⟩), hA', hz, by simp; omega, fun x hx => by
            rcases List.mem_append.1 hx with hx | hx
            · exact haE x hx
            · rw [List.mem_singleton.1 hx]; exact hrE⟩
      · rw [hh] at c46
        rw [if_pos hh] at hz
        simp only [↓wpre, wset, wcore, ne_eq, if_true, if_false, exists_eq_left', true_implies, false_implies, exists_const, exists_eq_right, binA, intA, loadA, storeA, pickC, setAt, mapO, argsE, X.isC, resA, oneA, unA, boundA, eqiA, eqsA, fillA, fillE, ASt.fz, strA, Nat.reduceEqDiff, Nat.reduceLT, ↓reduceIte, reduceCtorEq, Nat.reduceAdd, Nat.reduceLeDiff, Int.reduceBEq, Int.reduceBNe, Int.reduceLT, Int.reduceLE, Int.reduceGT, Int.reduceGE, Nat.reduceDiv, Nat.reduceMul, Nat.reduceBEq, Nat.reduceMod, Nat.reduceSub, e0, e1, e6, e7, hdec, g4, hall, hat, hra, c0, c46]
        exact EQ_in ⟨k + 1, by omega, acc, bl, tt, e0, e1, e6, next_ixv (by unfold lenB; omega), by omega, hL, hA, hz, by omega, haE⟩
    · have c0 : (r.A.getD j 0 == 0) = false := by simpa using h0
      rw [if_neg h0] at hz
      simp only [↓wpre, wset, wcore, ne_eq, if_true, if_false, exists_eq_left', true_implies, false_implies, exists_const, exists_eq_right, binA, intA, loadA, storeA, pickC, setAt, mapO, argsE, X.isC, resA, oneA, unA, boundA, eqiA, eqsA, fillA, fillE, ASt.fz, strA, Nat.reduceEqDiff, Nat.reduceLT, ↓reduceIte, reduceCtorEq, Nat.reduceAdd, Nat.reduceLeDiff, Int.reduceBEq, Int.reduceBNe, Int.reduceLT, Int.reduceLE, Int.reduceGT, Int.reduceGE, Nat.reduceDiv, Nat.reduceMul, Nat.reduceBEq, Nat.reduceMod, Nat.reduceSub, e0, e1, e6, e7, hdec, g4, hall, hat, hra, c0]
      exact EQ_in ⟨k + 1, by omega, acc, bl, tt, e0, e1, e6, next_ixv (by unfold lenB; omega), by omega, hL, hA, hz, by omega, haE⟩
  have hdec : decide ((k : Int) < (al.length : Int)) = false := by simpa using hge
  rw [List.drop_of_length_le (by omega), keepZ] at hz
  have hst : crossO j l acc (l.drop 0) = stageR j l := by rw [List.drop_zero, stageR, hz]
  replace hac : acc.length ≤ 500 := by omega
  clear hz
  simp only [↓wpre, wset, wcore, ne_eq, if_true, if_false, exists_eq_left', true_implies, false_implies, exists_const, exists_eq_right, binA, intA, loadA, storeA, pickC, setAt, mapO, argsE, X.isC, resA, oneA, unA, boundA, eqiA, eqsA, fillA, fillE, ASt.fz, strA, Nat.reduceEqDiff, Nat.reduceLT, ↓reduceIte, reduceCtorEq, Nat.reduceAdd, Nat.reduceLeDiff, Int.reduceBEq, Int.reduceBNe, Int.reduceLT, Int.reduceLE, Int.reduceGT, Int.reduceGE, Nat.reduceDiv, Nat.reduceMul, Nat.reduceBEq, Nat.reduceMod, Nat.reduceSub, e0, e1, e6, e7, hdec]
  refine W_loopE (fun k => al.length - k) (fun i E H T => ∃ acc bl tt, E 0 = .sl al t ∧ E 1 = .int (j : Nat) ∧ E 6 = .sl bl tt ∧ E 8 = .int (i : Nat) ∧ i ≤ al.length ∧ LIs RwIs acc bl ∧ App T bl tt ∧ crossO j l acc (l.drop i) = stageR j l ∧ acc.length ≤ 500 ∧ ∀ r ∈ acc, RowE w m r) ?_ 0 ⟨acc, bl, tt, e0, e1, e6, rfl, Nat.zero_le _, hL, hA, hst, hac, haE⟩
  clear e0 e1 e6 e7 hdec hst hac haE hL hA hbl hge hk k acc bl tt
  rintro i E H T ⟨acc, bl, tt, e0, e1, e6, e8, hi, hL, hA, hst, hac, haE⟩
  rcases Nat.lt_or_ge i al.length with hlt | hge
  · have hdec : decide ((i : Int) < (al.length : Int)) = true := by simpa using hlt
    obtain ⟨r, c, g1, g2, g3, g4, g5, g6, g7, g8⟩ := h.get rwAgg hlt
    have hrE := hE r g3
    obtain ⟨tr, ur, hc, hr1, hr2⟩ := g8
    cases hc
    have hat := hrE.at hj
    have hra := ints_all r.A
    rw [g2, crossO] at hst
    simp only [↓wpre, wset, wcore, ne_eq, if_true, if_false, exists_eq_left', true_implies, false_implies, exists_const, exists_eq_right, binA, intA, loadA, storeA, pickC, setAt, mapO, argsE, X.isC, resA, oneA, unA, boundA, eqiA, eqsA, fillA, fillE, ASt.fz, strA, Nat.reduceEqDiff, Nat.reduceLT, ↓reduceIte, reduceCtorEq, Nat.reduceAdd, Nat.reduceLeDiff, Int.reduceBEq, Int.reduceBNe, Int.reduceLT, Int.reduceLE, Int.reduceGT, Int.reduceGE, Nat.reduceDiv, Nat.reduceMul, Nat.reduceBEq, Nat.reduceMod, Nat.reduceSub, e0, e1, e6, e8, hdec]
    refine W_loopE (fun k => al.length - k) (fun k E H T => ∃ acc bl tt, E 0 = .sl al t ∧ E 1 = .int (j : Nat) ∧ E 6 = .sl bl tt ∧ E 8 = .int (i : Nat) ∧ E 9 = .int (k : Nat) ∧ k ≤ al.length ∧ LIs RwIs acc bl ∧ App T bl tt ∧ (if r.A.getD j 0 > 0 then (crossI j r acc (l.drop k)).bind fun a => crossO j l a (l.drop (i + 1)) else crossO j l acc (l.drop (i + 1))) = stageR j l ∧ acc.length ≤ 500 ∧ ∀ r ∈ acc, RowE w m r) ?_ 0 ⟨acc, bl, tt, e0, e1, e6, e8, rfl, Nat.zero_le _, hL, hA, by rw [List.drop_zero]; exact hst, hac, haE⟩
    clear e0 e1 e6 e8 hdec hst hac haE hL hA acc bl tt
    rintro k E H T ⟨acc, bl, tt, e0, e1, e6, e8, e9, hk, hL, hA, hst, hac, haE⟩
    have hbl := hL.len
    rcases Nat.lt_or_ge k al.length with hkl | hkg
    · have hdec : decide ((k : Int) < (al.length : Int)) = true := by simpa using hkl
      by_cases hp : r.A.getD j 0 > 0
      · have cp1 : decide (r.A.getD j 0 > 0) = true := decide_eq_true hp
        obtain ⟨s, c, b1, b2, b3, b4, b5, b6, b7, b8⟩ := h.get rwAgg hkl
        have hsE := hE s b3
        obtain ⟨ts, us, hc, hs1, hs2⟩ := b8
        cases hc
        have hat2 := hsE.at hj
        have hsa := ints_all s.A
        rw [if_pos hp, b2, crossI] at hst
        by_cases hn : s.A.getD j 0 < 0
        · have cn : decide (s.A.getD j 0 ≥ 0) = false := by simp only [decide_eq_false_iff_not]; omega
          rw [if_pos hn, addR] at hst
          have hco := RowE.ok hrE hsE hj hp hn
          obtain ⟨_, ⟨c, rfl, hx⟩, c47⟩ := (combine_ret (a := .agg [.sl (ints r.A) tr, .sl (ints r.F) ur]) (b := .agg [.sl (ints s.A) ts, .sl (ints s.F) us]) ⟨tr, ur, rfl, hr1, hr2⟩ ⟨ts, us, rfl, hs1, hs2⟩ hco hrE hsE hw hm).call rfl (by simp [pvs_cons, pvs_nil, pureAV, pureAVs, hr1, hr2, hs1, hs2, ints_pure])
          cases hlg : longX (divX (combX r s j))
          · rw [hlg] at c47
            have hxE := RowE.comb hco hrE hsE hlg
            rw [if_neg (by simp [hlg])] at hst
            generalize divX (combX r s j) = x at *
            obtain ⟨tx, ux, rfl, hx1, hx2⟩ := hx
            have c46 := has_call (x := x) (a := .agg [.sl (ints x.A) tx, .sl (ints x.F) ux]) hL ⟨tx, ux, rfl, hx1, hx2⟩ hA (by unfold lenB; omega) (fun r hr => by rw [(haE r hr).lA]; unfold lenB; omega)
            cases hh : hasR acc x.A
            · rw [hh] at c46
              rw [if_neg (by simp [hh])] at hst
              by_cases h5 : acc.length < 500
              · have c5 : (((bl.length : Nat) : Int) == 500) = false := by rw [beq_eq_false_iff_ne]; omega
                rw [if_pos h5] at hst
                obtain ⟨t', T', ap, hA', _⟩ := app_one (es := 2) (x := .agg [.sl (ints x.A) tx, .sl (ints x.F) ux]) hA (by unfold capB; omega) (hL.all rwAgg) rfl rfl
                simp only [↓wpre, wset, wcore, ne_eq, if_true, if_false, exists_eq_left', true_implies, false_implies, exists_const, exists_eq_right, binA, intA, loadA, storeA, pickC, setAt, mapO, argsE, X.isC, resA, oneA, unA, boundA, eqiA, eqsA, fillA, fillE, ASt.fz, strA, Nat.reduceEqDiff, Nat.reduceLT, ↓reduceIte, reduceCtorEq, Nat.reduceAdd, Nat.reduceLeDiff, Int.reduceBEq, Int.reduceBNe, Int.reduceLT, Int.reduceLE, Int.reduceGT, Int.reduceGE, Nat.reduceDiv, Nat.reduceMul, Nat.reduceBEq, Nat.reduceMod, Nat.reduceSub, List.length_append, List.append_assoc, app_get_len, app_get_add, app_set_len, app_set_add, e0, e1, e6, e8, e9, hdec, g4, b4, hall, hat, hra, hat2, hsa, cp1, cn, c47, c46, c5, ap]
                exact EQ_in ⟨k + 1, by omega, acc ++ [x], _, t', e0, e1, rfl, e8, next_ixv (by unfold lenB; omega), by omega, hL.append (.one ⟨tx, ux, rfl, hx1, hx2⟩), hA', by rw [if_pos hp]; exact hst, by simp; omega, fun y hy => by
                  rcases List.mem_append.1 hy with hy | hy
                  · exact haE y hy
                  · rw [List.mem_singleton.1 hy]; exact hxE⟩
              · have c5 : (((bl.length : Nat) : Int) == 500) = true := by rw [beq_iff_eq]; omega
                rw [if_neg h5] at hst
                simp only [↓wpre, wset, wcore, ne_eq, if_true, if_false, exists_eq_left', true_implies, false_implies, exists_const, exists_eq_right, binA, intA, loadA, storeA, pickC, setAt, mapO, argsE, X.isC, resA, oneA, unA, boundA, eqiA, eqsA, fillA, fillE, ASt.fz, strA, Nat.reduceEqDiff, Nat.reduceLT, ↓reduceIte, reduceCtorEq, Nat.reduceAdd, Nat.reduceLeDiff, Int.reduceBEq, Int.reduceBNe, Int.reduceLT, Int.reduceLE, Int.reduceGT, Int.reduceGE, Nat.reduceDiv, Nat.reduceMul, Nat.reduceBEq, Nat.reduceMod, Nat.reduceSub, List.length_append, List.append_assoc, app_get_len, app_get_add, app_set_len, app_set_add, e0, e1, e6, e8, e9, hdec, g4, b4, hall, hat, hra, hat2, hsa, cp1, cn, c47, c46, c5]
                exact .inr ⟨6, by decide, hst.symm, rfl⟩
            · rw [hh] at c46
              rw [if_pos hh] at hst
              simp only [↓wpre, wset, wcore, ne_eq, if_true, if_false, exists_eq_left', true_implies, false_implies, exists_const, exists_eq_right, binA, intA, loadA, storeA, pickC, setAt, mapO, argsE, X.isC, resA, oneA, unA, boundA, eqiA, eqsA, fillA, fillE, ASt.fz, strA, Nat.reduceEqDiff, Nat.reduceLT, ↓reduceIte, reduceCtorEq, Nat.reduceAdd, Nat.reduceLeDiff, Int.reduceBEq, Int.reduceBNe, Int.reduceLT, Int.reduceLE, Int.reduceGT, Int.reduceGE, Nat.reduceDiv, Nat.reduceMul, Nat.reduceBEq, Nat.reduceMod, Nat.reduceSub, List.length_append, List.append_assoc, app_get_len, app_get_add, app_set_len, app_set_add, e0, e1, e6, e8, e9, hdec, g4, b4, hall, hat, hra, hat2, hsa, cp1, cn, c47, c46]
              exact EQ_in ⟨k + 1, by omega, acc, bl, tt, e0, e1, e6, e8, next_ixv (by unfold lenB; omega), by omega, hL, hA, by rw [if_pos hp]; exact hst, hac, haE⟩
          · rw [hlg] at c47
            rw [if_pos hlg] at hst
            obtain ⟨tx, ux, rfl, hx1, hx2⟩ := hx
            simp only [↓wpre, wset, wcore, ne_eq, if_true, if_false, exists_eq_left', true_implies, false_implies, exists_const, exists_eq_right, binA, intA, loadA, storeA, pickC, setAt, mapO, argsE, X.isC, resA, oneA, unA, boundA, eqiA, eqsA, fillA, fillE, ASt.fz, strA, Nat.reduceEqDiff, Nat.reduceLT, ↓reduceIte, reduceCtorEq, Nat.reduceAdd, Nat.reduceLeDiff, Int.reduceBEq, Int.reduceBNe, Int.reduceLT, Int.reduceLE, Int.reduceGT, Int.reduceGE, Nat.reduceDiv, Nat.reduceMul, Nat.reduceBEq, Nat.reduceMod, Nat.reduceSub, List.length_append, List.append_assoc, app_get_len, app_get_add, app_set_len, app_set_add, e0, e1, e6, e8, e9, hdec, g4, b4, hall, hat, hra, hat2, hsa, cp1, cn, c47]
            exact .inr ⟨5, by decide, hst.symm, rfl⟩
        · have cn : decide (s.A.getD j 0 ≥ 0) = true := by simp only [decide_eq_true_eq]; omega
          rw [if_neg hn] at hst
          simp only [↓wpre, wset, wcore, ne_eq, if_true, if_false, exists_eq_left', true_implies, false_implies, exists_const, exists_eq_right, binA, intA, loadA, storeA, pickC, setAt, mapO, argsE, X.isC, resA, oneA, unA, boundA, eqiA, eqsA, fillA, fillE, ASt.fz, strA, Nat.reduceEqDiff, Nat.reduceLT, ↓reduceIte, reduceCtorEq, Nat.reduceAdd, Nat.reduceLeDiff, Int.reduceBEq, Int.reduceBNe, Int.reduceLT, Int.reduceLE, Int.reduceGT, Int.reduceGE, Nat.reduceDiv, Nat.reduceMul, Nat.reduceBEq, Nat.reduceMod, Nat.reduceSub, List.length_append, List.append_assoc, app_get_len, app_get_add, app_set_len, app_set_add, e0, e1, e6, e8, e9, hdec, g4, b4, hall, hat, hra, hat2, hsa, cp1, cn]
          exact EQ_in ⟨k + 1, by omega, acc, bl, tt, e0, e1, e6, e8, next_ixv (by unfold lenB; omega), by omega, hL, hA, by rw [if_pos hp]; exact hst, hac, haE⟩
      · have cp1 : decide (r.A.getD j 0 > 0) = false := decide_eq_false hp
        rw [if_neg hp] at hst
        simp only [↓wpre, wset, wcore, ne_eq, if_true, if_false, exists_eq_left', true_implies, false_implies, exists_const, exists_eq_right, binA, intA, loadA, storeA, pickC, setAt, mapO, argsE, X.isC, resA, oneA, unA, boundA, eqiA, eqsA, fillA, fillE, ASt.fz, strA, Nat.reduceEqDiff, Nat.reduceLT, ↓reduceIte, reduceCtorEq, Nat.reduceAdd, Nat.reduceLeDiff, Int.reduceBEq, Int.reduceBNe, Int.reduceLT, Int.reduceLE, Int.reduceGT, Int.reduceGE, Nat.reduceDiv, Nat.reduceMul, Nat.reduceBEq, Nat.reduceMod, Nat.reduceSub, List.length_append, List.append_assoc, app_get_len, app_get_add, app_set_len, app_set_add, e0, e1, e6, e8, e9, hdec, g4, hall, hat, hra, cp1]
        exact EQ_in ⟨i + 1, by omega, acc, bl, tt, e0, e1, e6, next_ixv (by unfold lenB; omega), by omega, hL, hA, hst, hac, haE⟩
    · have hdec : decide ((k : Int) < (al.length : Int)) = false := by simpa using hkg
      have hst' : crossO j l acc (l.drop (i + 1)) = stageR j l := by
        rw [List.drop_of_length_le (show l.length ≤ k by omega)] at hst
        split at hst <;> exact hst
      simp only [↓wpre, wset, wcore, ne_eq, if_true, if_false, exists_eq_left', true_implies, false_implies, exists_const, exists_eq_right, binA, intA, loadA, storeA, pickC, setAt, mapO, argsE, X.isC, resA, oneA, unA, boundA, eqiA, eqsA, fillA, fillE, ASt.fz, strA, Nat.reduceEqDiff, Nat.reduceLT, ↓reduceIte, reduceCtorEq, Nat.reduceAdd, Nat.reduceLeDiff, Int.reduceBEq, Int.reduceBNe, Int.reduceLT, Int.reduceLE, Int.reduceGT, Int.reduceGE, Nat.reduceDiv, Nat.reduceMul, Nat.reduceBEq, Nat.reduceMod, Nat.reduceSub, e0, e1, e6, e8, e9, hdec]
      exact EQ_in ⟨i + 1, by omega, acc, bl, tt, e0, e1, e6, next_ixv (by unfold lenB; omega), by omega, hL, hA, hst', hac, haE⟩
  have hdec : decide ((i : Int) < (al.length : Int)) = false := by simpa using hge
  rw [List.drop_of_length_le (by omega), crossO] at hst
  simp only [↓wpre, wset, wcore, ne_eq, if_true, if_false, exists_eq_left', true_implies, false_implies, exists_const, exists_eq_right, binA, intA, loadA, storeA, pickC, setAt, mapO, argsE, X.isC, resA, oneA, unA, boundA, eqiA, eqsA, fillA, fillE, ASt.fz, strA, Nat.reduceEqDiff, Nat.reduceLT, ↓reduceIte, reduceCtorEq, Nat.reduceAdd, Nat.reduceLeDiff, Int.reduceBEq, Int.reduceBNe, Int.reduceLT, Int.reduceLE, Int.reduceGT, Int.reduceGE, Nat.reduceDiv, Nat.reduceMul, Nat.reduceBEq, Nat.reduceMod, Nat.reduceSub, e0, e1, e6, e8, hdec]
  obtain ⟨t', p1, p2⟩ := app_purify (s := ⟨H, T⟩) (n := 19) hA (rwsPure hL) (by omega)
  rw [p2]
  exact ⟨_, rfl, .inl ⟨acc, bl, t', hst.symm, rfl, p1, hL, haE, hac⟩⟩
end Go.Proofs.Eng
