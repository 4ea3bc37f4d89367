/- The reference's GetTerms; SameTerms. No conditions beyond those in the theorems. -/
import Derived.Test.YtbcnlbnimabdeaaU13
import Derived.Test.YtbcnlbnimabdeaaT1
set_option linter.all false
set_option linter.deprecated false
set_option linter.unnecessarySimpa false
set_option linter.unusedVariables false
set_option linter.unusedSimpArgs false
set_option linter.defProp false
namespace Go.Proofs.Eng
open Go Go.Proofs
set_option maxRecDepth 100000
set_option maxHeartbeats 8000000
theorem tszL_bound : ∀ {l : List Tm}, (∀ x ∈ l, x.sz ≤ 4096) → tszL l ≤ 4096 * l.length
  | [], _ => by simp [tszL]
  | x :: l, h => by
    have h1 := h x (by simp)
    have h2 := tszL_bound (l := l) fun y hy => h y (by simp [hy])
    rw [tszL, List.length_cons]; omega
theorem rget_end {s : ByteArray} {H : List AObj} (hs : s.size + 1 < capB) (hP : PutB s) {E : Env} {T' : List Nat} {l : List Tm} {al : List AV} {t : Tl} {B Z : List AObj} {q : Nat} {f : Bool} (e0 : E 0 = .str s) (e5 : E 5 = .ptr 0 0) (e8 : E 8 = .sl al t) (hB : BR B H 0 (rrd s q f)) (hqs : q ≤ s.size) (hL : LIs Tm.Is l al) (hl6 : f = false → al.length ≤ 65536) (hF : Fl false f (getT s.toList = some (l, s.toList.drop q)) (getT s.toList = none)) :
    W (run md pfs) md end20 ⟨tmE 99 E, [], ⟨B ++ Z, T'⟩⟩ (RQ [.t 2, .t 3, .t 4] (GetP s) fun _ => False) () := by
  have gi := rrd_get hB
  cases f with
  | true =>
    simp only [end20, pf20, ↓wpre, wset, wcore, ne_eq, if_true, if_false, exists_eq_left', true_implies, false_implies, exists_const, exists_eq_right, binA, intA, loadA, storeA, pickC, setAt, mapO, argsE, X.isC, resA, oneA, unA, boundA, eqiA, eqsA, fillA, fillE, ASt.fz, strA, Nat.reduceEqDiff, Nat.reduceLT, ↓reduceIte, reduceCtorEq, Nat.reduceAdd, Nat.reduceLeDiff, Int.reduceBEq, Int.reduceBNe, Int.reduceLT, Int.reduceLE, Int.reduceGT, Int.reduceGE, Nat.reduceDiv, Nat.reduceMul, Nat.reduceBEq, Nat.reduceMod, Nat.reduceSub, e0, e5, e8, gi]
    rcases hF with ⟨_, h, _⟩ | ⟨_, h⟩
    · cases h
    · rcases h with h | h
      · cases h
      · exact Or.inr ⟨fun l q h1 => (by rw [h] at h1; cases h1), rfl⟩
  | false =>
    have h1 : getT s.toList = some (l, s.toList.drop q) := by
      rcases hF with ⟨_, _, h⟩ | ⟨h, _⟩
      · exact h
      · cases h
    have hpu := tmsPure hL
    have h6 := hl6 rfl
    obtain ⟨hA, hF⟩ := getT_allR h1
    obtain ⟨b1, b2⟩ := hP _ _ h1
    have hput : putR l = (putT l, 0) := by rw [putR, if_pos hA]
    have hz := tszL_bound (l := l) fun x hx => (hF x hx).1
    rw [← hL.len] at hz
    obtain ⟨_, rfl, hp⟩ := call_sl1 (rPutTerms_ret hL (strip_pure2 t) h6 hF (by omega) (fun _ => by unfold entB at b1; omega)) rfl hpu ⟨B ++ Z, T'⟩
    rw [hput] at hp
    have hx0 : (((0 : Nat) : Int) ≤ (q : Int)) = True := eq_true (by omega)
    have hle : ((q : Int) ≤ (s.size : Int)) = True := eq_true (by omega)
    have h0k : (0 ≤ (q : Int)) = True := eq_true (by omega)
    have hq : ∀ l' q', getT s.toList = some (l', s.toList.drop q') → q' ≤ s.size → l' = l ∧ q' = q := fun l' q' e hq => by
      rw [h1] at e
      simp only [Option.some.injEq, Prod.mk.injEq] at e
      have := congrArg List.length e.2
      rw [List.length_drop, List.length_drop, toList_len] at this
      exact ⟨e.1.symm, by omega⟩
    cases he : ((strOf (putT l)).toList == (s.extract 0 q).toList)
    · simp only [end20, pf20, ↓wpre, wset, wcore, ne_eq, if_true, if_false, exists_eq_left', true_implies, false_implies, exists_const, exists_eq_right, binA, intA, loadA, storeA, pickC, setAt, mapO, argsE, X.isC, resA, oneA, unA, boundA, eqiA, eqsA, fillA, fillE, ASt.fz, strA, Nat.reduceEqDiff, Nat.reduceLT, ↓reduceIte, reduceCtorEq, Nat.reduceAdd, Nat.reduceLeDiff, Int.reduceBEq, Int.reduceBNe, Int.reduceLT, Int.reduceLE, Int.reduceGT, Int.reduceGE, Nat.reduceDiv, Nat.reduceMul, Nat.reduceBEq, Nat.reduceMod, Nat.reduceSub, e0, e5, e8, gi, hp, hle, hx0, h0k, he]
      refine Or.inr ⟨fun l' q' e hq' hne => ?_, rfl⟩
      obtain ⟨rfl, rfl⟩ := hq l' q' e hq'
      rw [(str_take hq').2 hne] at he
      simp at he
    · simp only [end20, pf20, ↓wpre, wset, wcore, ne_eq, if_true, if_false, exists_eq_left', true_implies, false_implies, exists_const, exists_eq_right, binA, intA, loadA, storeA, pickC, setAt, mapO, argsE, X.isC, resA, oneA, unA, boundA, eqiA, eqsA, fillA, fillE, ASt.fz, strA, Nat.reduceEqDiff, Nat.reduceLT, ↓reduceIte, reduceCtorEq, Nat.reduceAdd, Nat.reduceLeDiff, Int.reduceBEq, Int.reduceBNe, Int.reduceLT, Int.reduceLE, Int.reduceGT, Int.reduceGE, Nat.reduceDiv, Nat.reduceMul, Nat.reduceBEq, Nat.reduceMod, Nat.reduceSub, e0, e5, e8, gi, hp, hle, hx0, h0k, he, pz_tup3 hpu]
      have he' : strOf (putT l) = s.extract 0 q := by
        rw [str_eq] at he
        exact of_decide_eq_true he
      exact Or.inl ⟨l, al, _, q, h1, hqs, (str_take hqs).1 he', rfl, hL, strip_pure2 t, h6⟩
theorem rGetTerms_ret {s : ByteArray} (hs : s.size + 1 < capB) (hP : PutB s) : Out md pfs 20 [.str s] (GetP s) fun _ => False := by
  refine out_of pf20_is (Nat.le_of_ble_eq_true rfl) ?_
  have hs' : s.size ≤ capB := by omega
  have hB0 : BR [rrd s 0 false] [rrd s 0 false] 0 (rrd s 0 false) := BR.start rfl
  obtain ⟨n, B1, q1, f1, k1, n1, l1, hB1, F1⟩ := rnum_u hB0 (Nat.zero_le _) hs' [] []
  rw [List.append_nil, List.append_nil, show [rrd s 0 false] = [AObj.cells false [.str s, .int 0, .v (.bool false)]] from rfl] at k1
  rw [List.drop_zero] at F1
  simp only [pf20, ↓wpre, wset, wcore, ne_eq, if_true, if_false, exists_eq_left', true_implies, false_implies, exists_const, exists_eq_right, binA, intA, loadA, storeA, pickC, setAt, mapO, argsE, X.isC, resA, oneA, unA, boundA, eqiA, eqsA, fillA, fillE, ASt.fz, strA, Nat.reduceEqDiff, Nat.reduceLT, ↓reduceIte, reduceCtorEq, Nat.reduceAdd, Nat.reduceLeDiff, Int.reduceBEq, Int.reduceBNe, Int.reduceLT, Int.reduceLE, Int.reduceGT, Int.reduceGE, Nat.reduceDiv, Nat.reduceMul, Nat.reduceBEq, Nat.reduceMod, Nat.reduceSub, k1]
  refine rtab_loop hs n1 l1 ?_ (List.append_nil B1).symm hB1 rfl rfl rfl rfl rfl rfl
  intro E T' Tb tab tt B Z q f e0 e5 e7 e8 hB hqs hTb htl hF
  simp only [BQ_e, LQ_n, BQ_n]
  obtain ⟨m, B2, q2, f2, k2, m2, l2, hB2, F2⟩ := rnum_u hB hqs hs' Z T'
  have gi2 := rrd_get hB2
  have FA := (F1.comp hF (G3 := getT s.toList = (rN (s.toList.drop q)).bind fun m => if m.1 > 65536 then none else rKids Tb m.1 m.2) (N3 := getT s.toList = none) (fun h h2 => by rw [getT, h.1, Option.bind_some]; simp only; rw [h2.1, Option.bind_some]) (fun h => by rw [getT, h]; rfl) (fun h h2 => by rw [getT, h.1, Option.bind_some]; simp only; rw [h2]; rfl)).comp F2 (G3 := getT s.toList = if m > 65536 then none else rKids Tb m (s.toList.drop q2)) (N3 := getT s.toList = none) (fun h h2 => by rw [h, h2.1, Option.bind_some]) id (fun h h2 => by rw [h, h2]; rfl)
  cases hm : decide ((m : Int) > 65536)
  · have hm' : ¬ m > 65536 := by simp only [decide_eq_false_iff_not] at hm; omega
    rw [if_neg hm'] at FA
    simp only [↓wpre, wset, wcore, ne_eq, if_true, if_false, exists_eq_left', true_implies, false_implies, exists_const, exists_eq_right, binA, intA, loadA, storeA, pickC, setAt, mapO, argsE, X.isC, resA, oneA, unA, boundA, eqiA, eqsA, fillA, fillE, ASt.fz, strA, Nat.reduceEqDiff, Nat.reduceLT, ↓reduceIte, reduceCtorEq, Nat.reduceAdd, Nat.reduceLeDiff, Int.reduceBEq, Int.reduceBNe, Int.reduceLT, Int.reduceLE, Int.reduceGT, Int.reduceGE, Nat.reduceDiv, Nat.reduceMul, Nat.reduceBEq, Nat.reduceMod, Nat.reduceSub, e0, e5, e7, e8, k2, hm]
    refine rroot_loop hs hTb (tt := tt) (T := T') m2 (fun _ => by omega) l2 ?_ rfl hB2 e0 e5 e7 e8 rfl rfl
    intro E T' l al t B Z q f e0 e5 e8 hB hqs hL hl6 hF
    simp only [BQ_e, LQ_n, BQ_n]
    exact rget_end hs hP e0 e5 e8 hB hqs hL hl6 (FA.comp hF (fun h h2 => h.trans h2.1) id (fun h h2 => h.trans h2))
  · have hm' : m > 65536 := by simp only [decide_eq_true_eq] at hm; omega
    rw [if_pos hm'] at FA
    have hsi : ∀ Z y, (B2 ++ Z).set 0 y = B2.set 0 y ++ Z := fun Z y => hB2.app Z y
    simp only [↓wpre, wset, wcore, ne_eq, if_true, if_false, exists_eq_left', true_implies, false_implies, exists_const, exists_eq_right, binA, intA, loadA, storeA, pickC, setAt, mapO, argsE, X.isC, resA, oneA, unA, boundA, eqiA, eqsA, fillA, fillE, ASt.fz, strA, Nat.reduceEqDiff, Nat.reduceLT, ↓reduceIte, reduceCtorEq, Nat.reduceAdd, Nat.reduceLeDiff, Int.reduceBEq, Int.reduceBNe, Int.reduceLT, Int.reduceLE, Int.reduceGT, Int.reduceGE, Nat.reduceDiv, Nat.reduceMul, Nat.reduceBEq, Nat.reduceMod, Nat.reduceSub, e0, e5, e7, e8, k2, hm, gi2, hsi]
    refine rroot_loop hs hTb (tt := tt) (T := T') (f0 := true) m2 (fun h => by cases h) l2 ?_ rfl (hB2.up (rrd s q2 true)) e0 e5 e7 e8 rfl rfl
    intro E T' l al t B Z q f e0 e5 e8 hB hqs hL hl6 hF
    simp only [BQ_e, LQ_n, BQ_n]
    refine rget_end hs hP e0 e5 e8 hB hqs hL hl6 (Or.inr ⟨?_, Or.inr ?_⟩)
    · rcases hF with ⟨h, _⟩ | ⟨h, _⟩
      · cases h
      · exact h
    · rcases FA with ⟨_, _, h⟩ | ⟨_, h⟩
      · exact h
      · rcases h with h | h
        · cases h
        · exact h
theorem SameTerms_ret {l m : List Tm} {al bl : List AV} {t u : Tl} (h : LIs Tm.Is l al) (h' : LIs Tm.Is m bl) (ht : t.pure = true) (hu : u.pure = true) (hal : al.length ≤ lenB) (hbl : bl.length ≤ lenB) : Out md pfs 21 [.sl al t, .sl bl u] (· = .bool (decide (l = m))) fun _ => False := by
  refine out_of pf21_is (Nat.le_of_ble_eq_true rfl) ?_
  have hl := h.len
  have hl' := h'.len
  have hall := h.all tmAgg
  have hall2 := h'.all tmAgg
  cases hne : ((al.length : Int) != bl.length)
  rotate_left
  · have : l ≠ m := by
      rintro rfl
      simp only [bne_iff_ne, ne_eq] at hne
      omega
    simp only [pf21, ↓wpre, wset, wcore, ne_eq, if_true, if_false, exists_eq_left', true_implies, false_implies, exists_const, exists_eq_right, binA, intA, loadA, storeA, pickC, setAt, mapO, argsE, X.isC, resA, oneA, unA, boundA, eqiA, eqsA, fillA, fillE, ASt.fz, strA, Nat.reduceEqDiff, Nat.reduceLT, ↓reduceIte, reduceCtorEq, Nat.reduceAdd, Nat.reduceLeDiff, Int.reduceBEq, Int.reduceBNe, Int.reduceLT, Int.reduceLE, Int.reduceGT, Int.reduceGE, Nat.reduceDiv, Nat.reduceMul, Nat.reduceBEq, Nat.reduceMod, Nat.reduceSub, hne, decide_eq_false this]
  · have hlen : al.length = bl.length := by simp only [bne_eq_false_iff_eq] at hne; omega
    simp only [pf21, ↓wpre, wset, wcore, ne_eq, if_true, if_false, exists_eq_left', true_implies, false_implies, exists_const, exists_eq_right, binA, intA, loadA, storeA, pickC, setAt, mapO, argsE, X.isC, resA, oneA, unA, boundA, eqiA, eqsA, fillA, fillE, ASt.fz, strA, Nat.reduceEqDiff, Nat.reduceLT, ↓reduceIte, reduceCtorEq, Nat.reduceAdd, Nat.reduceLeDiff, Int.reduceBEq, Int.reduceBNe, Int.reduceLT, Int.reduceLE, Int.reduceGT, Int.reduceGE, Nat.reduceDiv, Nat.reduceMul, Nat.reduceBEq, Nat.reduceMod, Nat.reduceSub, hne]
    refine W_loopE (fun j => al.length - j) (fun j E H T => E 0 = .sl al t ∧ E 1 = .sl bl u ∧ E 5 = .int (j : Nat) ∧ j ≤ al.length ∧ l.take j = m.take j) ?_ 0 ⟨rfl, rfl, rfl, Nat.zero_le _, rfl⟩
    rintro j E H T ⟨e0, e1, e5, hj, hp⟩
    rcases Nat.lt_or_ge j al.length with hlt | hge
    · have hdec : decide ((j : Int) < al.length) = true := by simpa using hlt
      obtain ⟨x, c, d0, d1, d3, d4, d5, d6, d7, d8⟩ := h.get tmAgg hlt
      obtain ⟨y, c', f0, f1, f3, f4, f5, f6, f7, f8⟩ := h'.get tmAgg (i := j) (by omega)
      obtain ⟨_, rfl, cr⟩ := (tsame_ret x d8 f8).call rfl (by simp [pvs_cons, pvs_nil, tmPure _ d8, tmPure _ f8])
      by_cases hxy : x = y
      · rw [decide_eq_true hxy] at cr
        simp only [↓wpre, wset, wcore, ne_eq, if_true, if_false, exists_eq_left', true_implies, false_implies, exists_const, exists_eq_right, binA, intA, loadA, storeA, pickC, setAt, mapO, argsE, X.isC, resA, oneA, unA, boundA, eqiA, eqsA, fillA, fillE, ASt.fz, strA, Nat.reduceEqDiff, Nat.reduceLT, ↓reduceIte, reduceCtorEq, Nat.reduceAdd, Nat.reduceLeDiff, Int.reduceBEq, Int.reduceBNe, Int.reduceLT, Int.reduceLE, Int.reduceGT, Int.reduceGE, Nat.reduceDiv, Nat.reduceMul, Nat.reduceBEq, Nat.reduceMod, Nat.reduceSub, e0, e1, e5, hdec, d4, d5, d6, d7, f4, f5, f6, f7, hall, hall2, cr]
        refine EQ_in ⟨j + 1, by omega, e0, e1, next_ixv (by unfold lenB at *; omega), by omega, ?_⟩
        rw [List.take_add_one, List.take_add_one, d0, f0, hp, hxy]
      · rw [decide_eq_false hxy] at cr
        have : l ≠ m := by
          rintro rfl
          rw [d0] at f0
          exact hxy (Option.some.inj f0)
        simp only [↓wpre, wset, wcore, ne_eq, if_true, if_false, exists_eq_left', true_implies, false_implies, exists_const, exists_eq_right, binA, intA, loadA, storeA, pickC, setAt, mapO, argsE, X.isC, resA, oneA, unA, boundA, eqiA, eqsA, fillA, fillE, ASt.fz, strA, Nat.reduceEqDiff, Nat.reduceLT, ↓reduceIte, reduceCtorEq, Nat.reduceAdd, Nat.reduceLeDiff, Int.reduceBEq, Int.reduceBNe, Int.reduceLT, Int.reduceLE, Int.reduceGT, Int.reduceGE, Nat.reduceDiv, Nat.reduceMul, Nat.reduceBEq, Nat.reduceMod, Nat.reduceSub, e0, e1, e5, hdec, d4, d5, d6, d7, f4, f5, f6, f7, hall, hall2, cr, decide_eq_false this]
    · have hdec : decide ((j : Int) < al.length) = false := by simpa using hge
      rw [List.take_of_length_le (by omega), List.take_of_length_le (by omega)] at hp
      simp only [↓wpre, wset, wcore, ne_eq, if_true, if_false, exists_eq_left', true_implies, false_implies, exists_const, exists_eq_right, binA, intA, loadA, storeA, pickC, setAt, mapO, argsE, X.isC, resA, oneA, unA, boundA, eqiA, eqsA, fillA, fillE, ASt.fz, strA, Nat.reduceEqDiff, Nat.reduceLT, ↓reduceIte, reduceCtorEq, Nat.reduceAdd, Nat.reduceLeDiff, Int.reduceBEq, Int.reduceBNe, Int.reduceLT, Int.reduceLE, Int.reduceGT, Int.reduceGE, Nat.reduceDiv, Nat.reduceMul, Nat.reduceBEq, Nat.reduceMod, Nat.reduceSub, e0, e1, e5, hdec, decide_eq_true hp]
end Go.Proofs.Eng
