/- The reference's table: positions, entering. No conditions beyond those in the theorems. -/
import Derived.Test.YtbcnlbnimabdeaaT8
set_option linter.all false
set_option linter.deprecated false
set_option linter.unnecessarySimpa false
set_option linter.unusedVariables false
set_option linter.unusedSimpArgs false
set_option linter.defProp false
namespace Go.Proofs.Eng
open Go Go.Proofs
set_option maxRecDepth 100000
set_option maxHeartbeats 8000000
def posT (T : List Tm) (e : Tm) : Int := if e ∈ T then (T.idxOf e : Nat) else -1
theorem idx_first {T : List Tm} {e : Tm} {j : Nat} (h : T[j]? = some e) (hn : ∀ x ∈ T.take j, x ≠ e) : e ∈ T ∧ T.idxOf e = j := by
  induction T generalizing j with
  | nil => simp at h
  | cons y T ih =>
    cases j with
    | zero => simp at h; subst h; simp
    | succ j =>
      have h1 : y ≠ e := hn y (by simp)
      obtain ⟨a, b⟩ := ih (by simpa using h) fun x hx => hn x (by simp [hx])
      exact ⟨List.mem_cons_of_mem _ a, by rw [List.idxOf_cons, beq_false_of_ne h1, b]; rfl⟩
theorem position_ret {Tb : List Tm} {e : Tm} {al : List AV} {t : Tl} {a : AV} (hT : LIs Tm.Is Tb al) (ht : t.pure = true) (hl : al.length ≤ lenB) (h : e.Is a) : Out md pfs 41 [.sl al t, a] (· = .int (posT Tb e)) fun _ => False := by
  have hl2 := hT.len
  obtain ⟨c, rfl, l1, l2, l3⟩ := tmCells h
  refine out_of pf41_is (Nat.le_of_ble_eq_true rfl) ?_
  simp only [pf41, ↓wpre, wset, wcore, ne_eq, if_true, if_false, exists_eq_left', true_implies, false_implies, exists_const, exists_eq_right, binA, intA, loadA, storeA, pickC, setAt, mapO, argsE, X.isC, resA, oneA, unA, boundA, eqiA, eqsA, fillA, fillE, ASt.fz, strA, Nat.reduceEqDiff, Nat.reduceLT, ↓reduceIte, reduceCtorEq, Nat.reduceAdd, Nat.reduceLeDiff, Int.reduceBEq, Int.reduceBNe, Int.reduceLT, Int.reduceLE, Int.reduceGT, Int.reduceGE, Nat.reduceDiv, Nat.reduceMul, Nat.reduceBEq, Nat.reduceMod, Nat.reduceSub, l1, l2, l3]
  refine W_loopE (fun j => al.length - j) (fun j E H T => H = [.cells false c] ∧ E 0 = .sl al t ∧ E 3 = .ptr 0 0 ∧ E 5 = .int (j : Nat) ∧ j ≤ al.length ∧ ∀ x ∈ Tb.take j, x ≠ e) ?_ 0 ⟨rfl, rfl, rfl, rfl, Nat.zero_le _, by simp⟩
  rintro j E H T ⟨rfl, e0, e3, e5, hj, hn⟩
  rcases Nat.lt_or_ge j al.length with hlt | hge
  · have hdec : decide ((j : Int) < al.length) = true := by simpa using hlt
    obtain ⟨x, c1, d0, d1, d3, d4, d5, d6, d7, d8⟩ := hT.get tmAgg hlt
    have hall := hT.all tmAgg
    obtain ⟨_, rfl, cr⟩ := (tsame_ret x d8 h).call rfl (by simp [pvs_cons, pvs_nil, tmPure _ d8, tmPure _ h])
    cases b : decide (x = e)
    · simp only [↓wpre, wset, wcore, ne_eq, if_true, if_false, exists_eq_left', true_implies, false_implies, exists_const, exists_eq_right, binA, intA, loadA, storeA, pickC, setAt, mapO, argsE, X.isC, resA, oneA, unA, boundA, eqiA, eqsA, fillA, fillE, ASt.fz, strA, Nat.reduceEqDiff, Nat.reduceLT, ↓reduceIte, reduceCtorEq, Nat.reduceAdd, Nat.reduceLeDiff, Int.reduceBEq, Int.reduceBNe, Int.reduceLT, Int.reduceLE, Int.reduceGT, Int.reduceGE, Nat.reduceDiv, Nat.reduceMul, Nat.reduceBEq, Nat.reduceMod, Nat.reduceSub, e0, e3, e5, hdec, d4, d5, d6, hall, l1, l2, cr, b]
      exact EQ_in ⟨j + 1, by omega, rfl, e0, e3, next_ixv (by unfold lenB at *; omega), by omega, take_next (P := fun x => x ≠ e) d0 hn (by simpa using b)⟩
    · have hx : x = e := by simpa using b
      subst hx
      obtain ⟨m1, m2⟩ := idx_first d0 hn
      simp only [↓wpre, wset, wcore, ne_eq, if_true, if_false, exists_eq_left', true_implies, false_implies, exists_const, exists_eq_right, binA, intA, loadA, storeA, pickC, setAt, mapO, argsE, X.isC, resA, oneA, unA, boundA, eqiA, eqsA, fillA, fillE, ASt.fz, strA, Nat.reduceEqDiff, Nat.reduceLT, ↓reduceIte, reduceCtorEq, Nat.reduceAdd, Nat.reduceLeDiff, Int.reduceBEq, Int.reduceBNe, Int.reduceLT, Int.reduceLE, Int.reduceGT, Int.reduceGE, Nat.reduceDiv, Nat.reduceMul, Nat.reduceBEq, Nat.reduceMod, Nat.reduceSub, e0, e3, e5, hdec, d4, d5, d6, hall, l1, l2, cr, b]
      rw [posT, if_pos m1, m2]
  · have hdec : decide ((j : Int) < al.length) = false := by simpa using hge
    rw [List.take_of_length_le (by omega)] at hn
    simp only [↓wpre, wset, wcore, ne_eq, if_true, if_false, exists_eq_left', true_implies, false_implies, exists_const, exists_eq_right, binA, intA, loadA, storeA, pickC, setAt, mapO, argsE, X.isC, resA, oneA, unA, boundA, eqiA, eqsA, fillA, fillE, ASt.fz, strA, Nat.reduceEqDiff, Nat.reduceLT, ↓reduceIte, reduceCtorEq, Nat.reduceAdd, Nat.reduceLeDiff, Int.reduceBEq, Int.reduceBNe, Int.reduceLT, Int.reduceLE, Int.reduceGT, Int.reduceGE, Nat.reduceDiv, Nat.reduceMul, Nat.reduceBEq, Nat.reduceMod, Nat.reduceSub, e0, e3, e5, hdec]
    rw [posT, if_neg fun hm => hn e hm rfl]
theorem strip_pure (t : Tl) : t.strip.pure = true := by cases t <;> rfl
/-- A call with a slice that is appended to elsewhere. -/
theorem call_sl {f : FuncId} {al : List AV} {t : Tl} {a : AV} {PR : AV → Prop} (h : Out md pfs f [.sl al t.strip, a] PR fun _ => False) (hm : md f = .pure) (h1 : pureAVs al = true) (h2 : pureAV a = true) (s : ASt) : ∃ v, PR v ∧ ∀ K KP, CW (run md pfs) md false s f [.sl al t, a] K KP () = K v s := by
  have hp : mapO (purify 20 s) [.sl al t, a] = some [.sl al t.strip, a] := by
    have : purify 20 s (.sl al t) = some (.sl al t.strip) := by
      rw [pz_sl, mapO_at h1]; rfl
    simp only [mapO, this, purify20 h2]
  obtain ⟨v, hv, hc⟩ := h.callP hm hp
  refine ⟨v, hv, fun K KP => ?_⟩
  rw [hc, List.foldl_cons, List.foldl_cons, List.foldl_nil, fr_sl h1, fr_pure h2]
theorem enterL_app : ∀ (l : List Tm) (T : List Tm) (x : Tm), enterL T (l ++ [x]) = Tm.enter (enterL T l) x
  | [], T, x => by rw [List.nil_append, enterL, enterL, enterL]
  | y :: l, T, x => by rw [List.cons_append, enterL, enterL_app l, enterL]
theorem enterL_take {T : List Tm} {l : List Tm} {j : Nat} {x : Tm} (h : l[j]? = some x) : enterL T (l.take (j + 1)) = Tm.enter (enterL T (l.take j)) x := by
  rw [List.take_add_one, h]
  exact enterL_app _ _ _
theorem rEnter_rw (e : Tm) : ∀ {Tb : List Tm} {al : List AV} {t : Tl} {a : AV} {H : List AObj} {T : List Nat}, LIs Tm.Is Tb al → e.Is a → al.length + e.sz ≤ capB → App T al t →
    Rw 39 [.sl al t, a] ⟨H, T⟩ fun v s => ∃ al' t' T' G, v = .sl al' t' ∧ s = ⟨H ++ G, T'⟩ ∧ LIs Tm.Is (Tm.enter Tb e) al' ∧ App T' al' t' ∧ Oth T t T' t' ∧ al'.length ≤ al.length + e.sz := by
  induction e using Tm.ind with
  | h k i n ls kids ih =>
  intro Tb al t a H T hT h hsz hA
  have hpu := tmPure _ h
  obtain ⟨t1, t2, las, kas, rfl, g1, g2, g3, g4, g5, g6, g7, g8, g9⟩ := h.opn
  have hl2 := g9.len
  have hTl := hT.len
  rw [Tm.sz] at hsz
  refine rw_of pf39_is (Nat.le_of_ble_eq_true rfl) ?_
  have hx : ∀ {al' : List AV} {T2 : List Tm} {t' : Tl} (s : ASt), LIs Tm.Is T2 al' → al'.length ≤ lenB → ∃ v, v = AV.int (posT T2 (.mk k i n ls kids)) ∧ ∀ K KP, CW (run md pfs) md false s 41 [.sl al' t', .agg [.int k, .int i, .str n, .sl las t1, .sl kas t2]] K KP () = K v s := fun {al' T2 t'} s h2 hl =>
    call_sl (position_ret h2 (strip_pure t') hl h) rfl (tmsPure h2) hpu s
  have hr : Tm.enter Tb (.mk k i n ls kids) = if Tm.mk k i n ls kids ∈ Tb then Tb else if Tm.mk k i n ls kids ∈ enterL Tb kids then enterL Tb kids else enterL Tb kids ++ [Tm.mk k i n ls kids] := by rw [Tm.enter]
  obtain ⟨_, rfl, c1⟩ := hx (al' := al) (t' := t) ⟨H ++ [.cells false [.int k, .int i, .str n, .sl las t1, .sl kas t2]], T⟩ hT (by unfold lenB; unfold capB at hsz; omega)
  by_cases hm : Tm.mk k i n ls kids ∈ Tb
  · have hd : decide (posT Tb (.mk k i n ls kids) ≥ 0) = true := by rw [posT, if_pos hm]; simp
    simp only [pf39, ↓wpre, wset, wcore, ne_eq, if_true, if_false, exists_eq_left', true_implies, false_implies, exists_const, exists_eq_right, binA, intA, loadA, storeA, pickC, setAt, mapO, argsE, X.isC, resA, oneA, unA, boundA, eqiA, eqsA, fillA, fillE, ASt.fz, strA, Nat.reduceEqDiff, Nat.reduceLT, ↓reduceIte, reduceCtorEq, Nat.reduceAdd, Nat.reduceLeDiff, Int.reduceBEq, Int.reduceBNe, Int.reduceLT, Int.reduceLE, Int.reduceGT, Int.reduceGE, Nat.reduceDiv, Nat.reduceMul, Nat.reduceBEq, Nat.reduceMod, Nat.reduceSub, List.length_append, List.append_assoc, app_get_len, app_get_add, app_set_len, app_set_add, c1, hd, AQ_ret, AQ_normal]
    rw [hr, if_pos hm]
    exact ⟨_, _, _, _, rfl, rfl, hT, hA, .refl _ _, by omega⟩
  have hd : decide (posT Tb (.mk k i n ls kids) ≥ 0) = false := by rw [posT, if_neg hm]; rfl
  simp only [pf39, ↓wpre, wset, wcore, ne_eq, if_true, if_false, exists_eq_left', true_implies, false_implies, exists_const, exists_eq_right, binA, intA, loadA, storeA, pickC, setAt, mapO, argsE, X.isC, resA, oneA, unA, boundA, eqiA, eqsA, fillA, fillE, ASt.fz, strA, Nat.reduceEqDiff, Nat.reduceLT, ↓reduceIte, reduceCtorEq, Nat.reduceAdd, Nat.reduceLeDiff, Int.reduceBEq, Int.reduceBNe, Int.reduceLT, Int.reduceLE, Int.reduceGT, Int.reduceGE, Nat.reduceDiv, Nat.reduceMul, Nat.reduceBEq, Nat.reduceMod, Nat.reduceSub, List.length_append, List.append_assoc, app_get_len, app_get_add, app_set_len, app_set_add, c1, hd]
  refine W_loopE (fun j => kas.length - j) (fun j E H' T' => ∃ G al' t', H' = H ++ (.cells false [.int k, .int i, .str n, .sl las t1, .sl kas t2] :: G) ∧ E 0 = .sl al' t' ∧ E 3 = .ptr H.length 0 ∧ E 5 = .int (j : Nat) ∧ j ≤ kas.length ∧ LIs Tm.Is (enterL Tb (kids.take j)) al' ∧ App T' al' t' ∧ Oth T t T' t' ∧ al'.length ≤ al.length + tszL (kids.take j)) ?_ 0 ⟨[], al, t, rfl, rfl, rfl, rfl, Nat.zero_le _, by rw [List.take_zero, enterL]; exact hT, hA, .refl _ _, by simp⟩
  rintro j E H' T' ⟨G, al', t', rfl, e0, e3, e5, hj, hT', hA', ho, hle⟩
  rcases Nat.lt_or_ge j kas.length with hlt | hge
  · have hdec : decide ((j : Int) < kas.length) = true := by simpa using hlt
    obtain ⟨x, c, d0, d1, d3, d4, d5, d6, d7, d8⟩ := g9.get tmAgg hlt
    obtain ⟨s1, s2⟩ := tsz_split d0
    have hall := g9.all tmAgg
    obtain ⟨_, _, ⟨al2, t3, T2, G2, rfl, rfl, q1, q2, q3, q4⟩, cv⟩ := (ih x d3 (Tb := enterL Tb (kids.take j)) (H := H ++ (.cells false [.int k, .int i, .str n, .sl las t1, .sl kas t2] :: G)) (T := T') hT' d8 (by omega) hA').call rfl
    simp only [↓wpre, wset, wcore, ne_eq, if_true, if_false, exists_eq_left', true_implies, false_implies, exists_const, exists_eq_right, binA, intA, loadA, storeA, pickC, setAt, mapO, argsE, X.isC, resA, oneA, unA, boundA, eqiA, eqsA, fillA, fillE, ASt.fz, strA, Nat.reduceEqDiff, Nat.reduceLT, ↓reduceIte, reduceCtorEq, Nat.reduceAdd, Nat.reduceLeDiff, Int.reduceBEq, Int.reduceBNe, Int.reduceLT, Int.reduceLE, Int.reduceGT, Int.reduceGE, Nat.reduceDiv, Nat.reduceMul, Nat.reduceBEq, Nat.reduceMod, Nat.reduceSub, List.length_append, List.append_assoc, app_get_len, app_get_add, app_set_len, app_set_add, e0, e3, e5, hdec, d4, d5, d6, hall, cv]
    exact EQ_in ⟨j + 1, by omega, _, _, _, rfl, rfl, e3, next_ixv (by unfold lenB at *; omega), by omega, by rw [enterL_take d0]; exact q1, q2, ho.trans q3, by omega⟩
  · have hdec : decide ((j : Int) < kas.length) = false := by simpa using hge
    rw [List.take_of_length_le (by omega)] at hT' hle
    obtain ⟨_, rfl, c2⟩ := hx (al' := al') (t' := t') ⟨H ++ (.cells false [.int k, .int i, .str n, .sl las t1, .sl kas t2] :: G), T'⟩ hT' (by unfold lenB; unfold capB at hsz; omega)
    by_cases hm2 : Tm.mk k i n ls kids ∈ enterL Tb kids
    · have hd2 : decide (posT (enterL Tb kids) (.mk k i n ls kids) ≥ 0) = true := by rw [posT, if_pos hm2]; simp
      simp only [↓wpre, wset, wcore, ne_eq, if_true, if_false, exists_eq_left', true_implies, false_implies, exists_const, exists_eq_right, binA, intA, loadA, storeA, pickC, setAt, mapO, argsE, X.isC, resA, oneA, unA, boundA, eqiA, eqsA, fillA, fillE, ASt.fz, strA, Nat.reduceEqDiff, Nat.reduceLT, ↓reduceIte, reduceCtorEq, Nat.reduceAdd, Nat.reduceLeDiff, Int.reduceBEq, Int.reduceBNe, Int.reduceLT, Int.reduceLE, Int.reduceGT, Int.reduceGE, Nat.reduceDiv, Nat.reduceMul, Nat.reduceBEq, Nat.reduceMod, Nat.reduceSub, List.length_append, List.append_assoc, app_get_len, app_get_add, app_set_len, app_set_add, e0, e3, e5, hdec, c2, hd2, AQ_ret, AQ_normal]
      rw [hr, if_neg hm, if_pos hm2]
      exact ⟨_, _, _, _, rfl, rfl, hT', hA', ho, by rw [Tm.sz]; omega⟩
    · have hd2 : decide (posT (enterL Tb kids) (.mk k i n ls kids) ≥ 0) = false := by rw [posT, if_neg hm2]; rfl
      have hall := hT'.all tmAgg
      obtain ⟨t4, T4, f1, f2, f3⟩ := app_many (es := 5) (xs := [.agg [.int k, .int i, .str n, .sl las t1, .sl kas t2]]) hA' (by simp only [List.length_singleton]; omega) hall rfl
      simp only [↓wpre, wset, wcore, ne_eq, if_true, if_false, exists_eq_left', true_implies, false_implies, exists_const, exists_eq_right, binA, intA, loadA, storeA, pickC, setAt, mapO, argsE, X.isC, resA, oneA, unA, boundA, eqiA, eqsA, fillA, fillE, ASt.fz, strA, Nat.reduceEqDiff, Nat.reduceLT, ↓reduceIte, reduceCtorEq, Nat.reduceAdd, Nat.reduceLeDiff, Int.reduceBEq, Int.reduceBNe, Int.reduceLT, Int.reduceLE, Int.reduceGT, Int.reduceGE, Nat.reduceDiv, Nat.reduceMul, Nat.reduceBEq, Nat.reduceMod, Nat.reduceSub, List.length_append, List.append_assoc, app_get_len, app_get_add, app_set_len, app_set_add, e0, e3, e5, hdec, c2, hd2, srcA_sl, f1, AQ_ret, AQ_normal]
      rw [hr, if_neg hm, if_neg hm2]
      exact ⟨_, _, _, _, rfl, rfl, hT'.append (.one h), f2, ho.trans f3, by rw [Tm.sz, List.length_append, List.length_singleton]; omega⟩
end Go.Proofs.Eng
