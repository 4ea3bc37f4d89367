/- The elimination: the program's. No conditions beyond those in the theorems. -/
import Derived.Test.YtglembbmmnakaaaDoorF16
set_option linter.all false
set_option linter.deprecated false
set_option linter.unnecessarySimpa false
set_option linter.unusedVariables false
set_option linter.unusedSimpArgs false
set_option linter.defProp false
namespace Go.Proofs.Eng
open Go Go.Proofs
set_option maxRecDepth 100000
set_option maxHeartbeats 16000000
theorem App.more {T : List Nat} {l : List AV} {t : Tl} (h : App T l t) (Z : List Nat) : App (T ++ Z) l t := by
  rcases h with h | ⟨h1, id, ver, rfl, h2⟩
  · exact .inl h
  · exact .inr ⟨h1, id, ver, rfl, by rw [List.getElem?_append_left (List.getElem?_eq_some_iff.1 h2).1]; exact h2⟩
theorem inis_all {n : Nat} {H : List AObj} : ∀ {l : List Rw} {al : List AV}, LIs (IniR n H) l al → (al.all fun x => x.cells.length == 2) = true
  | [], [], _ => rfl
  | _ :: _, [], h => by simp [LIs] at h
  | [], _ :: _, h => by simp [LIs] at h
  | x :: l, a :: al, h => by
    simp only [LIs] at h
    obtain ⟨⟨t', i, fz, rfl, _⟩, h2⟩ := h
    rw [List.all_cons, inis_all h2]; rfl
theorem unit_cells {n k : Nat} (h : k < n) : AObj.cells false (List.take k (ints (List.replicate n 0)) ++ AV.v (Value.int IntKind.i64 1) :: List.drop (k + 1) (ints (List.replicate n 0))) = .cells false (ints (unitL n k)) := by
  rw [unitL, List.set_eq_take_append_cons_drop, if_pos (by simpa using h), ints_app, ← ints_take]
  simp [ints]
/-- A call whose arguments are made pure, that may panic. -/
theorem Out.callV2 {f : FuncId} {args args' : List AV} {s : ASt} {PR PP : AV → Prop} (h : Out md pfs f args' PR PP) (hm : md f = .pure) (ha : mapO (purify 20 s) args = some args') : (∃ v, PR v ∧ ∀ K KP, CW (run md pfs) md false s f args K KP () = K v (args.foldl (frz 20) s)) ∨ (∃ v, PP v ∧ ∀ K KP, CW (run md pfs) md false s f args K KP () = KP v (args.foldl (frz 20) s)) := by
  obtain ⟨out, s', out', h1, h2, h3⟩ := h
  cases out' with
  | pan v => exact .inr ⟨v, h3, fun K KP => by simp [CW, callA, hm, ha, h1, h2]⟩
  | ret v => exact .inl ⟨v, h3, fun K KP => by simp [CW, callA, hm, ha, h1, h2]⟩
theorem fz_args {H : List AObj} {T : List Nat} (args : List AV) : ∃ H', args.foldl (frz 20) ⟨H, T⟩ = ⟨H', T⟩ ∧ FzLe ⟨H, T⟩ ⟨H', T⟩ := by
  have hf := fold_le (frz_le 20) args ⟨H, T⟩
  generalize args.foldl (frz 20) ⟨H, T⟩ = s' at *
  obtain ⟨H', T'⟩ := s'
  obtain rfl : T' = T := hf.T
  exact ⟨H', rfl, hf⟩
theorem call35 {n w : Nat} {H : List AObj} {T : List Nat} {l : List Rw} {cur : AV} (hC : CurR n H l cur) (hE : ∀ r ∈ l, RowE w n r) (hl : l.length ≤ 500) (hw0 : 0 < w) (hw : w ≤ 9) : ∃ H', FzLe ⟨H, T⟩ ⟨H', T⟩ ∧ ∃ v, Refd l v ∧ ∀ K KP, CW (run md pfs) md false ⟨H, T⟩ 35 [cur] K KP () = K v ⟨H', T⟩ := by
  obtain ⟨a', p1, al', t', rfl, p2, p3⟩ := pz_cur (k := 16) (s := ⟨H, T⟩) hC
  obtain ⟨v, hv, hc⟩ := (refuting_ret p3 p2 hE hl hw0 hw).callV (args := [cur]) (s := ⟨H, T⟩) rfl (by simp only [mapO, p1])
  obtain ⟨H', e, hf⟩ := fz_args (H := H) (T := T) [cur]
  rw [e] at hc
  exact ⟨H', hf, v, hv, hc⟩
theorem call36 {n w j : Nat} {H : List AObj} {T : List Nat} {l : List Rw} {cur : AV} (hC : CurR n H l cur) (hE : ∀ r ∈ l, RowE w n r) (hl : l.length ≤ 500) (hj : j < w) (hw : w ≤ 9) (hm : n ≤ 24) : ∃ H', FzLe ⟨H, T⟩ ⟨H', T⟩ ∧ ((∃ v, (∃ l' al' t', stageR j l = .ok l' ∧ v = .sl al' t' ∧ t'.pure = true ∧ LIs RwIs l' al' ∧ (∀ r ∈ l', RowE w n r) ∧ l'.length ≤ 500) ∧ ∀ K KP, CW (run md pfs) md false ⟨H, T⟩ 36 [cur, .int (j : Nat)] K KP () = K v ⟨H', T⟩) ∨ (∃ v, (∃ e : Nat, stageR j l = .error e ∧ v = .iface 28 (.int e)) ∧ ∀ K KP, CW (run md pfs) md false ⟨H, T⟩ 36 [cur, .int (j : Nat)] K KP () = KP v ⟨H', T⟩)) := by
  obtain ⟨a', p1, al', t', rfl, p2, p3⟩ := pz_cur (k := 16) (s := ⟨H, T⟩) hC
  have := (stage_ret p3 p2 hE hl hj hw hm).callV2 (args := [cur, .int (j : Nat)]) (s := ⟨H, T⟩) rfl (by simp only [mapO, p1, purify_pure (show pureAV (AV.int (j : Nat)) = true from rfl)])
  obtain ⟨H', e, hf⟩ := fz_args (H := H) (T := T) [cur, .int (j : Nat)]
  rw [e] at this
  exact ⟨H', hf, this⟩
theorem eliminate_ret {rows : List (List Int)} {al : List AV} {t : Tl} {w : Nat} (h : LIs RowIs rows al) (ht : t.pure = true) (hR : RightS rows w) (hne : 0 < rows.length) : Out md pfs 25 [.sl al t] (ElimV (elimA rows)) fun v => ∃ e : Nat, elimA rows = .err e ∧ v = .iface 28 (.int e) := by
  have hln := h.len
  have hall := rows_all h
  have hfew := hR.few
  obtain ⟨hw0, hw9⟩ := hR.pos hne
  refine out_of pf25_is (Nat.le_of_ble_eq_true rfl) ?_
  simp only [pf25, ↓wpre, wset, wcore, ne_eq, if_true, if_false, exists_eq_left', true_implies, false_implies, exists_const, exists_eq_right, binA, intA, loadA, storeA, pickC, setAt, mapO, argsE, X.isC, resA, oneA, unA, boundA, eqiA, eqsA, fillA, fillE, ASt.fz, strA, Nat.reduceEqDiff, Nat.reduceLT, ↓reduceIte, reduceCtorEq, Nat.reduceAdd, Nat.reduceLeDiff, Int.reduceBEq, Int.reduceBNe, Int.reduceLT, Int.reduceLE, Int.reduceGT, Int.reduceGE, Nat.reduceDiv, Nat.reduceMul, Nat.reduceBEq, Nat.reduceMod, Nat.reduceSub]
  refine W_loopE (fun k => al.length - k) (fun k E H T => ∃ bl tt, E 0 = .sl al t ∧ E 5 = .sl bl tt ∧ E 15 = .sl al t ∧ E 16 = .int al.length ∧ E 17 = .int (k : Nat) ∧ k ≤ al.length ∧ LIs (IniR rows.length H) (iniP rows rows.length k) bl ∧ App T bl tt) ?_ 0 ⟨[], .nil, rfl, rfl, rfl, rfl, rfl, Nat.zero_le _, trivial, app_start _⟩
  rintro k E H T ⟨bl, tt, e0, e5, e15, e16, e17, hk, hL, hA⟩
  have hbl := hL.len
  rw [iniP_len] at hbl
  rcases Nat.lt_or_ge k al.length with hlt | hge
  · have hdec : decide ((k : Int) < (al.length : Int)) = true := by simpa using hlt
    obtain ⟨x, tx, g1, g2, g3, g4, g5, g6⟩ := row_get h hlt
    have hxn : ints x ≠ [] := by rw [← List.length_pos_iff, ints_len, hR.len x g2]; exact hw0
    obtain ⟨ap1, hA1⟩ := app_cap (T := T) hxn
    replace ap1 := fun H => ap1 H (by rw [ints_len, hR.len x g2]; unfold capB; omega) (ints_okl _)
    have hm : (0 : Int) ≤ ((al.length : Nat) : Int) ∧ ((al.length : Nat) : Int) ≤ 1073741824 := by omega
    have htn : ((al.length : Nat) : Int).toNat = al.length := Int.toNat_natCast _
    obtain ⟨t', T', ap2, hA2, _⟩ := app_one (es := 2) (x := .agg [.sl (ints x) (.tl T.length 0), .bs H.length 0 al.length 1 false]) (hA.more [0]) (by unfold capB; omega) (inis_all hL) rfl rfl
    have hkw : ((k : Int) < (al.length : Int)) = True := eq_true (by omega)
    have hxa := ints_all x
    simp only [↓wpre, wset, wcore, ne_eq, if_true, if_false, exists_eq_left', true_implies, false_implies, exists_const, exists_eq_right, binA, intA, loadA, storeA, pickC, setAt, mapO, argsE, X.isC, resA, oneA, unA, boundA, eqiA, eqsA, fillA, fillE, ASt.fz, strA, Nat.reduceEqDiff, Nat.reduceLT, ↓reduceIte, reduceCtorEq, Nat.reduceAdd, Nat.reduceLeDiff, Int.reduceBEq, Int.reduceBNe, Int.reduceLT, Int.reduceLE, Int.reduceGT, Int.reduceGE, Nat.reduceDiv, Nat.reduceMul, Nat.reduceBEq, Nat.reduceMod, Nat.reduceSub, List.length_append, List.append_assoc, app_get_len, app_get_add, app_set_len, app_set_add, e0, e5, e15, e16, e17, hdec, g3, hall, hm, htn, flat_rep, hkw, ap1, ap2, Nat.mul_one]
    refine ⟨by rw [ints_len, List.length_replicate]; omega, EQ_in ⟨k + 1, by omega, _, t', e0, rfl, e15, e16, next_ixv (by unfold lenB; omega), by omega, ?_, hA2⟩⟩
    rw [iniP]
    refine (hL.mono fun _ _ _ h => h.grow _).append (.one ⟨.tl T.length 0, H.length, false, ?_, ?_, by rw [unit_len]⟩)
    · rw [List.getD_eq_getElem?_getD, g1, hln]; rfl
    · rw [app_get_len, List.getElem?_cons_zero, unit_cells (by omega), hln]
  obtain rfl : k = al.length := by omega
  have hdec : decide ((al.length : Int) < (al.length : Int)) = false := by simp
  rw [hln] at hL
  obtain ⟨t0, k1, k2⟩ := head_of h (by omega)
  have hhd : (rows.headD []).length = w := by
    cases rows with
    | nil => simp at hne
    | cons r rows => exact hR.len r (by simp)
  simp only [↓wpre, wset, wcore, ne_eq, if_true, if_false, exists_eq_left', true_implies, false_implies, exists_const, exists_eq_right, binA, intA, loadA, storeA, pickC, setAt, mapO, argsE, X.isC, resA, oneA, unA, boundA, eqiA, eqsA, fillA, fillE, ASt.fz, strA, Nat.reduceEqDiff, Nat.reduceLT, ↓reduceIte, reduceCtorEq, Nat.reduceAdd, Nat.reduceLeDiff, Int.reduceBEq, Int.reduceBNe, Int.reduceLT, Int.reduceLE, Int.reduceGT, Int.reduceGE, Nat.reduceDiv, Nat.reduceMul, Nat.reduceBEq, Nat.reduceMod, Nat.reduceSub, List.length_append, List.append_assoc, app_get_len, app_get_add, app_set_len, app_set_add, e0, e5, e15, e16, e17, hdec]
  refine W_loopE (fun j => w - 1 - j) (fun j E H T => ∃ l cur ss sal tt, E 0 = .sl al t ∧ E 5 = cur ∧ E 9 = .sl sal tt ∧ E 10 = .int (j : Nat) ∧ j ≤ w - 1 ∧ CurR rows.length H l cur ∧ LIs (CurR rows.length H) ss sal ∧ AppC T sal tt ∧ elimR (w - 1) (w - 1 - j) l ss = elimA rows ∧ (∀ r ∈ l, RowE w rows.length r) ∧ l.length ≤ 500 ∧ sal.length = j + 1) ?_ 0 ⟨iniL rows, .sl bl tt, [iniL rows], [.sl bl tt], .cap 1, e0, e5, rfl, rfl, Nat.zero_le _, ⟨bl, tt, rfl, .inr hL⟩, .one ⟨bl, tt, rfl, .inr hL⟩, .inr rfl, by rw [elimA, hhd]; rfl, iniP_E hR _ (Nat.le_refl _), by rw [iniL, iniP_len]; omega, rfl⟩
  clear e0 e5 e15 e16 e17 hdec hL hA hbl hk hge bl tt
  rintro j E H T ⟨l, cur, ss, sal, tt, e0, e5, e9, e10, hj, hC, hS, hA, hel, hlE, hl, hsl⟩
  have hwr : IntKind.i64.wrap (((ints (rows.headD [])).length : Nat) - 1 : Int) = ((w - 1 : Nat) : Int) := by rw [ints_len, hhd, wrap_in (by unfold Eng.in64; omega)]; omega
  obtain ⟨H1, hf1, v1, hv1, c35⟩ := call35 (T := T) hC hlE hl hw0 hw9
  have hC1 := hC.fz hf1
  have hS1 : LIs (CurR rows.length H1) ss sal := hS.mono fun _ _ _ h => h.fz hf1
  rcases Nat.lt_or_ge j (w - 1) with hjl | hjg
  · have hdec : decide ((j : Int) < ((w - 1 : Nat) : Int)) = true := decide_eq_true (by omega)
    rw [show w - 1 - j = (w - 1 - (j + 1)) + 1 by omega, elimR] at hel
    rcases hv1 with ⟨r, u, hr, rfl, hu⟩ | ⟨hno, rfl⟩
    · rw [hr] at hel
      simp only [↓wpre, wset, wcore, ne_eq, if_true, if_false, exists_eq_left', true_implies, false_implies, exists_const, exists_eq_right, binA, intA, loadA, storeA, pickC, setAt, mapO, argsE, X.isC, resA, oneA, unA, boundA, eqiA, eqsA, fillA, fillE, ASt.fz, strA, Nat.reduceEqDiff, Nat.reduceLT, ↓reduceIte, reduceCtorEq, Nat.reduceAdd, Nat.reduceLeDiff, Int.reduceBEq, Int.reduceBNe, Int.reduceLT, Int.reduceLE, Int.reduceGT, Int.reduceGE, Nat.reduceDiv, Nat.reduceMul, Nat.reduceBEq, Nat.reduceMod, Nat.reduceSub, e0, e5, e9, e10, k1, hall, hwr, hdec, c35]
      rw [purify_pure (by simp [pv_sl, hu, ints_pure]), ← hel]
      exact ⟨_, rfl, _, u, rfl, rfl, hu⟩
    · rw [hno] at hel
      simp only at hel
      rw [show w - 1 - (w - 1 - (j + 1) + 1) = j by omega] at hel
      obtain ⟨H2, hf2, ⟨v2, hv2, c36⟩ | ⟨v2, hv2, c36⟩⟩ := call36 (T := T) hC1 hlE hl (show j < w by omega) hw9 hfew
      · obtain ⟨l', al', t', hst, rfl, ht', hL', hE', hl'⟩ := hv2
        rw [hst] at hel
        have hC2 : CurR rows.length H2 l' (.sl al' t') := ⟨al', t', rfl, .inl ⟨hL', ht'⟩⟩
        have hS2 : LIs (CurR rows.length H2) ss sal := hS1.mono fun _ _ _ h => h.fz hf2
        obtain ⟨t2, T2, ap, hA2⟩ := app_one' (es := 1) (x := .sl al' t') hA (by unfold capB; omega) (curs_all hS2) rfl rfl
        simp only [↓wpre, wset, wcore, ne_eq, if_true, if_false, exists_eq_left', true_implies, false_implies, exists_const, exists_eq_right, binA, intA, loadA, storeA, pickC, setAt, mapO, argsE, X.isC, resA, oneA, unA, boundA, eqiA, eqsA, fillA, fillE, ASt.fz, strA, Nat.reduceEqDiff, Nat.reduceLT, ↓reduceIte, reduceCtorEq, Nat.reduceAdd, Nat.reduceLeDiff, Int.reduceBEq, Int.reduceBNe, Int.reduceLT, Int.reduceLE, Int.reduceGT, Int.reduceGE, Nat.reduceDiv, Nat.reduceMul, Nat.reduceBEq, Nat.reduceMod, Nat.reduceSub, e0, e5, e9, e10, k1, hall, hwr, hdec, c35, c36, ap]
        exact EQ_in ⟨j + 1, by omega, l', _, ss ++ [l'], _, t2, e0, rfl, rfl, next_ixv (by unfold lenB; omega), by omega, hC2, hS2.append (.one hC2), .inl hA2, hel, hE', hl', by simp; omega⟩
      · obtain ⟨e, hst, rfl⟩ := hv2
        rw [hst] at hel
        simp only [↓wpre, wset, wcore, ne_eq, if_true, if_false, exists_eq_left', true_implies, false_implies, exists_const, exists_eq_right, binA, intA, loadA, storeA, pickC, setAt, mapO, argsE, X.isC, resA, oneA, unA, boundA, eqiA, eqsA, fillA, fillE, ASt.fz, strA, Nat.reduceEqDiff, Nat.reduceLT, ↓reduceIte, reduceCtorEq, Nat.reduceAdd, Nat.reduceLeDiff, Int.reduceBEq, Int.reduceBNe, Int.reduceLT, Int.reduceLE, Int.reduceGT, Int.reduceGE, Nat.reduceDiv, Nat.reduceMul, Nat.reduceBEq, Nat.reduceMod, Nat.reduceSub, e0, e5, e9, e10, k1, hall, hwr, hdec, c35, c36]
        exact ⟨e, hel.symm, rfl⟩
  · have hdec : decide ((j : Int) < ((w - 1 : Nat) : Int)) = false := decide_eq_false (by omega)
    rw [show w - 1 - j = 0 by omega, elimR] at hel
    have pz := fun T => pz_sts (k := 13) (s := ⟨H1, T⟩) (t := tt) hS1
    obtain ⟨s', p1, p2⟩ := pz T
    rcases hv1 with ⟨r, u, hr, rfl, hu⟩ | ⟨hno, rfl⟩
    · rw [hr] at hel
      simp only [↓wpre, wset, wcore, ne_eq, if_true, if_false, exists_eq_left', true_implies, false_implies, exists_const, exists_eq_right, binA, intA, loadA, storeA, pickC, setAt, mapO, argsE, X.isC, resA, oneA, unA, boundA, eqiA, eqsA, fillA, fillE, ASt.fz, strA, Nat.reduceEqDiff, Nat.reduceLT, ↓reduceIte, reduceCtorEq, Nat.reduceAdd, Nat.reduceLeDiff, Int.reduceBEq, Int.reduceBNe, Int.reduceLT, Int.reduceLE, Int.reduceGT, Int.reduceGE, Nat.reduceDiv, Nat.reduceMul, Nat.reduceBEq, Nat.reduceMod, Nat.reduceSub, e0, e5, e9, e10, k1, hall, hwr, hdec, c35]
      rw [p1, purify_pure (by simp [pv_sl, hu, ints_pure]), ← hel]
      exact ⟨_, rfl, s', u, rfl, stsPure p2, hu⟩
    · rw [hno] at hel
      simp only [↓wpre, wset, wcore, ne_eq, if_true, if_false, exists_eq_left', true_implies, false_implies, exists_const, exists_eq_right, binA, intA, loadA, storeA, pickC, setAt, mapO, argsE, X.isC, resA, oneA, unA, boundA, eqiA, eqsA, fillA, fillE, ASt.fz, strA, Nat.reduceEqDiff, Nat.reduceLT, ↓reduceIte, reduceCtorEq, Nat.reduceAdd, Nat.reduceLeDiff, Int.reduceBEq, Int.reduceBNe, Int.reduceLT, Int.reduceLE, Int.reduceGT, Int.reduceGE, Nat.reduceDiv, Nat.reduceMul, Nat.reduceBEq, Nat.reduceMod, Nat.reduceSub, e0, e5, e9, e10, k1, hall, hwr, hdec, c35]
      rw [p1, ← hel]
      exact ⟨_, rfl, s', rfl, p2⟩
end Go.Proofs.Eng
