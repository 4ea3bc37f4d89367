/- The reference's closure. No conditions beyond those in the theorems. -/
import Derived.Test.YtodnkbnbjhcikaaDoorH9
set_option linter.all false
set_option linter.deprecated false
set_option linter.unnecessarySimpa false
set_option linter.unusedVariables false
set_option linter.unusedSimpArgs false
set_option linter.defProp false
namespace Go.Proofs.Eng
open Go Go.Proofs
set_option maxRecDepth 100000
set_option maxHeartbeats 16000000
def closL (l : List Cl) : List Cl × Int :=
  if checkR l = 0 then match cloQ l with
    | some q => (srt q, 0)
    | none => ([], 6)
  else ([], checkR l)
def ResL (r : List Cl × Int) (v : AV) : Prop := ∃ al t, v = .tup [.sl al t, .int r.2] ∧ LIs ClIs r.1 al ∧ t.pure = true
theorem insert_call {ar : Int → Nat} {q : List Cl} {c : Cl} {la : List AV} {tl : Tl} {a : AV} (hL : LIs ClIs (srt q) la) (ht : tl.pure = true) (hc : ClIs c a) (hq : ∀ x ∈ q, Good ar x) (hg : Good ar c) (hn : q.Nodup) (hl : q.length ≤ 50000) :
    ∃ la' tl' b, (∀ pm s K KP, CW (run md pfs) md pm s 32 [.sl la tl, a] K KP () = K (.tup [.sl la' tl', .bool b]) s) ∧ LIs ClIs (srt (addQ q c)) la' ∧ tl'.pure = true ∧ (b = true ↔ c ∉ q) := by
  obtain ⟨h1, h2⟩ := srt_sorted hq
  obtain ⟨k1, k2, k3⟩ := srt_new hq hg
  have hlen := srt_len hq hn
  obtain ⟨_, ⟨al', t', rfl, m1, m2⟩, cc⟩ := (insert_ret hL hc (by rw [hL.len, hlen]; omega) (fun x hx => (hq x ((h2 x).1 hx)).ok) hg.ok ht).call rfl (by simp [pvs_cons, pvs_nil, pv_sl, ht, clsPure hL, hc.pure])
  exact ⟨al', t', _, cc, by rw [k2]; exact m1, m2, k1⟩
theorem addQ_good {ar : Int → Nat} {q : List Cl} {c : Cl} (hq : ∀ x ∈ q, Good ar x) (hc : Good ar c) : ∀ x ∈ addQ q c, Good ar x := fun x hx => by
  rcases addQ_mem.1 hx with h | rfl
  · exact hq x h
  · exact hc
theorem addQ_new {q : List Cl} {c : Cl} (h : c ∉ q) : addQ q c = q ++ [c] := if_neg h
theorem addQ_old {q : List Cl} {c : Cl} (h : c ∈ q) : addQ q c = q := if_pos h
theorem rclosure_ret {l : List Cl} {al : List AV} {t : Tl} (h : LIs ClIs l al) (ht : t.pure = true) (hl : al.length ≤ 1000) : Out md pfs 15 [.sl al t] (ResL (closL l)) fun _ => False := by
  have hall := h.all clAgg
  have hla := h.len
  obtain ⟨_, rfl, c31⟩ := (rcheck_ret (t := t) h (by unfold capB; omega)).call rfl (by simp [pvs_cons, pvs_nil, pv_sl, ht, clsPure h])
  refine out_of pf15_is (Nat.le_of_ble_eq_true rfl) ?_
  by_cases hck : checkR l = 0
  case neg =>
    have d1 : (checkR l != 0) = true := ibne hck
    have hr : closL l = ([], checkR l) := if_neg hck
    simp only [pf15, ↓wpre, wset, wcore, wext, ne_eq, if_true, if_false, exists_eq_left', true_implies, false_implies, exists_const, exists_eq_right, binA, intA, loadA, storeA, pickC, setAt, mapO, argsE, X.isC, resA, oneA, unA, boundA, eqiA, eqsA, fillA, fillE, ASt.fz, strA, simprocAttr, c31, d1]
    exact ⟨[], .nil, by rw [hr], by rw [hr]; trivial, rfl⟩
  have d1 : (checkR l != 0) = false := ibne' hck
  obtain ⟨ar, hg⟩ := check_good hck
  have hr : closL l = match cloQ l with
    | some q => (srt q, 0)
    | none => ([], 6) := if_pos hck
  simp only [pf15, ↓wpre, wset, wcore, wext, ne_eq, if_true, if_false, exists_eq_left', true_implies, false_implies, exists_const, exists_eq_right, binA, intA, loadA, storeA, pickC, setAt, mapO, argsE, X.isC, resA, oneA, unA, boundA, eqiA, eqsA, fillA, fillE, ASt.fz, strA, simprocAttr, c31, d1]
  refine W_loopE (fun j => al.length - j) (fun j E H T => E 0 = .sl al t ∧ E 7 = .int (j : Nat) ∧ j ≤ al.length ∧ ∃ q la tl qa tq, q = (l.take j).foldl addQ [] ∧ E 5 = .sl la tl ∧ E 6 = .sl qa tq ∧ LIs ClIs (srt q) la ∧ tl.pure = true ∧ LIs ClIs q qa ∧ App T qa tq ∧ q.Nodup ∧ (∀ x ∈ q, Good ar x) ∧ q.length ≤ j) ?_ 0 ⟨rfl, rfl, Nat.zero_le _, [], [], .nil, [], .nil, rfl, rfl, rfl, trivial, rfl, trivial, app_start _, by simp, by simp, Nat.zero_le _⟩
  rintro j E H T ⟨e0, e7, hj, q, la, tl, qa, tq, hq, e5, e6, hL, htl, hQ, hA, hnd, hgq, hlq⟩
  rcases Nat.lt_or_ge j al.length with hlt | hge
  · have q1 := dlt hlt
    obtain ⟨c, a, g1, g2, g3, g4⟩ := cl_get h hlt
    have hgc := hg c g2
    obtain ⟨la', tl', b, c32, hL', htl', hb⟩ := insert_call hL htl g4 hgq hgc hnd (by omega)
    have hq' : addQ q c = (l.take (j + 1)).foldl addQ [] := by rw [fold_take g1, ← hq]
    obtain ⟨bl, u, rfl, _⟩ := g4.of
    obtain ⟨t', T', ap, hA', _⟩ := app_one (es := 3) (x := .agg [.int c.f, .int c.t, .sl bl u]) hA (by rw [hQ.len]; unfold capB; omega) (hQ.all clAgg) rfl rfl
    cases b with
    | false =>
      have hin : c ∈ q := Classical.byContradiction fun h => by have := hb.2 h; cases this
      rw [addQ_old hin] at hq' hL'
      simp only [↓wpre, wset, wcore, wext, ne_eq, if_true, if_false, exists_eq_left', true_implies, false_implies, exists_const, exists_eq_right, binA, intA, loadA, storeA, pickC, setAt, mapO, argsE, X.isC, resA, oneA, unA, boundA, eqiA, eqsA, fillA, fillE, ASt.fz, strA, simprocAttr, List.length_append, List.append_assoc, app_get_len, app_get_add, app_set_len, app_set_add, e0, e5, e6, e7, q1, hall, g3, c32]
      exact EQ_in ⟨j + 1, by omega, e0, next_ixv (by unfold lenB; omega), by omega, q, la, tl, qa, tq, hq', e5, e6, hL, htl, hQ, hA, hnd, hgq, by omega⟩
    | true =>
      have hnin := hb.1 rfl
      have hnd' := addQ_nodup (c := c) hnd
      have hgq' := addQ_good hgq hgc
      have hln := addQ_len q c
      rw [addQ_new hnin] at hq' hL' hnd' hgq' hln
      simp only [↓wpre, wset, wcore, wext, ne_eq, if_true, if_false, exists_eq_left', true_implies, false_implies, exists_const, exists_eq_right, binA, intA, loadA, storeA, pickC, setAt, mapO, argsE, X.isC, resA, oneA, unA, boundA, eqiA, eqsA, fillA, fillE, ASt.fz, strA, simprocAttr, List.length_append, List.append_assoc, app_get_len, app_get_add, app_set_len, app_set_add, e0, e5, e6, e7, q1, hall, g3, c32, ap]
      exact EQ_in ⟨j + 1, by omega, e0, next_ixv (by unfold lenB; omega), by omega, _, la', tl', _, t', hq', rfl, rfl, hL', htl', hQ.append (.one g4), hA', hnd', hgq', by omega⟩
  have q1 := dltf hge
  rw [List.take_of_length_le (by omega), show l.foldl addQ [] = dedup l from rfl] at hq
  subst hq
  simp only [↓wpre, wset, wcore, wext, ne_eq, if_true, if_false, exists_eq_left', true_implies, false_implies, exists_const, exists_eq_right, binA, intA, loadA, storeA, pickC, setAt, mapO, argsE, X.isC, resA, oneA, unA, boundA, eqiA, eqsA, fillA, fillE, ASt.fz, strA, simprocAttr, e0, e5, e6, e7, q1]
  have hfl := dedup_len l
  have hfa := hQ.all clAgg
  have hfn := hQ.len
  have hdg := hgq
  generalize hfq : dedup l = fst at *
  refine W_loopE (fun i => 3000 - i) (fun i E H T => E 11 = .int (i : Nat) ∧ i ≤ 2001 ∧ E 10 = .sl qa tq ∧ ∃ q la tl qb tb, E 5 = .sl la tl ∧ E 6 = .sl qb tb ∧ LIs ClIs (srt q) la ∧ tl.pure = true ∧ LIs ClIs q qb ∧ App T qb tb ∧ q.Nodup ∧ (∀ x ∈ q, Good ar x) ∧ q.length ≤ 10000 ∧ i ≤ q.length ∧ bfs fst (2003 - i) i q = cloQ l) ?_ 0 ⟨rfl, by omega, rfl, fst, la, tl, qa, tq, e5, e6, hL, htl, hQ, hA, hnd, hgq, by omega, Nat.zero_le _, by unfold cloQ; rw [hfq]⟩
  clear e0 e5 e6 e7 hL htl hA hnd hgq hlq hj hge q1 E H T j la tl
  rintro i E H T ⟨e11, hi, e10, q, la, tl, qb, tb, e5, e6, hL, htl, hQb, hA, hnd, hgq, hlq, hiq, hbfs⟩
  have hqa := hQb.all clAgg
  have hqn := hQb.len
  have hsl : la.length = q.length := by rw [hL.len, srt_len hgq hnd]
  have hpL := clsPure hL
  obtain ⟨kf, hkf⟩ : ∃ kf, 2003 - i = kf + 1 := ⟨2002 - i, by omega⟩
  rw [hkf, bfs] at hbfs
  rcases Nat.lt_or_ge i q.length with hlt | hge
  · obtain ⟨x, xa, p1, p2, p3, p4⟩ := cl_get hQb (show i < qb.length by omega)
    rw [p1] at hbfs
    simp only at hbfs
    have q1 := dlt (show i < qb.length by omega)
    have hgx := hgq x p2
    obtain ⟨bl, u, rfl, _⟩ := p4.of
    by_cases hbig : q.length > 2000
    · have d2 : decide ((la.length : Int) > 2000) = true := by simp only [decide_eq_true_eq]; omega
      rw [if_pos hbig] at hbfs
      rw [← hbfs] at hr
      simp only [↓wpre, wset, wcore, wext, ne_eq, if_true, if_false, exists_eq_left', true_implies, false_implies, exists_const, exists_eq_right, binA, intA, loadA, storeA, pickC, setAt, mapO, argsE, X.isC, resA, oneA, unA, boundA, eqiA, eqsA, fillA, fillE, ASt.fz, strA, simprocAttr, e5, e6, e10, e11, q1, d2]
      exact ⟨[], .nil, by rw [hr], by rw [hr]; trivial, rfl⟩
    · have d2 : decide ((la.length : Int) > 2000) = false := by simp only [decide_eq_false_iff_not]; omega
      rw [if_neg hbig] at hbfs
      simp only [↓wpre, wset, wcore, wext, ne_eq, if_true, if_false, exists_eq_left', true_implies, false_implies, exists_const, exists_eq_right, binA, intA, loadA, storeA, pickC, setAt, mapO, argsE, X.isC, resA, oneA, unA, boundA, eqiA, eqsA, fillA, fillE, ASt.fz, strA, simprocAttr, e5, e6, e10, e11, q1, d2]
      refine W_loopE (fun J => fst.length - J) (fun J E H T => E 11 = .int (i : Nat) ∧ E 10 = .sl qa tq ∧ E 12 = .int (J : Nat) ∧ J ≤ fst.length ∧ ∃ q' la tl qb' tb, E 5 = .sl la tl ∧ E 6 = .sl qb' tb ∧ LIs ClIs (srt q') la ∧ tl.pure = true ∧ LIs ClIs q' qb' ∧ App T qb' tb ∧ q'.Nodup ∧ (∀ x ∈ q', Good ar x) ∧ q'.length ≤ q.length + J ∧ q.length ≤ q'.length ∧ qb'[i]? = some (.agg [.int x.f, .int x.t, .sl bl u]) ∧ q' = (fst.take J).foldl (fun q d => if x.t = d.f then addQ q (comp x d) else q) q) ?_ 0 ⟨e11, e10, rfl, Nat.zero_le _, q, la, tl, qb, tb, e5, e6, hL, htl, hQb, hA, hnd, hgq, by omega, by omega, p3, rfl⟩
      clear e5 e6 e10 e11 hL htl hA hqa hsl hpL d2 E H T la tl tb
      rintro J E H T ⟨e11, e10, e12, hJ, q', la, tl, qb', tb, e5, e6, hL, htl, hQb', hA, hnd', hgq', hlq', hlq2, px, hq'⟩
      have hqa := hQb'.all clAgg
      rcases Nat.lt_or_ge J fst.length with hJl | hJg
      · have q2 := dlt (show J < qa.length by omega)
        obtain ⟨d, da, w1, w2, w3, w4⟩ := cl_get hQ (show J < qa.length by omega)
        have hgd := hdg d w2
        obtain ⟨dl, du, rfl, _⟩ := w4.of
        by_cases hxd : x.t = d.f
        · have d3 := ibne' hxd
          obtain ⟨cv, hcv, c33⟩ := (compose_ret p4 w4 hgx.wm (by rw [hxd]; exact hgd.wm) hgx.r1.1 hgx.c1.2 hgx.r1.2 hgd.r1.2).call rfl (by simp [pvs_cons, pvs_nil, p4.pure, w4.pure])
          have hgc := comp_good hgx hgd hxd
          obtain ⟨la', tl', b, c32, hL', htl', hb⟩ := insert_call hL htl hcv hgq' hgc hnd' (by omega)
          have hq2 : addQ q' (comp x d) = (fst.take (J + 1)).foldl (fun q d => if x.t = d.f then addQ q (comp x d) else q) q := by rw [fold_take w1, ← hq', if_pos hxd]
          obtain ⟨cl, cu, rfl, _⟩ := hcv.of
          obtain ⟨t', T', ap, hA', _⟩ := app_one (es := 3) (x := .agg [.int (comp x d).f, .int (comp x d).t, .sl cl cu]) hA (by rw [hQb'.len]; unfold capB; omega) (hQb'.all clAgg) rfl rfl
          cases b with
          | false =>
            have hin : comp x d ∈ q' := Classical.byContradiction fun h => by have := hb.2 h; cases this
            rw [addQ_old hin] at hq2 hL'
            simp only [↓wpre, wset, wcore, wext, ne_eq, if_true, if_false, exists_eq_left', true_implies, false_implies, exists_const, exists_eq_right, binA, intA, loadA, storeA, pickC, setAt, mapO, argsE, X.isC, resA, oneA, unA, boundA, eqiA, eqsA, fillA, fillE, ASt.fz, strA, simprocAttr, List.length_append, List.append_assoc, app_get_len, app_get_add, app_set_len, app_set_add, e5, e6, e10, e11, e12, q2, px, w3, hfa, hqa, d3, c33, c32]
            exact EQ_in ⟨J + 1, by omega, e11, e10, next_ixv (by unfold lenB; omega), by omega, q', la, tl, qb', tb, e5, e6, hL, htl, hQb', hA, hnd', hgq', by omega, hlq2, px, hq2⟩
          | true =>
            have hnin := hb.1 rfl
            have hnd2 := addQ_nodup (c := comp x d) hnd'
            have hgq2 := addQ_good hgq' hgc
            have hln := addQ_len q' (comp x d)
            rw [addQ_new hnin] at hq2 hL' hnd2 hgq2 hln
            simp only [↓wpre, wset, wcore, wext, ne_eq, if_true, if_false, exists_eq_left', true_implies, false_implies, exists_const, exists_eq_right, binA, intA, loadA, storeA, pickC, setAt, mapO, argsE, X.isC, resA, oneA, unA, boundA, eqiA, eqsA, fillA, fillE, ASt.fz, strA, simprocAttr, List.length_append, List.append_assoc, app_get_len, app_get_add, app_set_len, app_set_add, e5, e6, e10, e11, e12, q2, px, w3, hfa, hqa, d3, c33, c32, ap]
            exact EQ_in ⟨J + 1, by omega, e11, e10, next_ixv (by unfold lenB; omega), by omega, _, la', tl', _, t', rfl, rfl, hL', htl', hQb'.append (.one hcv), hA', hnd2, hgq2, by omega, by simp; omega, app_get_of px _, hq2⟩
        · have d3 := ibne hxd
          simp only [↓wpre, wset, wcore, wext, ne_eq, if_true, if_false, exists_eq_left', true_implies, false_implies, exists_const, exists_eq_right, binA, intA, loadA, storeA, pickC, setAt, mapO, argsE, X.isC, resA, oneA, unA, boundA, eqiA, eqsA, fillA, fillE, ASt.fz, strA, simprocAttr, List.length_append, List.append_assoc, app_get_len, app_get_add, app_set_len, app_set_add, e5, e6, e10, e11, e12, q2, px, w3, hfa, hqa, d3]
          exact EQ_in ⟨J + 1, by omega, e11, e10, next_ixv (by unfold lenB; omega), by omega, q', la, tl, qb', tb, e5, e6, hL, htl, hQb', hA, hnd', hgq', by omega, hlq2, px, by rw [fold_take w1, ← hq', if_neg hxd]⟩
      · have q2 := dltf (show qa.length ≤ J by omega)
        rw [List.take_of_length_le (by omega), show fst.foldl (fun q d => if x.t = d.f then addQ q (comp x d) else q) q = rndQ fst q x from rfl] at hq'
        simp only [↓wpre, wset, wcore, wext, ne_eq, if_true, if_false, exists_eq_left', true_implies, false_implies, exists_const, exists_eq_right, binA, intA, loadA, storeA, pickC, setAt, mapO, argsE, X.isC, resA, oneA, unA, boundA, eqiA, eqsA, fillA, fillE, ASt.fz, strA, simprocAttr, List.length_append, List.append_assoc, app_get_len, app_get_add, app_set_len, app_set_add, e5, e6, e10, e11, e12, q2]
        exact EQ_in ⟨i + 1, by omega, next_ixv (by unfold lenB; omega), by omega, e10, q', la, tl, qb', tb, e5, e6, hL, htl, hQb', hA, hnd', hgq', by omega, by omega, by rw [hq', show 2003 - (i + 1) = kf by omega]; exact hbfs⟩
  · have q1 := dltf (show qb.length ≤ i by omega)
    rw [List.getElem?_eq_none hge] at hbfs
    simp only at hbfs
    by_cases hbig : q.length > 2000
    · have d2 : decide ((la.length : Int) > 2000) = true := by simp only [decide_eq_true_eq]; omega
      rw [if_pos hbig] at hbfs
      rw [← hbfs] at hr
      simp only [↓wpre, wset, wcore, wext, ne_eq, if_true, if_false, exists_eq_left', true_implies, false_implies, exists_const, exists_eq_right, binA, intA, loadA, storeA, pickC, setAt, mapO, argsE, X.isC, resA, oneA, unA, boundA, eqiA, eqsA, fillA, fillE, ASt.fz, strA, simprocAttr, e5, e6, e10, e11, q1, d2]
      exact ⟨[], .nil, by rw [hr], by rw [hr]; trivial, rfl⟩
    · have d2 : decide ((la.length : Int) > 2000) = false := by simp only [decide_eq_false_iff_not]; omega
      rw [if_neg hbig] at hbfs
      rw [← hbfs] at hr
      simp only [↓wpre, wset, wcore, wext, ne_eq, if_true, if_false, exists_eq_left', true_implies, false_implies, exists_const, exists_eq_right, binA, intA, loadA, storeA, pickC, setAt, mapO, argsE, X.isC, resA, oneA, unA, boundA, eqiA, eqsA, fillA, fillE, ASt.fz, strA, simprocAttr, e5, e6, e10, e11, q1, d2]
      rw [purify_pure (by simp [pv_sl, hpL, htl])]
      exact ⟨_, rfl, la, tl, by rw [hr], by rw [hr]; exact hL, htl⟩
end Go.Proofs.Eng
