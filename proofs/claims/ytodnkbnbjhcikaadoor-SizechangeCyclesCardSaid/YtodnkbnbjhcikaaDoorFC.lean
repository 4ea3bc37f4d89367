/- The closure's search, up to the sorting. No conditions beyond those in the theorems. -/
import Derived.Test.YtodnkbnbjhcikaaDoorFB
set_option linter.all false
set_option linter.deprecated false
set_option linter.unnecessarySimpa false
set_option linter.unusedVariables false
set_option linter.unusedSimpArgs false
set_option linter.defProp false
namespace Go.Proofs.Eng.F
open Go Go.Proofs Go.Proofs.Eng
set_option maxRecDepth 100000
set_option maxHeartbeats 16000000
def QF (cs : List Cl) : AExit → St → Prop
  | .normal, st => EQ 70 [] (fun E H T => ∃ q, cloQ cs = some q ∧ q.length ≤ 2000 ∧ E 4 = .ptr 2 0 ∧ H[2]? = some (.cells false [.ptr 1 0]) ∧ FoundS q H T) st
  | .ret, st => EQ 70 [] (fun E H T => cloQ cs = none ∧ E 2 = .sl [] .nil ∧ E 3 = .bool false) st
  | _, _ => False
theorem QF_n {cs : List Cl} {st : St} : QF cs .normal st = EQ 70 [] (fun E H T => ∃ q, cloQ cs = some q ∧ q.length ≤ 2000 ∧ E 4 = .ptr 2 0 ∧ H[2]? = some (.cells false [.ptr 1 0]) ∧ FoundS q H T) st := rfl
theorem QF_r {cs : List Cl} {st : St} : QF cs .ret st = EQ 70 [] (fun E H T => cloQ cs = none ∧ E 2 = .sl [] .nil ∧ E 3 = .bool false) st := rfl
theorem flat_dropN {q : List Cl} {ql2 : List AV} (h : LIs ClIs q ql2) : ∀ {J : Nat}, List.drop (J * 3) (flat ql2) = flat (ql2.drop J) := by
  induction ql2 generalizing q with
  | nil => intro J; simp [flat]
  | cons a l ih =>
    intro J
    cases q with
    | nil => simp [LIs] at h
    | cons c q =>
      simp only [LIs] at h
      cases J with
      | zero => simp
      | succ J =>
        obtain ⟨bl, u, rfl, _⟩ := h.1.of
        rw [flat_cons, Nat.succ_mul, Nat.add_comm, List.drop_succ_cons, ← ih h.2, ← List.drop_drop]
        rfl
theorem setPs_one {tm : List AV} {k : Nat} {v : AV} : setPs tm [k] [v] = put tm (some k) v := rfl
theorem front_w {cs : List Cl} {al : List AV} {t : Tl} {ar : Int → Nat} (h : LIs ClIs cs al) (hg : ∀ c ∈ cs, Good ar c) (hl : cs.length ≤ 1000) : W (run md pfs) md pf930.body ⟨tmE 70 (argsE [.sl al t]), [], ⟨[], []⟩⟩ (QF cs) () := by
  have hall := h.all clAgg
  have hln := h.len
  simp only [pf930, ↓wpre, wset, wcore, wext, ne_eq, if_true, if_false, exists_eq_left', true_implies, false_implies, exists_const, exists_eq_right, binA, intA, loadA, storeA, pickC, setAt, mapO, argsE, X.isC, resA, oneA, unA, boundA, eqiA, eqsA, fillA, fillE, ASt.fz, strA, simprocAttr]
  refine W_loopE (fun j => al.length - j) (fun j E H T => E 4 = .ptr 2 0 ∧ E 14 = .sl al t ∧ E 15 = .int al.length ∧ E 16 = .int (j : Nat) ∧ j ≤ al.length ∧ H[2]? = some (.cells false [.ptr 1 0]) ∧ FoundS ((cs.take j).foldl addQ []) H T) ?_ 0 ⟨rfl, rfl, rfl, rfl, Nat.zero_le _, rfl, ⟨[], .nil, [], rfl, rfl, trivial, app_start _, mapB_nil⟩⟩
  rintro j E H T ⟨e4, e14, e15, e16, hj, h2, hK⟩
  have hpre : (∀ x ∈ (cs.take j).foldl addQ [], x ∈ cs.take j) := fun x hx => by
    have := ((dedup_aux (cs.take j) [] (by simp)).2.1 x).1 hx
    simpa using this
  have hqg : ∀ x ∈ (cs.take j).foldl addQ [], Good ar x := fun x hx => hg x (List.mem_of_mem_take (hpre x hx))
  have hql : ((cs.take j).foldl addQ []).length ≤ 1000 := by
    have := (dedup_aux (cs.take j) [] (by simp)).2.2
    rw [List.length_take] at this
    simp only [List.length_nil] at this
    omega
  rcases Nat.lt_or_ge j al.length with hlt | hge
  · have hdec : decide ((j : Int) < al.length) = true := by simpa using hlt
    obtain ⟨c, a, m1, m2, m3, m4⟩ := cl_get h hlt
    obtain ⟨bl, u, rfl, _⟩ := m4.of
    obtain ⟨v, H', T', k1, k2, k3⟩ := add_call (H := H ++ [.cells false [.int c.f, .int c.t, .sl bl u]]) (hK.app _) m4 (hg c m2) hqg (by omega)
    simp only [↓wpre, wset, wcore, wext, ne_eq, if_true, if_false, exists_eq_left', true_implies, false_implies, exists_const, exists_eq_right, binA, intA, loadA, storeA, pickC, setAt, mapO, argsE, X.isC, resA, oneA, unA, boundA, eqiA, eqsA, fillA, fillE, ASt.fz, strA, simprocAttr, List.length_append, List.append_assoc, app_get_len, app_get_add, app_set_len, app_set_add, e4, e14, e15, e16, hdec, m3, hall, app_get_of h2, k3]
    exact EQ_in ⟨j + 1, by omega, e4, e14, e15, next_ixv (by unfold lenB; omega), by omega, k2.2 2 _ (Nat.le_refl _) (app_get_of h2 _), by rw [fold_take m1]; exact k1⟩
  · have hdec : decide ((j : Int) < al.length) = false := by simpa using hge
    rw [List.take_of_length_le (by omega)] at hK hqg hql
    rw [show cs.foldl addQ [] = dedup cs from rfl] at hK hqg hql
    clear hpre
    obtain ⟨ql, tq, es, g0, g1, gL, gA, gM⟩ := hK
    have hK : FoundS (dedup cs) H T := ⟨ql, tq, es, g0, g1, gL, gA, gM⟩
    have hq2 := gL.all2 clAgg
    have hqn := gL.len
    by_cases hne : ql = []
    · subst hne
      have hd0 : dedup cs = [] := List.length_eq_zero_iff.1 hqn.symm
      obtain rfl : tq = .nil := by
        rcases gA with ⟨_, h⟩ | ⟨h, _⟩
        · exact h
        · exact absurd rfl h
      have hclo : cloQ cs = some [] := by unfold cloQ; rw [hd0]; rfl
      have cq := @queue_call
      have hcln : clnA ⟨H, T⟩ 3 true false (.sl [] .nil) [] = some (.val (.sl [] .nil) ⟨H, T⟩) := rfl
      simp only [↓wpre, wset, wcore, wext, ne_eq, if_true, if_false, exists_eq_left', true_implies, false_implies, exists_const, exists_eq_right, binA, intA, loadA, storeA, pickC, setAt, mapO, argsE, X.isC, resA, oneA, unA, boundA, eqiA, eqsA, fillA, fillE, ASt.fz, strA, simprocAttr, List.length_append, List.append_assoc, app_get_len, app_get_add, app_set_len, app_set_add, e4, e14, e15, e16, hdec, h2, g1, hcln, cq, app_get_of h2]
      generalize hH1 : H ++ [.cells false [.sl [] .nil], .cells false [.ptr 1 0]] = H1
      have f2 : H1[2]? = some (.cells false [.ptr 1 0]) := by rw [← hH1]; exact app_get_of h2 _
      have f1 : H1[1]? = some (.cells false [.mp 0, .sl [] .nil]) := by rw [← hH1]; exact app_get_of g1 _
      have fk : H1[H.length + 1]? = some (.cells false [.ptr 1 0]) := by rw [← hH1, List.getElem?_append_right (by omega), Nat.add_sub_cancel_left]; rfl
      have hK1 : FoundS (dedup cs) H1 T := by rw [← hH1]; exact hK.app _
      refine W_rangeq (gf := 59) (caps := [.ptr (H.length + 1) 0]) rfl rfl 1 (by omega) (fun i s => s = ⟨H1, T⟩ ∧ i = 0) ?_ ⟨rfl, rfl⟩
      rintro i s ⟨rfl, rfl⟩
      have hit : itF 59 [.ptr (H.length + 1) 0] ⟨H1, T⟩ 0 = some none := by
        simp only [itF, if_true, fk, f1]
        rfl
      refine .inl ⟨hit, ?_⟩
      have d1 : decide ((0 : Int) > 2000) = false := rfl
      simp only [↓wpre, wset, wcore, wext, ne_eq, if_true, if_false, exists_eq_left', true_implies, false_implies, exists_const, exists_eq_right, binA, intA, loadA, storeA, pickC, setAt, mapO, argsE, X.isC, resA, oneA, unA, boundA, eqiA, eqsA, fillA, fillE, ASt.fz, strA, simprocAttr, List.length_append, List.append_assoc, app_get_len, app_get_add, app_set_len, app_set_add, e4, f2, f1, d1, QF_n, QF_r]
      exact EQ_in ⟨[], hclo, by simp, e4, f2, by rw [← hd0]; exact hK1⟩
    · have hcl : ql.length ≤ 1073741824 := by omega
      have hcln : clnA ⟨H, T⟩ 3 true false (.sl ql tq) ql = some (.val (.bs H.length 0 ql.length 3 true) ⟨H ++ [.cells false (flat ql)], T⟩) := by
        cases ql with
        | nil => exact absurd rfl hne
        | cons x l => simp only [clnA]; rw [if_pos ⟨hcl, hq2⟩]
      have cq := @queue_call
      simp only [↓wpre, wset, wcore, wext, ne_eq, if_true, if_false, exists_eq_left', true_implies, false_implies, exists_const, exists_eq_right, binA, intA, loadA, storeA, pickC, setAt, mapO, argsE, X.isC, resA, oneA, unA, boundA, eqiA, eqsA, fillA, fillE, ASt.fz, strA, simprocAttr, List.length_append, List.append_assoc, app_get_len, app_get_add, app_set_len, app_set_add, e4, e14, e15, e16, hdec, h2, g1, hcln, cq, app_get_of h2]
      have hql2 : ql.length ≤ 1000 := by omega
      generalize hH1 : H ++ [.cells false (flat ql), .cells false [.bs H.length 0 ql.length 3 true], .cells false [.ptr 1 0]] = H1
      have f2 : H1[2]? = some (.cells false [.ptr 1 0]) := by rw [← hH1]; exact app_get_of h2 _
      have fk0 : H1[H.length]? = some (.cells false (flat ql)) := by rw [← hH1, List.getElem?_append_right (Nat.le_refl _), Nat.sub_self]; rfl
      have fk1 : H1[H.length + 1]? = some (.cells false [.bs H.length 0 ql.length 3 true]) := by rw [← hH1, List.getElem?_append_right (by omega), Nat.add_sub_cancel_left]; rfl
      have fk2 : H1[H.length + 2]? = some (.cells false [.ptr 1 0]) := by rw [← hH1, List.getElem?_append_right (by omega), Nat.add_sub_cancel_left]; rfl
      have hK1 : FoundS (dedup cs) H1 T := by rw [← hH1]; exact hK.app _
      have hn2 := lt_of_get h2
      generalize hnk : H.length = n at *
      clear hH1 g0 g1 h2 hK hcln
      refine W_rangeq (gf := 59) (caps := [.ptr (n + 2) 0]) rfl rfl 2001 (by omega) (fun i s => ∃ H' T' q, s = ⟨H', T'⟩ ∧ FoundS q H' T' ∧ Rest2 H1 H' ∧ i ≤ 2000 ∧ i ≤ q.length ∧ bfs (dedup cs) (2003 - i) i q = cloQ cs ∧ (∀ x ∈ q, Good ar x) ∧ q.length ≤ 100000) ?_ ⟨_, _, _, rfl, hK1, Rest2.refl _, by omega, by omega, rfl, hqg, by omega⟩
      rintro i s ⟨H', T', q, rfl, hKq, hR, hi, hiq, hbfs, hqgg, hq5⟩
      have r2 := hR.2 2 _ (Nat.le_refl _) f2
      have rk0 := hR.2 n _ (by omega) fk0
      have rk1 := hR.2 (n + 1) _ (by omega) fk1
      have rk2 := hR.2 (n + 2) _ (by omega) fk2
      obtain ⟨qa, qt, es2, c0, c1, cL, cA, cM⟩ := hKq
      have hKq : FoundS q H' T' := ⟨qa, qt, es2, c0, c1, cL, cA, cM⟩
      have hqa := cL.all clAgg
      have hqan := cL.len
      obtain ⟨kf, hkf⟩ : ∃ kf, 2003 - i = kf + 1 := ⟨2002 - i, by omega⟩
      rw [hkf, bfs] at hbfs
      rcases Nat.lt_or_ge i q.length with hlt | hge
      · obtain ⟨x, xa, p1, p2, p3, p4⟩ := cl_get cL (show i < qa.length by omega)
        obtain ⟨bl, u, rfl, _⟩ := p4.of
        rw [p1] at hbfs
        simp only at hbfs
        have hit : itF 59 [.ptr (n + 2) 0] ⟨H', T'⟩ i = some (some [.agg [.int x.f, .int x.t, .sl bl u]]) := by
          simp only [itF, if_true, rk2, c1]
          rw [if_pos ⟨hqa, by omega⟩, p3]
        refine .inr ⟨by omega, _, hit, rfl, ?_⟩
        by_cases hbig : q.length > 2000
        · have d1 : decide ((qa.length : Int) > 2000) = true := by simp only [decide_eq_true_eq]; omega
          rw [if_pos hbig] at hbfs
          have b32 : ∀ {Q : AExit → St → Prop} {st : St}, BQ 3 Q (.exit 2) st = Q (.exit 2) st := BQ_e' (by decide)
          simp only [↓wpre, wset, wcore, wext, ne_eq, if_true, if_false, exists_eq_left', true_implies, false_implies, exists_const, exists_eq_right, binA, intA, loadA, storeA, pickC, setAt, mapO, argsE, X.isC, resA, oneA, unA, boundA, eqiA, eqsA, fillA, fillE, ASt.fz, strA, simprocAttr, List.length_append, List.append_assoc, app_get_len, app_get_add, app_set_len, app_set_add, setPs_one, e4, app_get_of r2, app_get_of c1, d1, QF_n, QF_r, b32]
          exact EQ_in ⟨hbfs.symm, rfl, rfl⟩
        · have d1 : decide ((qa.length : Int) > 2000) = false := by simp only [decide_eq_false_iff_not]; omega
          rw [if_neg hbig] at hbfs
          have hgx : Good ar x := hqgg x p2
          simp only [↓wpre, wset, wcore, wext, ne_eq, if_true, if_false, exists_eq_left', true_implies, false_implies, exists_const, exists_eq_right, binA, intA, loadA, storeA, pickC, setAt, mapO, argsE, X.isC, resA, oneA, unA, boundA, eqiA, eqsA, fillA, fillE, ASt.fz, strA, simprocAttr, List.length_append, List.append_assoc, app_get_len, app_get_add, app_set_len, app_set_add, setPs_one, e4, app_get_of r2, app_get_of c1, d1, app_get_of rk1]
          have x8 : (H' ++ [.cells false [.int x.f, .int x.t, .sl bl u]])[H'.length]? = some (AObj.cells false [.int x.f, .int x.t, .sl bl u]) := app_get_len
          have hl2' := lt_of_get r2
          refine W_loopE (fun J => ql.length - J) (fun J E H2 T2 => ∃ q', E 4 = .ptr 2 0 ∧ E 8 = .ptr H'.length 0 ∧ E 38 = .bs n 0 ql.length 3 true ∧ E 39 = .int ql.length ∧ E 40 = .int (J : Nat) ∧ J ≤ ql.length ∧ FoundS q' H2 T2 ∧ Rest2 (H' ++ [.cells false [.int x.f, .int x.t, .sl bl u]]) H2 ∧ q' = ((dedup cs).take J).foldl (fun q d => if x.t = d.f then addQ q (comp x d) else q) q ∧ (∀ y ∈ q', Good ar y) ∧ q'.length ≤ q.length + J ∧ q.length ≤ q'.length) ?_ 0 ⟨q, e4, rfl, rfl, rfl, rfl, Nat.zero_le _, hKq.app _, Rest2.refl _, rfl, hqgg, by omega, by omega⟩
          clear e4 e14 e15 e16 hdec
          rintro J E H2 T2 ⟨q', e4, e8, e38, e39, e40, hJ, kK, kR, hq', kG, kL, kL2⟩
          have s2 := kR.2 2 _ (Nat.le_refl _) (app_get_of r2 _)
          have s0 := kR.2 n _ (by omega) (app_get_of rk0 _)
          have s8 := kR.2 H'.length _ (by omega) x8
          rcases Nat.lt_or_ge J ql.length with hJl | hJg
          · have hdec : decide ((J : Int) < ql.length) = true := by simpa using hJl
            obtain ⟨d, da, w1, w2, w3, w4⟩ := cl_get gL hJl
            obtain ⟨dl, du, rfl, _⟩ := w4.of
            have hgd : Good ar d := hqg d w2
            have hlt3 : ((J : Int) < (ql.length : Int)) = True := eq_true (by omega)
            have htk : List.take 3 (List.drop (J * 3) (flat ql)) = [.int d.f, .int d.t, .sl dl du] := by
              rw [flat_dropN (ql2 := ql) gL (J := J), drop_cons w3, flat_cons]; rfl
            have hle3 : (3 ≤ (List.drop (J * 3) (flat ql)).length) = True := by
              refine eq_true ?_
              have := congrArg List.length htk
              simp only [List.length_take, List.length_cons, List.length_nil] at this
              omega
            by_cases hxd : x.t = d.f
            · have dx : (x.t == d.f) = true := by simp [hxd]
              obtain ⟨cv, hcv, c37⟩ := (composed_ret p4 w4 hgx.wm (by rw [hxd]; exact hgd.wm) hgx.r1.1 hgx.c1.2 hgx.r1.2 hgd.r1.2).call rfl (by simp [pvs_cons, pvs_nil, p4.pure, w4.pure])
              have hgc := comp_good hgx hgd hxd
              obtain ⟨v3, H3, T3, y1, y2, y3⟩ := add_call (H := H2 ++ [.cells false [.int d.f, .int d.t, .sl dl du]]) (kK.app _) hcv hgc kG (by omega)
              simp only [↓wpre, wset, wcore, wext, ne_eq, if_true, if_false, exists_eq_left', true_implies, false_implies, exists_const, exists_eq_right, binA, intA, loadA, storeA, pickC, setAt, mapO, argsE, X.isC, resA, oneA, unA, boundA, eqiA, eqsA, fillA, fillE, ASt.fz, strA, simprocAttr, List.length_append, List.append_assoc, app_get_len, app_get_add, app_set_len, app_set_add, e4, e8, e38, e39, e40, hdec, hlt3, s0, s8, s2, htk, hle3, app_get_of s8, app_get_of s2, dx, c37, y3]
              refine EQ_in ⟨J + 1, by omega, addQ q' (comp x d), e4, e8, e38, e39, next_ixv (by unfold lenB; omega), by omega, y1, (kR.trans (Rest2.app _ _)).trans y2, ?_, add_good kG hgc, ?_, ?_⟩
              · rw [fold_take w1, ← hq', if_pos hxd]
              · have := addQ_len q' (comp x d); omega
              · have := (addQ_pre q' (comp x d)).length_le; omega
            · have dx : (x.t == d.f) = false := by simp [hxd]
              simp only [↓wpre, wset, wcore, wext, ne_eq, if_true, if_false, exists_eq_left', true_implies, false_implies, exists_const, exists_eq_right, binA, intA, loadA, storeA, pickC, setAt, mapO, argsE, X.isC, resA, oneA, unA, boundA, eqiA, eqsA, fillA, fillE, ASt.fz, strA, simprocAttr, List.length_append, List.append_assoc, app_get_len, app_get_add, app_set_len, app_set_add, e4, e8, e38, e39, e40, hdec, hlt3, s0, s8, s2, htk, hle3, app_get_of s8, app_get_of s2, dx]
              refine EQ_in ⟨J + 1, by omega, q', e4, e8, e38, e39, next_ixv (by unfold lenB; omega), by omega, kK.app _, kR.trans (Rest2.app _ _), ?_, kG, by omega, kL2⟩
              rw [fold_take w1, ← hq', if_neg hxd]
          · have hdec : decide ((J : Int) < ql.length) = false := by simpa using hJg
            rw [List.take_of_length_le (by omega)] at hq'
            rw [show (dedup cs).foldl (fun q d => if x.t = d.f then addQ q (comp x d) else q) q = rndQ (dedup cs) q x from rfl] at hq'
            simp only [↓wpre, wset, wcore, wext, ne_eq, if_true, if_false, exists_eq_left', true_implies, false_implies, exists_const, exists_eq_right, binA, intA, loadA, storeA, pickC, setAt, mapO, argsE, X.isC, resA, oneA, unA, boundA, eqiA, eqsA, fillA, fillE, ASt.fz, strA, simprocAttr, List.length_append, List.append_assoc, app_get_len, app_get_add, app_set_len, app_set_add, e4, e8, e38, e39, e40, hdec]
            refine ⟨_, _, q', rfl, kK, (hR.trans (Rest2.app _ _)).trans kR, by omega, by omega, ?_, kG, by omega⟩
            rw [hq', show 2002 - i = kf by omega]; exact hbfs
      · have hlast : q[i]? = none := List.getElem?_eq_none hge
        rw [hlast] at hbfs
        simp only at hbfs
        have hit : itF 59 [.ptr (n + 2) 0] ⟨H', T'⟩ i = some none := by
          simp only [itF, if_true, rk2, c1]
          rw [if_pos ⟨hqa, by omega⟩, List.getElem?_eq_none (by omega)]
          simp only
          rw [if_pos (by omega)]
        refine .inl ⟨hit, ?_⟩
        by_cases hbig : q.length > 2000
        · have d1 : decide ((qa.length : Int) > 2000) = true := by simp only [decide_eq_true_eq]; omega
          rw [if_pos hbig] at hbfs
          simp only [↓wpre, wset, wcore, wext, ne_eq, if_true, if_false, exists_eq_left', true_implies, false_implies, exists_const, exists_eq_right, binA, intA, loadA, storeA, pickC, setAt, mapO, argsE, X.isC, resA, oneA, unA, boundA, eqiA, eqsA, fillA, fillE, ASt.fz, strA, simprocAttr, List.length_append, List.append_assoc, app_get_len, app_get_add, app_set_len, app_set_add, e4, r2, c1, d1, QF_n, QF_r]
          exact EQ_in ⟨hbfs.symm, rfl, rfl⟩
        · have d1 : decide ((qa.length : Int) > 2000) = false := by simp only [decide_eq_false_iff_not]; omega
          rw [if_neg hbig] at hbfs
          simp only [↓wpre, wset, wcore, wext, ne_eq, if_true, if_false, exists_eq_left', true_implies, false_implies, exists_const, exists_eq_right, binA, intA, loadA, storeA, pickC, setAt, mapO, argsE, X.isC, resA, oneA, unA, boundA, eqiA, eqsA, fillA, fillE, ASt.fz, strA, simprocAttr, List.length_append, List.append_assoc, app_get_len, app_get_add, app_set_len, app_set_add, e4, r2, c1, d1, QF_n, QF_r]
          exact EQ_in ⟨q, hbfs.symm, by omega, e4, r2, hKq⟩
end Go.Proofs.Eng.F
