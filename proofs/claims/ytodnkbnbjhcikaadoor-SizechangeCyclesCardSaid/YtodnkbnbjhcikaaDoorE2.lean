/- The composition of two calls. No conditions beyond those in the theorems. -/
import Derived.Test.YtodnkbnbjhcikaaDoorPf22
import Derived.Test.YtodnkbnbjhcikaaDoorCM
set_option linter.all false
set_option linter.deprecated false
set_option linter.unnecessarySimpa false
set_option linter.unusedVariables false
set_option linter.unusedSimpArgs false
set_option linter.defProp false
namespace Go.Proofs.Eng
open Go Go.Proofs Go.Proofs.Eng
set_option maxRecDepth 100000
set_option maxHeartbeats 16000000
theorem composed_ret {a b : Cl} {x y : AV} {p q r : Nat} (hx : ClIs a x) (hy : ClIs b y) (ha : Wm a.m q p) (hb : Wm b.m r q) (hq : 1 ≤ q) (hp : p ≤ 16) (hq16 : q ≤ 16) (hr : r ≤ 16) : Out md pfs 37 [x, y] (fun v => ClIs (comp a b) v) fun _ => False := by
  obtain ⟨al, t, rfl, a1, a2, a3, a4, a5⟩ := hx.of
  obtain ⟨bl, u, rfl, b1, b2, b3, b4, b5⟩ := hy.of
  have al1 := a1.len
  have bl1 := b1.len
  have al2 := ha.len
  have bl2 := hb.len
  have aall := rows_all a1
  have ball := rows_all b1
  obtain ⟨r0, t0, g1, g2, g3, _⟩ := row_get a1 (show 0 < al.length by omega)
  have hr0 : r0.length = p := ha.row r0 g2
  have hhd : (a.m.headD []).length = p := ha.head (by omega)
  have hz := zeros_ints p
  refine out_of pf37_is (Nat.le_of_ble_eq_true rfl) ?_
  simp only [pf37, ↓wpre, wset, wcore, wext, ne_eq, if_true, if_false, exists_eq_left', true_implies, false_implies, exists_const, exists_eq_right, binA, intA, loadA, storeA, pickC, setAt, mapO, argsE, X.isC, resA, oneA, unA, boundA, eqiA, eqsA, fillA, fillE, ASt.fz, strA, simprocAttr]
  refine W_loopE (fun i => bl.length - i) (fun i E H T => ∃ tl, E 2 = .ptr 0 0 ∧ E 3 = .ptr 1 0 ∧ E 4 = .ptr 2 0 ∧ E 5 = .ptr 3 0 ∧ E 19 = .sl bl u ∧ E 20 = .int bl.length ∧ E 21 = .int (i : Nat) ∧ i ≤ bl.length ∧ H = [.cells false [.int a.f, .int a.t, .sl al t], .cells false [.int b.f, .int b.t, .sl bl u], .cells false [.int 0, .int 0, .sl [] .nil], .cells false [.int a.f, .int b.t, .sl (bsA 4 p i) tl]] ++ rowsH ((comp a b).m.take i) ∧ App T (bsA 4 p i) tl) ?_ 0 ⟨_, rfl, rfl, rfl, rfl, rfl, rfl, rfl, Nat.zero_le _, rfl, app_start _⟩
  rintro i E H T ⟨tl, e2, e3, e4, e5, e19, e20, e21, hi, rfl, hA⟩
  rcases Nat.lt_or_ge i bl.length with hlt | hge
  · have hdec : decide ((i : Int) < bl.length) = true := by simpa using hlt
    obtain ⟨row, tr, m1, m2, m3, m4, m5, m6⟩ := row_get b1 hlt
    have hrow : row.length = q := hb.row row m2
    have hrent := hb.ent row m2
    have hCl : ([AObj.cells false [.int a.f, .int a.t, .sl al t], .cells false [.int b.f, .int b.t, .sl bl u], .cells false [.int 0, .int 0, .sl [] .nil], .cells false [.int a.f, .int b.t, .sl (bsA 4 p i) tl]] ++ rowsH ((comp a b).m.take i)).length = 4 + i := by
      simp [rowsH, comp]; omega
    generalize hC : ([AObj.cells false [.int a.f, .int a.t, .sl al t], .cells false [.int b.f, .int b.t, .sl bl u], .cells false [.int 0, .int 0, .sl [] .nil], .cells false [.int a.f, .int b.t, .sl (bsA 4 p i) tl]] ++ rowsH ((comp a b).m.take i)) = C at *
    have c0 : C[0]? = some (.cells false [.int a.f, .int a.t, .sl al t]) := by rw [← hC]; rfl
    have c1 : C[1]? = some (.cells false [.int b.f, .int b.t, .sl bl u]) := by rw [← hC]; rfl
    have c3 : C[3]? = some (.cells false [.int a.f, .int b.t, .sl (bsA 4 p i) tl]) := by rw [← hC]; rfl
    simp only [↓wpre, wset, wcore, wext, ne_eq, if_true, if_false, exists_eq_left', true_implies, false_implies, exists_const, exists_eq_right, binA, intA, loadA, storeA, pickC, setAt, mapO, argsE, X.isC, resA, oneA, unA, boundA, eqiA, eqsA, fillA, fillE, ASt.fz, strA, simprocAttr, List.length_append, List.append_assoc, app_get_len, app_get_add, app_set_len, app_set_add, e2, e3, e4, e5, e19, e20, e21, hdec, c0, c1, m3, ball, g3, aall, ints_len, hr0]
    refine ⟨by omega, ?_⟩
    refine W_loopE (fun J => q - J) (fun J E H T' => E 2 = .ptr 0 0 ∧ E 3 = .ptr 1 0 ∧ E 4 = .ptr 2 0 ∧ E 5 = .ptr 3 0 ∧ E 19 = .sl bl u ∧ E 20 = .int bl.length ∧ E 21 = .int (i : Nat) ∧ E 8 = .bs C.length 0 p 1 false ∧ E 31 = .sl (ints row) tr ∧ E 32 = .int (q : Nat) ∧ E 33 = .int (J : Nat) ∧ J ≤ q ∧ H = C ++ [.cells false (ints ((List.range p).map (pE row a.m J)))] ∧ T = T') ?_ 0 ⟨e2, e3, e4, e5, e19, e20, e21, rfl, rfl, by show AV.int ((row.length : Nat) : Int) = _; rw [hrow], rfl, Nat.zero_le _, by rw [show pE row a.m 0 = fun _ => 0 from rfl, ← hz, show flat (List.replicate p (AV.int 0)) = List.replicate p (AV.int 0) by rw [hz, flat_ints]], rfl⟩
    clear e2 e3 e4 e5 e19 e20 e21 hdec
    rintro J E H T' ⟨e2, e3, e4, e5, e19, e20, e21, e8, e31, e32, e33, hJ, rfl, rfl⟩
    rcases Nat.lt_or_ge J q with hJq | hJq
    · have hdec : decide ((J : Int) < q) = true := by simpa using hJq
      obtain ⟨xv, x1, x2, x3⟩ := ints_get (show J < row.length by omega)
      have iall := ints_all row
      have hxe := hrent xv (List.mem_of_getElem? x1)
      have hxg : row.getD J 0 = xv := by rw [List.getD, x1]; rfl
      by_cases hx0 : xv = 0
      · have d0 : (xv == 0) = true := by simp [hx0]
        simp only [↓wpre, wset, wcore, wext, ne_eq, if_true, if_false, exists_eq_left', true_implies, false_implies, exists_const, exists_eq_right, binA, intA, loadA, storeA, pickC, setAt, mapO, argsE, X.isC, resA, oneA, unA, boundA, eqiA, eqsA, fillA, fillE, ASt.fz, strA, simprocAttr, List.length_append, List.append_assoc, app_get_len, app_get_add, app_set_len, app_set_add, e2, e3, e4, e5, e19, e20, e21, e8, e31, e32, e33, hdec, x3, iall, d0]
        refine EQ_in ⟨J + 1, by omega, e2, e3, e4, e5, e19, e20, e21, e8, e31, e32, next_ixv (by unfold lenB; omega), by omega, ?_, rfl⟩
        rw [show pE row a.m (J + 1) = pE row a.m J from funext fun k => pE_x0 (by rw [hxg, hx0])]
      · have d0 : (xv == 0) = false := by simp [hx0]
        obtain ⟨ra, ta, n1, n2, n3, n4, n5, n6⟩ := row_get a1 (show J < al.length by omega)
        have hra : ra.length = p := ha.row ra n2
        have hraent := ha.ent ra n2
        have hag : ∀ k, get2 a.m J k = ra.getD k 0 := fun k => by simp [get2, List.getD, n1]
        simp only [↓wpre, wset, wcore, wext, ne_eq, if_true, if_false, exists_eq_left', true_implies, false_implies, exists_const, exists_eq_right, binA, intA, loadA, storeA, pickC, setAt, mapO, argsE, X.isC, resA, oneA, unA, boundA, eqiA, eqsA, fillA, fillE, ASt.fz, strA, simprocAttr, List.length_append, List.append_assoc, app_get_len, app_get_add, app_set_len, app_set_add, e2, e3, e4, e5, e19, e20, e21, e8, e31, e32, e33, hdec, x3, iall, d0, app_get_of c0, n3, aall, ints_len, hra]
        refine W_loopE (fun k => p - k) (fun k E H T' => E 2 = .ptr 0 0 ∧ E 3 = .ptr 1 0 ∧ E 4 = .ptr 2 0 ∧ E 5 = .ptr 3 0 ∧ E 19 = .sl bl u ∧ E 20 = .int bl.length ∧ E 21 = .int (i : Nat) ∧ E 8 = .bs C.length 0 p 1 false ∧ E 31 = .sl (ints row) tr ∧ E 32 = .int (q : Nat) ∧ E 33 = .int (J : Nat) ∧ E 10 = .int xv ∧ E 44 = .sl (ints ra) ta ∧ E 45 = .int (p : Nat) ∧ E 46 = .int (k : Nat) ∧ k ≤ p ∧ H = C ++ [.cells false (ints (mixL p (pE row a.m (J + 1)) (pE row a.m J) k))] ∧ T = T') ?_ 0 ⟨e2, e3, e4, e5, e19, e20, e21, e8, e31, e32, e33, rfl, rfl, rfl, rfl, Nat.zero_le _, by rw [mixL_zero], rfl⟩
        clear e2 e3 e4 e5 e19 e20 e21 e8 e31 e32 e33 hdec
        rintro k E H T' ⟨e2, e3, e4, e5, e19, e20, e21, e8, e31, e32, e33, e10, e44, e45, e46, hk, rfl, rfl⟩
        rcases Nat.lt_or_ge k p with hkp | hkp
        · have hdec : decide ((k : Int) < p) = true := by simpa using hkp
          obtain ⟨yv, y1, y2, y3⟩ := ints_get (show k < ra.length by omega)
          have iall2 := ints_all ra
          have hye := hraent yv (List.mem_of_getElem? y1)
          have hyg : get2 a.m J k = yv := by rw [hag, List.getD, y1]; rfl
          by_cases hy0 : yv = 0
          · have d1 : (yv != 0) = false := by simp [hy0]
            simp only [↓wpre, wset, wcore, wext, ne_eq, if_true, if_false, exists_eq_left', true_implies, false_implies, exists_const, exists_eq_right, binA, intA, loadA, storeA, pickC, setAt, mapO, argsE, X.isC, resA, oneA, unA, boundA, eqiA, eqsA, fillA, fillE, ASt.fz, strA, simprocAttr, List.length_append, List.append_assoc, app_get_len, app_get_add, app_set_len, app_set_add, e2, e3, e4, e5, e19, e20, e21, e8, e31, e32, e33, e10, e44, e45, e46, hdec, y3, iall2, d1]
            refine EQ_in ⟨k + 1, by omega, e2, e3, e4, e5, e19, e20, e21, e8, e31, e32, e33, e10, e44, e45, next_ixv (by unfold lenB; omega), by omega, ?_, rfl⟩
            rw [mixL_skip (pE_y0 (by rw [hyg, hy0]))]
          · have d1 : (yv != 0) = true := by simp [hy0]
            have hm : (ints (mixL p (pE row a.m (J + 1)) (pE row a.m J) k))[k]? = some (.int (pE row a.m J k)) := by
              simp only [ints, List.getElem?_map, mixL_get hkp, if_neg (Nat.lt_irrefl k), Option.map_some]
            have hpe := pE_xy (row := row) (am := a.m) (J := J) (k := k) (by omega) (by omega)
            rw [hxg, hyg] at hpe
            have hlen : (ints (mixL p (pE row a.m (J + 1)) (pE row a.m J) k)).length = p := by rw [ints_len, mixL_len]
            have hd : (List.drop k (ints (mixL p (pE row a.m (J + 1)) (pE row a.m J) k))).head? = some (.int (pE row a.m J k)) := by rw [List.head?_drop, hm]
            have hkl : ((k : Int) < (p : Int)) = True := eq_true (by omega)
            have hmx : (if yv > xv then yv else xv) = mx xv yv := rfl
            by_cases hgt : mx xv yv > pE row a.m J k
            · rw [if_pos hgt] at hpe
              have d2 : decide (mx xv yv > pE row a.m J k) = true := decide_eq_true hgt
              have hst : List.take k (ints (mixL p (pE row a.m (J + 1)) (pE row a.m J) k)) ++ AV.int (mx xv yv) :: List.drop (k + 1) (ints (mixL p (pE row a.m (J + 1)) (pE row a.m J) k)) = ints (mixL p (pE row a.m (J + 1)) (pE row a.m J) (k + 1)) := by rw [set_td (by rw [hlen]; exact hkp), ints_set, ← hpe, mixL_set]
              simp only [↓wpre, wset, wcore, wext, ne_eq, if_true, if_false, exists_eq_left', true_implies, false_implies, exists_const, exists_eq_right, binA, intA, loadA, storeA, pickC, setAt, mapO, argsE, X.isC, resA, oneA, unA, boundA, eqiA, eqsA, fillA, fillE, ASt.fz, strA, simprocAttr, List.length_append, List.append_assoc, app_get_len, app_get_add, app_set_len, app_set_add, e2, e3, e4, e5, e19, e20, e21, e8, e31, e32, e33, e10, e44, e45, e46, hdec, y3, iall2, d1, hd, hlen, hkl, hmx, d2, Nat.mul_one, hst]
              refine ⟨by omega, ?_⟩
              exact EQ_in ⟨k + 1, by omega, e2, e3, e4, e5, e19, e20, e21, e8, e31, e32, e33, e10, e44, e45, next_ixv (by unfold lenB; omega), by omega, rfl, rfl⟩
            · rw [if_neg hgt] at hpe
              have d2 : decide (mx xv yv > pE row a.m J k) = false := decide_eq_false hgt
              simp only [↓wpre, wset, wcore, wext, ne_eq, if_true, if_false, exists_eq_left', true_implies, false_implies, exists_const, exists_eq_right, binA, intA, loadA, storeA, pickC, setAt, mapO, argsE, X.isC, resA, oneA, unA, boundA, eqiA, eqsA, fillA, fillE, ASt.fz, strA, simprocAttr, List.length_append, List.append_assoc, app_get_len, app_get_add, app_set_len, app_set_add, e2, e3, e4, e5, e19, e20, e21, e8, e31, e32, e33, e10, e44, e45, e46, hdec, y3, iall2, d1, hd, hlen, hkl, hmx, d2, Nat.mul_one]
              refine EQ_in ⟨k + 1, by omega, e2, e3, e4, e5, e19, e20, e21, e8, e31, e32, e33, e10, e44, e45, next_ixv (by unfold lenB; omega), by omega, ?_, rfl⟩
              rw [mixL_skip hpe]
        · have hdec : decide ((k : Int) < p) = false := by simpa using hkp
          simp only [↓wpre, wset, wcore, wext, ne_eq, if_true, if_false, exists_eq_left', true_implies, false_implies, exists_const, exists_eq_right, binA, intA, loadA, storeA, pickC, setAt, mapO, argsE, X.isC, resA, oneA, unA, boundA, eqiA, eqsA, fillA, fillE, ASt.fz, strA, simprocAttr, List.length_append, List.append_assoc, app_get_len, app_get_add, app_set_len, app_set_add, e2, e3, e4, e5, e19, e20, e21, e8, e31, e32, e33, e10, e44, e45, e46, hdec]
          refine EQ_in ⟨J + 1, by omega, e2, e3, e4, e5, e19, e20, e21, e8, e31, e32, next_ixv (by unfold lenB; omega), by omega, by rw [mixL_all hkp], rfl⟩
    · have hdec : decide ((J : Int) < q) = false := by simpa using hJq
      obtain rfl : J = q := by omega
      obtain ⟨tl', T', ap, hA', _⟩ := app_one (es := 1) (x := .bs C.length 0 p 1 false) hA (by rw [bsA_len]; unfold capB; omega) bsA_all rfl rfl
      have l3 := lt_of_get c3
      simp only [↓wpre, wset, wcore, wext, ne_eq, if_true, if_false, exists_eq_left', true_implies, false_implies, exists_const, exists_eq_right, binA, intA, loadA, storeA, pickC, setAt, mapO, argsE, X.isC, resA, oneA, unA, boundA, eqiA, eqsA, fillA, fillE, ASt.fz, strA, simprocAttr, List.length_append, List.append_assoc, app_get_len, app_get_add, app_set_len, app_set_add, e2, e3, e4, e5, e19, e20, e21, e8, e31, e32, e33, hdec, app_get_of c3, ap]
      refine EQ_in ⟨i + 1, by omega, tl', e2, e3, e4, e5, e19, e20, next_ixv (by omega), by omega, ?_, by rw [bsA_succ, ← hCl]; exact hA'⟩
      have hgi : (comp a b).m[i]? = some ((List.range p).map (pE row a.m J)) := by rw [comp_rows, List.getElem?_map, m1, hhd, al2]; rfl
      rw [bsA_succ, ← hCl, List.take_add_one, hgi, ← hC]
      simp [rowsH]
  · have hdec : decide ((i : Int) < bl.length) = false := by simpa using hge
    obtain rfl : i = bl.length := by omega
    have hcl : (comp a b).m.length = bl.length := by rw [comp_rows, List.length_map]; omega
    rw [List.take_of_length_le (by omega)]
    simp only [↓wpre, wset, wcore, wext, ne_eq, if_true, if_false, exists_eq_left', true_implies, false_implies, exists_const, exists_eq_right, binA, intA, loadA, storeA, pickC, setAt, mapO, argsE, X.isC, resA, oneA, unA, boundA, eqiA, eqsA, fillA, fillE, ASt.fz, strA, simprocAttr, List.length_append, List.append_assoc, app_get_len, app_get_add, app_set_len, app_set_add, e2, e3, e4, e5, e19, e20, e21, hdec]
    have hmat : ∀ (j : Nat) (w : List Int), (comp a b).m[j]? = some w → w.length = p ∧ p ≤ lenB ∧ ∀ v ∈ w, in64 v := by
      intro j w hw
      have hwm := (comp_wm ha hb (by omega))
      have hm2 := List.mem_of_getElem? hw
      exact ⟨hwm.row w hm2, by unfold lenB; omega, fun v hv => by have := hwm.ent w hm2 v hv; unfold in64; omega⟩
    obtain ⟨al', z1, z2⟩ := bsA_pz (s := ⟨AObj.cells false [.int a.f, .int a.t, .sl al t] :: .cells false [.int b.f, .int b.t, .sl bl u] :: .cells false [.int a.f, .int b.t, .sl (bsA 4 p bl.length) tl] :: .cells false [.int a.f, .int b.t, .sl (bsA 4 p bl.length) tl] :: rowsH (comp a b).m, T⟩) (n := 4) (p := p) (k := 1016) (m := (comp a b).m) (fun j w hw => ⟨by rw [Nat.add_comm]; simp [rowsH, hw], hmat j w hw⟩) bl.length (by omega)
    rw [List.take_of_length_le (by omega)] at z2
    rw [show (1020 : Nat) = 1018 + 2 from rfl, pz_agg]
    simp only [mapO]
    rw [purify_pure (pv_v), purify_pure (pv_v), show (1018 + 1 : Nat) = 1017 + 2 from rfl, pz_sl, z1]
    exact ⟨_, rfl, al', _, rfl, z2, app_fast hA (by omega), by rw [z2.len, hcl]; exact b3, a4, b5⟩
end Go.Proofs.Eng
