/- The sort of the calls that are found. No conditions beyond those in the theorems. -/
import Derived.Test.YtodnkbnbjhcikaaDoorCM
import Derived.RangeFuncBox
import Derived.RangeFuncLeaves
import Derived.Shelf.Abstract
import Derived.WalkKit
import Derived.OwnWalkIn
import Derived.TacticsInMore
import Derived.LoopNIn
import Derived.LoopIn
import Derived.Lib.QuietBelow
import Derived.Shelf.SlSortCmp.NoneTotal
set_option linter.all false
set_option linter.deprecated false
set_option linter.unnecessarySimpa false
set_option linter.unusedVariables false
set_option linter.unusedSimpArgs false
set_option linter.defProp false
namespace Go.Proofs.Eng.F
open Go Go.Proofs Go.Proofs.Eng
set_option maxRecDepth 100000
set_option maxHeartbeats 16000000
theorem composed_ret {a b : Cl} {x y : AV} {p q r : Nat} (hx : ClIs a x) (hy : ClIs b y) (ha : Wm a.m q p) (hb : Wm b.m r q) (hq : 1 ≤ q) (hp : p ≤ 16) (hq16 : q ≤ 16) (hr : r ≤ 16) : Out md pfs 37 [x, y] (fun v => ClIs (comp a b) v) fun _ => False := by
  obtain ⟨al, t, rfl, a1, a2, a3, a4, a5⟩ := hx.of
  obtain ⟨bl, u, rfl, b1, b2, b3, b4, b5⟩ := hy.of
  have al1 := a1.len
  have bl1 := b1.len
  have al2 := ha.len
  have bl2 := hb.len
  have aall := rows_all a1
  have ball := rows_all b1
  obtain ⟨r0, t0, g1, g2, g3, _⟩ := row_get a1 (show 0 < al.length by omega)
  have hr0 : r0.length = p := ha.row r0 g2
  have hhd : (a.m.headD []).length = p := ha.head (by omega)
  have hz := zeros_ints p
  refine out_of pf37_is (Nat.le_of_ble_eq_true rfl) ?_
  simp only [pf37, ↓wpre, wset, wcore, wext, ne_eq, if_true, if_false, exists_eq_left', true_implies, false_implies, exists_const, exists_eq_right, binA, intA, loadA, storeA, pickC, setAt, mapO, argsE, X.isC, resA, oneA, unA, boundA, eqiA, eqsA, fillA, fillE, ASt.fz, strA, simprocAttr]
  refine W_loopE (fun i => bl.length - i) (fun i E H T => ∃ tl, E 2 = .ptr 0 0 ∧ E 3 = .ptr 1 0 ∧ E 4 = .ptr 2 0 ∧ E 5 = .ptr 3 0 ∧ E 19 = .sl bl u ∧ E 20 = .int bl.length ∧ E 21 = .int (i : Nat) ∧ i ≤ bl.length ∧ H = [.cells false [.int a.f, .int a.t, .sl al t], .cells false [.int b.f, .int b.t, .sl bl u], .cells false [.int 0, .int 0, .sl [] .nil], .cells false [.int a.f, .int b.t, .sl (bsA 4 p i) tl]] ++ rowsH ((comp a b).m.take i) ∧ App T (bsA 4 p i) tl) ?_ 0 ⟨_, rfl, rfl, rfl, rfl, rfl, rfl, rfl, Nat.zero_le _, rfl, app_start _⟩
  rintro i E H T ⟨tl, e2, e3, e4, e5, e19, e20, e21, hi, rfl, hA⟩
  rcases Nat.lt_or_ge i bl.length with hlt | hge
  · have hdec : decide ((i : Int) < bl.length) = true := by simpa using hlt
    obtain ⟨row, tr, m1, m2, m3, m4, m5, m6⟩ := row_get b1 hlt
    have hrow : row.length = q := hb.row row m2
    have hrent := hb.ent row m2
    have hCl : ([AObj.cells false [.int a.f, .int a.t, .sl al t], .cells false [.int b.f, .int b.t, .sl bl u], .cells false [.int 0, .int 0, .sl [] .nil], .cells false [.int a.f, .int b.t, .sl (bsA 4 p i) tl]] ++ rowsH ((comp a b).m.take i)).length = 4 + i := by
      simp [rowsH, comp]; omega
    generalize hC : ([AObj.cells false [.int a.f, .int a.t, .sl al t], .cells false [.int b.f, .int b.t, .sl bl u], .cells false [.int 0, .int 0, .sl [] .nil], .cells false [.int a.f, .int b.t, .sl (bsA 4 p i) tl]] ++ rowsH ((comp a b).m.take i)) = C at *
    have c0 : C[0]? = some (.cells false [.int a.f, .int a.t, .sl al t]) := by rw [← hC]; rfl
    have c1 : C[1]? = some (.cells false [.int b.f, .int b.t, .sl bl u]) := by rw [← hC]; rfl
    have c3 : C[3]? = some (.cells false [.int a.f, .int b.t, .sl (bsA 4 p i) tl]) := by rw [← hC]; rfl
    simp only [↓wpre, wset, wcore, wext, ne_eq, if_true, if_false, exists_eq_left', true_implies, false_implies, exists_const, exists_eq_right, binA, intA, loadA, storeA, pickC, setAt, mapO, argsE, X.isC, resA, oneA, unA, boundA, eqiA, eqsA, fillA, fillE, ASt.fz, strA, simprocAttr, List.length_append, List.append_assoc, app_get_len, app_get_add, app_set_len, app_set_add, e2, e3, e4, e5, e19, e20, e21, hdec, c0, c1, m3, ball, g3, aall, ints_len, hr0]
    refine ⟨by omega, ?_⟩
    refine W_loopE (fun J => q - J) (fun J E H T' => E 2 = .ptr 0 0 ∧ E 3 = .ptr 1 0 ∧ E 4 = .ptr 2 0 ∧ E 5 = .ptr 3 0 ∧ E 19 = .sl bl u ∧ E 20 = .int bl.length ∧ E 21 = .int (i : Nat) ∧ E 8 = .bs C.length 0 p 1 false ∧ E 31 = .sl (ints row) tr ∧ E 32 = .int (q : Nat) ∧ E 33 = .int (J : Nat) ∧ J ≤ q ∧ H = C ++ [.cells false (ints ((List.range p).map (pE row a.m J)))] ∧ T = T') ?_ 0 ⟨e2, e3, e4, e5, e19, e20, e21, rfl, rfl, by show AV.int ((row.length : Nat) : Int) = _; rw [hrow], rfl, Nat.zero_le _, by rw [show pE row a.m 0 = fun _ => 0 from rfl, ← hz, show flat (List.replicate p (AV.int 0)) = List.replicate p (AV.int 0) by rw [hz, flat_ints]], rfl⟩
    clear e2 e3 e4 e5 e19 e20 e21 hdec
    rintro J E H T' ⟨e2, e3, e4, e5, e19, e20, e21, e8, e31, e32, e33, hJ, rfl, rfl⟩
    rcases Nat.lt_or_ge J q with hJq | hJq
    · have hdec : decide ((J : Int) < q) = true := by simpa using hJq
      obtain ⟨xv, x1, x2, x3⟩ := ints_get (show J < row.length by omega)
      have iall := ints_all row
      have hxe := hrent xv (List.mem_of_getElem? x1)
      have hxg : row.getD J 0 = xv := by rw [List.getD, x1]; rfl
      by_cases hx0 : xv = 0
      · have d0 : (xv == 0) = true := by simp [hx0]
        simp only [↓wpre, wset, wcore, wext, ne_eq, if_true, if_false, exists_eq_left', true_implies, false_implies, exists_const, exists_eq_right, binA, intA, loadA, storeA, pickC, setAt, mapO, argsE, X.isC, resA, oneA, unA, boundA, eqiA, eqsA, fillA, fillE, ASt.fz, strA, simprocAttr, List.length_append, List.append_assoc, app_get_len, app_get_add, app_set_len, app_set_add, e2, e3, e4, e5, e19, e20, e21, e8, e31, e32, e33, hdec, x3, iall, d0]
        refine EQ_in ⟨J + 1, by omega, e2, e3, e4, e5, e19, e20, e21, e8, e31, e32, next_ixv (by unfold lenB; omega), by omega, ?_, rfl⟩
        rw [show pE row a.m (J + 1) = pE row a.m J from funext fun k => pE_x0 (by rw [hxg, hx0])]
      · have d0 : (xv == 0) = false := by simp [hx0]
        obtain ⟨ra, ta, n1, n2, n3, n4, n5, n6⟩ := row_get a1 (show J < al.length by omega)
        have hra : ra.length = p := ha.row ra n2
        have hraent := ha.ent ra n2
        have hag : ∀ k, get2 a.m J k = ra.getD k 0 := fun k => by simp [get2, List.getD, n1]
        simp only [↓wpre, wset, wcore, wext, ne_eq, if_true, if_false, exists_eq_left', true_implies, false_implies, exists_const, exists_eq_right, binA, intA, loadA, storeA, pickC, setAt, mapO, argsE, X.isC, resA, oneA, unA, boundA, eqiA, eqsA, fillA, fillE, ASt.fz, strA, simprocAttr, List.length_append, List.append_assoc, app_get_len, app_get_add, app_set_len, app_set_add, e2, e3, e4, e5, e19, e20, e21, e8, e31, e32, e33, hdec, x3, iall, d0, app_get_of c0, n3, aall, ints_len, hra]
        refine W_loopE (fun k => p - k) (fun k E H T' => E 2 = .ptr 0 0 ∧ E 3 = .ptr 1 0 ∧ E 4 = .ptr 2 0 ∧ E 5 = .ptr 3 0 ∧ E 19 = .sl bl u ∧ E 20 = .int bl.length ∧ E 21 = .int (i : Nat) ∧ E 8 = .bs C.length 0 p 1 false ∧ E 31 = .sl (ints row) tr ∧ E 32 = .int (q : Nat) ∧ E 33 = .int (J : Nat) ∧ E 10 = .int xv ∧ E 44 = .sl (ints ra) ta ∧ E 45 = .int (p : Nat) ∧ E 46 = .int (k : Nat) ∧ k ≤ p ∧ H = C ++ [.cells false (ints (mixL p (pE row a.m (J + 1)) (pE row a.m J) k))] ∧ T = T') ?_ 0 ⟨e2, e3, e4, e5, e19, e20, e21, e8, e31, e32, e33, rfl, rfl, rfl, rfl, Nat.zero_le _, by rw [mixL_zero], rfl⟩
        clear e2 e3 e4 e5 e19 e20 e21 e8 e31 e32 e33 hdec
        rintro k E H T' ⟨e2, e3, e4, e5, e19, e20, e21, e8, e31, e32, e33, e10, e44, e45, e46, hk, rfl, rfl⟩
        rcases Nat.lt_or_ge k p with hkp | hkp
        · have hdec : decide ((k : Int) < p) = true := by simpa using hkp
          obtain ⟨yv, y1, y2, y3⟩ := ints_get (show k < ra.length by omega)
          have iall2 := ints_all ra
          have hye := hraent yv (List.mem_of_getElem? y1)
          have hyg : get2 a.m J k = yv := by rw [hag, List.getD, y1]; rfl
          by_cases hy0 : yv = 0
          · have d1 : (yv != 0) = false := by simp [hy0]
            simp only [↓wpre, wset, wcore, wext, ne_eq, if_true, if_false, exists_eq_left', true_implies, false_implies, exists_const, exists_eq_right, binA, intA, loadA, storeA, pickC, setAt, mapO, argsE, X.isC, resA, oneA, unA, boundA, eqiA, eqsA, fillA, fillE, ASt.fz, strA, simprocAttr, List.length_append, List.append_assoc, app_get_len, app_get_add, app_set_len, app_set_add, e2, e3, e4, e5, e19, e20, e21, e8, e31, e32, e33, e10, e44, e45, e46, hdec, y3, iall2, d1]
            refine EQ_in ⟨k + 1, by omega, e2, e3, e4, e5, e19, e20, e21, e8, e31, e32, e33, e10, e44, e45, next_ixv (by unfold lenB; omega), by omega, ?_, rfl⟩
            rw [mixL_skip (pE_y0 (by rw [hyg, hy0]))]
          · have d1 : (yv != 0) = true := by simp [hy0]
            have hm : (ints (mixL p (pE row a.m (J + 1)) (pE row a.m J) k))[k]? = some (.int (pE row a.m J k)) := by
              simp only [ints, List.getElem?_map, mixL_get hkp, if_neg (Nat.lt_irrefl k), Option.map_some]
            have hpe := pE_xy (row := row) (am := a.m) (J := J) (k := k) (by omega) (by omega)
            rw [hxg, hyg] at hpe
            have hlen : (ints (mixL p (pE row a.m (J + 1)) (pE row a.m J) k)).length = p := by rw [ints_len, mixL_len]
            have hd : (List.drop k (ints (mixL p (pE row a.m (J + 1)) (pE row a.m J) k))).head? = some (.int (pE row a.m J k)) := by rw [List.head?_drop, hm]
            have hkl : ((k : Int) < (p : Int)) = True := eq_true (by omega)
            have hmx : (if yv > xv then yv else xv) = mx xv yv := rfl
            by_cases hgt : mx xv yv > pE row a.m J k
            · rw [if_pos hgt] at hpe
              have d2 : decide (mx xv yv > pE row a.m J k) = true := decide_eq_true hgt
              have hst : List.take k (ints (mixL p (pE row a.m (J + 1)) (pE row a.m J) k)) ++ AV.int (mx xv yv) :: List.drop (k + 1) (ints (mixL p (pE row a.m (J + 1)) (pE row a.m J) k)) = ints (mixL p (pE row a.m (J + 1)) (pE row a.m J) (k + 1)) := by rw [set_td (by rw [hlen]; exact hkp), ints_set, ← hpe, mixL_set]
              simp only [↓wpre, wset, wcore, wext, ne_eq, if_true, if_false, exists_eq_left', true_implies, false_implies, exists_const, exists_eq_right, binA, intA, loadA, storeA, pickC, setAt, mapO, argsE, X.isC, resA, oneA, unA, boundA, eqiA, eqsA, fillA, fillE, ASt.fz, strA, simprocAttr, List.length_append, List.append_assoc, app_get_len, app_get_add, app_set_len, app_set_add, e2, e3, e4, e5, e19, e20, e21, e8, e31, e32, e33, e10, e44, e45, e46, hdec, y3, iall2, d1, hd, hlen, hkl, hmx, d2, Nat.mul_one, hst]
              refine ⟨by omega, ?_⟩
              exact EQ_in ⟨k + 1, by omega, e2, e3, e4, e5, e19, e20, e21, e8, e31, e32, e33, e10, e44, e45, next_ixv (by unfold lenB; omega), by omega, rfl, rfl⟩
            · rw [if_neg hgt] at hpe
              have d2 : decide (mx xv yv > pE row a.m J k) = false := decide_eq_false hgt
              simp only [↓wpre, wset, wcore, wext, ne_eq, if_true, if_false, exists_eq_left', true_implies, false_implies, exists_const, exists_eq_right, binA, intA, loadA, storeA, pickC, setAt, mapO, argsE, X.isC, resA, oneA, unA, boundA, eqiA, eqsA, fillA, fillE, ASt.fz, strA, simprocAttr, List.length_append, List.append_assoc, app_get_len, app_get_add, app_set_len, app_set_add, e2, e3, e4, e5, e19, e20, e21, e8, e31, e32, e33, e10, e44, e45, e46, hdec, y3, iall2, d1, hd, hlen, hkl, hmx, d2, Nat.mul_one]
              refine EQ_in ⟨k + 1, by omega, e2, e3, e4, e5, e19, e20, e21, e8, e31, e32, e33, e10, e44, e45, next_ixv (by unfold lenB; omega), by omega, ?_, rfl⟩
              rw [mixL_skip hpe]
        · have hdec : decide ((k : Int) < p) = false := by simpa using hkp
          simp only [↓wpre, wset, wcore, wext, ne_eq, if_true, if_false, exists_eq_left', true_implies, false_implies, exists_const, exists_eq_right, binA, intA, loadA, storeA, pickC, setAt, mapO, argsE, X.isC, resA, oneA, unA, boundA, eqiA, eqsA, fillA, fillE, ASt.fz, strA, simprocAttr, List.length_append, List.append_assoc, app_get_len, app_get_add, app_set_len, app_set_add, e2, e3, e4, e5, e19, e20, e21, e8, e31, e32, e33, e10, e44, e45, e46, hdec]
          refine EQ_in ⟨J + 1, by omega, e2, e3, e4, e5, e19, e20, e21, e8, e31, e32, next_ixv (by unfold lenB; omega), by omega, by rw [mixL_all hkp], rfl⟩
    · have hdec : decide ((J : Int) < q) = false := by simpa using hJq
      obtain rfl : J = q := by omega
      obtain ⟨tl', T', ap, hA', _⟩ := app_one (es := 1) (x := .bs C.length 0 p 1 false) hA (by rw [bsA_len]; unfold capB; omega) bsA_all rfl rfl
      have l3 := lt_of_get c3
      simp only [↓wpre, wset, wcore, wext, ne_eq, if_true, if_false, exists_eq_left', true_implies, false_implies, exists_const, exists_eq_right, binA, intA, loadA, storeA, pickC, setAt, mapO, argsE, X.isC, resA, oneA, unA, boundA, eqiA, eqsA, fillA, fillE, ASt.fz, strA, simprocAttr, List.length_append, List.append_assoc, app_get_len, app_get_add, app_set_len, app_set_add, e2, e3, e4, e5, e19, e20, e21, e8, e31, e32, e33, hdec, app_get_of c3, ap]
      refine EQ_in ⟨i + 1, by omega, tl', e2, e3, e4, e5, e19, e20, next_ixv (by omega), by omega, ?_, by rw [bsA_succ, ← hCl]; exact hA'⟩
      have hgi : (comp a b).m[i]? = some ((List.range p).map (pE row a.m J)) := by rw [comp_rows, List.getElem?_map, m1, hhd, al2]; rfl
      rw [bsA_succ, ← hCl, List.take_add_one, hgi, ← hC]
      simp [rowsH]
  · have hdec : decide ((i : Int) < bl.length) = false := by simpa using hge
    obtain rfl : i = bl.length := by omega
    have hcl : (comp a b).m.length = bl.length := by rw [comp_rows, List.length_map]; omega
    rw [List.take_of_length_le (by omega)]
    simp only [↓wpre, wset, wcore, wext, ne_eq, if_true, if_false, exists_eq_left', true_implies, false_implies, exists_const, exists_eq_right, binA, intA, loadA, storeA, pickC, setAt, mapO, argsE, X.isC, resA, oneA, unA, boundA, eqiA, eqsA, fillA, fillE, ASt.fz, strA, simprocAttr, List.length_append, List.append_assoc, app_get_len, app_get_add, app_set_len, app_set_add, e2, e3, e4, e5, e19, e20, e21, hdec]
    have hmat : ∀ (j : Nat) (w : List Int), (comp a b).m[j]? = some w → w.length = p ∧ p ≤ lenB ∧ ∀ v ∈ w, in64 v := by
      intro j w hw
      have hwm := (comp_wm ha hb (by omega))
      have hm2 := List.mem_of_getElem? hw
      exact ⟨hwm.row w hm2, by unfold lenB; omega, fun v hv => by have := hwm.ent w hm2 v hv; unfold in64; omega⟩
    obtain ⟨al', z1, z2⟩ := bsA_pz (s := ⟨AObj.cells false [.int a.f, .int a.t, .sl al t] :: .cells false [.int b.f, .int b.t, .sl bl u] :: .cells false [.int a.f, .int b.t, .sl (bsA 4 p bl.length) tl] :: .cells false [.int a.f, .int b.t, .sl (bsA 4 p bl.length) tl] :: rowsH (comp a b).m, T⟩) (n := 4) (p := p) (k := 1016) (m := (comp a b).m) (fun j w hw => ⟨by rw [Nat.add_comm]; simp [rowsH, hw], hmat j w hw⟩) bl.length (by omega)
    rw [List.take_of_length_le (by omega)] at z2
    rw [show (1020 : Nat) = 1018 + 2 from rfl, pz_agg]
    simp only [mapO]
    rw [purify_pure (pv_v), purify_pure (pv_v), show (1018 + 1 : Nat) = 1017 + 2 from rfl, pz_sl, z1]
    exact ⟨_, rfl, al', _, rfl, z2, app_fast hA (by omega), by rw [z2.len, hcl]; exact b3, a4, b5⟩
end Go.Proofs.Eng.F
namespace Go.Proofs.Eng
open Go Go.Proofs
theorem good_sm {ar : Int → Nat} {c : Cl} (h : Good ar c) : Sm c := form_sm h.form
theorem LIs.memA {α : Type} {R : α → AV → Prop} : ∀ {l : List α} {al : List AV}, LIs R l al → ∀ x ∈ l, ∃ a, R x a
  | [], _, _, x, hx => by simp at hx
  | _ :: _, [], h, _, _ => by simp [LIs] at h
  | y :: l, a :: al, h, x, hx => by
    simp only [LIs] at h
    rcases List.mem_cons.1 hx with rfl | hx
    · exact ⟨a, h.1⟩
    · exact LIs.memA h.2 x hx
theorem FoundS.app {q : List Cl} {H : List AObj} {T : List Nat} (h : FoundS q H T) (Z : List AObj) : FoundS q (H ++ Z) T := by
  obtain ⟨al, t, es, h0, h1, h2⟩ := h
  exact ⟨al, t, es, app_get_of h0 _, app_get_of h1 _, h2⟩
theorem Rest2.app (H Z : List AObj) : Rest2 H (H ++ Z) := ⟨by simp, fun i o _ h => app_get_of h _⟩
theorem fold_take {α β : Type} {f : β → α → β} {b : β} {l : List α} {j : Nat} {x : α} (h : l[j]? = some x) : (l.take (j + 1)).foldl f b = f ((l.take j).foldl f b) x := by
  rw [List.take_add_one, h, List.foldl_append]; rfl
end Go.Proofs.Eng
namespace Go.Proofs.Eng.F
open Go Go.Proofs Go.Proofs.Eng
set_option maxRecDepth 100000
set_option maxHeartbeats 16000000
def Rw (f : FuncId) (args : List AV) (s : ASt) (PR : AV → ASt → Prop) : Prop := ∃ v s1, run md pfs f args s = some (.ret v, s1) ∧ PR v s1
def AQ (res : List PR) (PR : AV → ASt → Prop) : AExit → St → Prop
  | .pan _, _ => False
  | .exit _, _ => False
  | _, st => st.df = [] ∧ ∃ l, resA st.tm st.s res = some l ∧ PR (oneA l) st.s
theorem AQ_ret {res : List PR} {PR : AV → ASt → Prop} {st : St} : AQ res PR .ret st = (st.df = [] ∧ ∃ l, resA st.tm st.s res = some l ∧ PR (oneA l) st.s) := rfl
theorem AQ_normal {res : List PR} {PR : AV → ASt → Prop} {st : St} : AQ res PR .normal st = (st.df = [] ∧ ∃ l, resA st.tm st.s res = some l ∧ PR (oneA l) st.s) := rfl
theorem AQ_pan {res : List PR} {PR : AV → ASt → Prop} {v : AV} {st : St} : AQ res PR (.pan v) st = False := rfl
theorem AQ_exit {res : List PR} {PR : AV → ASt → Prop} {v : Nat} {st : St} : AQ res PR (.exit v) st = False := rfl
theorem rw_of {f : FuncId} {pf : PF} (hp : pfs f = some pf) {args : List AV} {s : ASt} {PR : AV → ASt → Prop} (hn : args.length ≤ pf.nt) (h : W (run md pfs) md pf.body ⟨tmE pf.nt (argsE args), [], s⟩ (AQ pf.res PR) ()) : Rw f args s PR := by
  unfold Rw
  rw [run_eq hp (W_ora h)]
  unfold bodyI
  rw [args_tm args pf.nt hn]
  unfold W at h
  cases hx : execL (run md pfs) md (loopI (run md pfs) md) pf.body ⟨tmE pf.nt (argsE args), [], s⟩ with
  | none => rw [hx] at h; exact h.elim
  | some x =>
    obtain ⟨r, st⟩ := x
    obtain ⟨tm, df, s⟩ := st
    rw [hx] at h
    cases r with
    | exit i => exact h.elim
    | pan v => exact h.elim
    | normal =>
      obtain ⟨h1, l, h2, h3⟩ := h
      simp only at h1; subst h1
      refine ⟨oneA l, s, ?_, h3⟩
      simp only at h2
      simp only [List.isEmpty_nil, Bool.not_true, Bool.and_false, Bool.false_eq_true, if_false, leaveA, h2]; rfl
    | ret =>
      obtain ⟨h1, l, h2, h3⟩ := h
      simp only at h1; subst h1
      refine ⟨oneA l, s, ?_, h3⟩
      simp only at h2
      simp only [List.isEmpty_nil, Bool.not_true, Bool.and_false, Bool.false_eq_true, if_false, leaveA, h2]; rfl
theorem Rw.call {f : FuncId} {args : List AV} {s : ASt} {PR : AV → ASt → Prop} (h : Rw f args s PR) (hm : md f = .raw) : ∃ v s', PR v s' ∧ ∀ K KP, CW (run md pfs) md false s f args K KP () = K v s' := by
  obtain ⟨v, s1, h1, h2⟩ := h
  exact ⟨v, s1, h2, fun K KP => by simp [CW, callA, hm, h1]⟩
theorem add_call {ar : Int → Nat} {q : List Cl} {c : Cl} {a : AV} {H : List AObj} {T : List Nat} (hK : FoundS q H T) (hc : ClIs c a) (hg : Good ar c) (hq : ∀ x ∈ q, Good ar x) (hl : q.length ≤ 1000000) :
    ∃ v H' T', FoundS (addQ q c) H' T' ∧ Rest2 H H' ∧ ∀ K KP, CW (run md pfs) md false ⟨H, T⟩ 43 [.ptr 1 0, a] K KP () = K v ⟨H', T'⟩ := by
  have hL : ∀ x ∈ q, ∃ a, ClIs x a := by
    obtain ⟨al, t, es, _, _, h, _⟩ := hK
    exact LIs.memA h
  rcases (add_sh hK hc (good_sm hg) (fun x hx => by obtain ⟨a, ha⟩ := hL x hx; exact ent_in ha) (fun x hx e => ent_inj (hq x hx) hg e) hl).call rfl with ⟨v, s', ⟨H', T', rfl, h1, h2⟩, h3⟩ | ⟨_, _, h, _⟩
  · exact ⟨v, H', T', h1, h2, h3⟩
  · exact h.elim
theorem queue_call {H : List AObj} {T : List Nat} : ∀ K KP, CW (run md pfs) md false ⟨H, T⟩ 45 [.ptr 1 0] K KP () = K (.fn 59 [.ptr H.length 0]) ⟨H ++ [.cells false [.ptr 1 0]], T⟩ := by
  have h : Rw 45 [.ptr 1 0] ⟨H, T⟩ fun v s' => v = .fn 59 [.ptr H.length 0] ∧ s' = ⟨H ++ [.cells false [.ptr 1 0]], T⟩ := by
    refine rw_of pf45_is (Nat.le_of_ble_eq_true rfl) ?_
    simp only [pf45, ↓wpre, wset, wcore, wext, ne_eq, if_true, if_false, exists_eq_left', true_implies, false_implies, exists_const, exists_eq_right, binA, intA, loadA, storeA, pickC, setAt, mapO, argsE, X.isC, resA, oneA, unA, boundA, eqiA, eqsA, fillA, fillE, ASt.fz, strA, simprocAttr, List.length_append, List.append_assoc, app_get_len, app_get_add, app_set_len, app_set_add, AQ_ret, AQ_normal, AQ_pan, AQ_exit]
  obtain ⟨v, s', ⟨rfl, rfl⟩, h⟩ := h.call rfl
  exact h
theorem add_good {ar : Int → Nat} {q : List Cl} {c : Cl} (hq : ∀ x ∈ q, Good ar x) (hc : Good ar c) : ∀ x ∈ addQ q c, Good ar x := by
  intro x hx
  rcases addQ_mem.1 hx with h | rfl
  · exact hq x h
  · exact hc
end Go.Proofs.Eng.F
namespace Go.Proofs.Eng.F
open Go Go.Proofs Go.Proofs.Eng
set_option maxRecDepth 100000
set_option maxHeartbeats 16000000
def QF (cs : List Cl) : AExit → St → Prop
  | .normal, st => EQ 70 [] (fun E H T => ∃ q, cloQ cs = some q ∧ q.length ≤ 2000 ∧ E 4 = .ptr 2 0 ∧ H[2]? = some (.cells false [.ptr 1 0]) ∧ FoundS q H T) st
  | .ret, st => EQ 70 [] (fun E H T => cloQ cs = none ∧ E 2 = .sl [] .nil ∧ E 3 = .bool false) st
  | _, _ => False
theorem QF_n {cs : List Cl} {st : St} : QF cs .normal st = EQ 70 [] (fun E H T => ∃ q, cloQ cs = some q ∧ q.length ≤ 2000 ∧ E 4 = .ptr 2 0 ∧ H[2]? = some (.cells false [.ptr 1 0]) ∧ FoundS q H T) st := rfl
theorem QF_r {cs : List Cl} {st : St} : QF cs .ret st = EQ 70 [] (fun E H T => cloQ cs = none ∧ E 2 = .sl [] .nil ∧ E 3 = .bool false) st := rfl
theorem flat_dropN {q : List Cl} {ql2 : List AV} (h : LIs ClIs q ql2) : ∀ {J : Nat}, List.drop (J * 3) (flat ql2) = flat (ql2.drop J) := by
  induction ql2 generalizing q with
  | nil => intro J; simp [flat]
  | cons a l ih =>
    intro J
    cases q with
    | nil => simp [LIs] at h
    | cons c q =>
      simp only [LIs] at h
      cases J with
      | zero => simp
      | succ J =>
        obtain ⟨bl, u, rfl, _⟩ := h.1.of
        rw [flat_cons, Nat.succ_mul, Nat.add_comm, List.drop_succ_cons, ← ih h.2, ← List.drop_drop]
        rfl
theorem setPs_one {tm : List AV} {k : Nat} {v : AV} : setPs tm [k] [v] = put tm (some k) v := rfl
theorem front_w {cs : List Cl} {al : List AV} {t : Tl} {ar : Int → Nat} (h : LIs ClIs cs al) (hg : ∀ c ∈ cs, Good ar c) (hl : cs.length ≤ 1000) : W (run md pfs) md pf930.body ⟨tmE 70 (argsE [.sl al t]), [], ⟨[], []⟩⟩ (QF cs) () := by
  have hall := h.all clAgg
  have hln := h.len
  simp only [pf930, ↓wpre, wset, wcore, wext, ne_eq, if_true, if_false, exists_eq_left', true_implies, false_implies, exists_const, exists_eq_right, binA, intA, loadA, storeA, pickC, setAt, mapO, argsE, X.isC, resA, oneA, unA, boundA, eqiA, eqsA, fillA, fillE, ASt.fz, strA, simprocAttr]
  refine W_loopE (fun j => al.length - j) (fun j E H T => E 4 = .ptr 2 0 ∧ E 14 = .sl al t ∧ E 15 = .int al.length ∧ E 16 = .int (j : Nat) ∧ j ≤ al.length ∧ H[2]? = some (.cells false [.ptr 1 0]) ∧ FoundS ((cs.take j).foldl addQ []) H T) ?_ 0 ⟨rfl, rfl, rfl, rfl, Nat.zero_le _, rfl, ⟨[], .nil, [], rfl, rfl, trivial, app_start _, mapB_nil⟩⟩
  rintro j E H T ⟨e4, e14, e15, e16, hj, h2, hK⟩
  have hpre : (∀ x ∈ (cs.take j).foldl addQ [], x ∈ cs.take j) := fun x hx => by
    have := ((dedup_aux (cs.take j) [] (by simp)).2.1 x).1 hx
    simpa using this
  have hqg : ∀ x ∈ (cs.take j).foldl addQ [], Good ar x := fun x hx => hg x (List.mem_of_mem_take (hpre x hx))
  have hql : ((cs.take j).foldl addQ []).length ≤ 1000 := by
    have := (dedup_aux (cs.take j) [] (by simp)).2.2
    rw [List.length_take] at this
    simp only [List.length_nil] at this
    omega
  rcases Nat.lt_or_ge j al.length with hlt | hge
  · have hdec : decide ((j : Int) < al.length) = true := by simpa using hlt
    obtain ⟨c, a, m1, m2, m3, m4⟩ := cl_get h hlt
    obtain ⟨bl, u, rfl, _⟩ := m4.of
    obtain ⟨v, H', T', k1, k2, k3⟩ := add_call (H := H ++ [.cells false [.int c.f, .int c.t, .sl bl u]]) (hK.app _) m4 (hg c m2) hqg (by omega)
    simp only [↓wpre, wset, wcore, wext, ne_eq, if_true, if_false, exists_eq_left', true_implies, false_implies, exists_const, exists_eq_right, binA, intA, loadA, storeA, pickC, setAt, mapO, argsE, X.isC, resA, oneA, unA, boundA, eqiA, eqsA, fillA, fillE, ASt.fz, strA, simprocAttr, List.length_append, List.append_assoc, app_get_len, app_get_add, app_set_len, app_set_add, e4, e14, e15, e16, hdec, m3, hall, app_get_of h2, k3]
    exact EQ_in ⟨j + 1, by omega, e4, e14, e15, next_ixv (by unfold lenB; omega), by omega, k2.2 2 _ (Nat.le_refl _) (app_get_of h2 _), by rw [fold_take m1]; exact k1⟩
  · have hdec : decide ((j : Int) < al.length) = false := by simpa using hge
    rw [List.take_of_length_le (by omega)] at hK hqg hql
    rw [show cs.foldl addQ [] = dedup cs from rfl] at hK hqg hql
    clear hpre
    obtain ⟨ql, tq, es, g0, g1, gL, gA, gM⟩ := hK
    have hK : FoundS (dedup cs) H T := ⟨ql, tq, es, g0, g1, gL, gA, gM⟩
    have hq2 := gL.all2 clAgg
    have hqn := gL.len
    by_cases hne : ql = []
    · subst hne
      have hd0 : dedup cs = [] := List.length_eq_zero_iff.1 hqn.symm
      obtain rfl : tq = .nil := by
        rcases gA with ⟨_, h⟩ | ⟨h, _⟩
        · exact h
        · exact absurd rfl h
      have hclo : cloQ cs = some [] := by unfold cloQ; rw [hd0]; rfl
      have cq := @queue_call
      have hcln : clnA ⟨H, T⟩ 3 true false (.sl [] .nil) [] = some (.val (.sl [] .nil) ⟨H, T⟩) := rfl
      simp only [↓wpre, wset, wcore, wext, ne_eq, if_true, if_false, exists_eq_left', true_implies, false_implies, exists_const, exists_eq_right, binA, intA, loadA, storeA, pickC, setAt, mapO, argsE, X.isC, resA, oneA, unA, boundA, eqiA, eqsA, fillA, fillE, ASt.fz, strA, simprocAttr, List.length_append, List.append_assoc, app_get_len, app_get_add, app_set_len, app_set_add, e4, e14, e15, e16, hdec, h2, g1, hcln, cq, app_get_of h2]
      generalize hH1 : H ++ [.cells false [.sl [] .nil], .cells false [.ptr 1 0]] = H1
      have f2 : H1[2]? = some (.cells false [.ptr 1 0]) := by rw [← hH1]; exact app_get_of h2 _
      have f1 : H1[1]? = some (.cells false [.mp 0, .sl [] .nil]) := by rw [← hH1]; exact app_get_of g1 _
      have fk : H1[H.length + 1]? = some (.cells false [.ptr 1 0]) := by rw [← hH1, List.getElem?_append_right (by omega), Nat.add_sub_cancel_left]; rfl
      have hK1 : FoundS (dedup cs) H1 T := by rw [← hH1]; exact hK.app _
      refine W_rangeq (gf := 59) (caps := [.ptr (H.length + 1) 0]) rfl rfl 1 (by omega) (fun i s => s = ⟨H1, T⟩ ∧ i = 0) ?_ ⟨rfl, rfl⟩
      rintro i s ⟨rfl, rfl⟩
      have hit : itF 59 [.ptr (H.length + 1) 0] ⟨H1, T⟩ 0 = some none := by
        simp only [itF, if_true, fk, f1]
        rfl
      refine .inl ⟨hit, ?_⟩
      have d1 : decide ((0 : Int) > 2000) = false := rfl
      simp only [↓wpre, wset, wcore, wext, ne_eq, if_true, if_false, exists_eq_left', true_implies, false_implies, exists_const, exists_eq_right, binA, intA, loadA, storeA, pickC, setAt, mapO, argsE, X.isC, resA, oneA, unA, boundA, eqiA, eqsA, fillA, fillE, ASt.fz, strA, simprocAttr, List.length_append, List.append_assoc, app_get_len, app_get_add, app_set_len, app_set_add, e4, f2, f1, d1, QF_n, QF_r]
      exact EQ_in ⟨[], hclo, by simp, e4, f2, by rw [← hd0]; exact hK1⟩
    · have hcl : ql.length ≤ 1073741824 := by omega
      have hcln : clnA ⟨H, T⟩ 3 true false (.sl ql tq) ql = some (.val (.bs H.length 0 ql.length 3 true) ⟨H ++ [.cells false (flat ql)], T⟩) := by
        cases ql with
        | nil => exact absurd rfl hne
        | cons x l => simp only [clnA]; rw [if_pos ⟨hcl, hq2⟩]
      have cq := @queue_call
      simp only [↓wpre, wset, wcore, wext, ne_eq, if_true, if_false, exists_eq_left', true_implies, false_implies, exists_const, exists_eq_right, binA, intA, loadA, storeA, pickC, setAt, mapO, argsE, X.isC, resA, oneA, unA, boundA, eqiA, eqsA, fillA, fillE, ASt.fz, strA, simprocAttr, List.length_append, List.append_assoc, app_get_len, app_get_add, app_set_len, app_set_add, e4, e14, e15, e16, hdec, h2, g1, hcln, cq, app_get_of h2]
      have hql2 : ql.length ≤ 1000 := by omega
      generalize hH1 : H ++ [.cells false (flat ql), .cells false [.bs H.length 0 ql.length 3 true], .cells false [.ptr 1 0]] = H1
      have f2 : H1[2]? = some (.cells false [.ptr 1 0]) := by rw [← hH1]; exact app_get_of h2 _
      have fk0 : H1[H.length]? = some (.cells false (flat ql)) := by rw [← hH1, List.getElem?_append_right (Nat.le_refl _), Nat.sub_self]; rfl
      have fk1 : H1[H.length + 1]? = some (.cells false [.bs H.length 0 ql.length 3 true]) := by rw [← hH1, List.getElem?_append_right (by omega), Nat.add_sub_cancel_left]; rfl
      have fk2 : H1[H.length + 2]? = some (.cells false [.ptr 1 0]) := by rw [← hH1, List.getElem?_append_right (by omega), Nat.add_sub_cancel_left]; rfl
      have hK1 : FoundS (dedup cs) H1 T := by rw [← hH1]; exact hK.app _
      have hn2 := lt_of_get h2
      generalize hnk : H.length = n at *
      clear hH1 g0 g1 h2 hK hcln
      refine W_rangeq (gf := 59) (caps := [.ptr (n + 2) 0]) rfl rfl 2001 (by omega) (fun i s => ∃ H' T' q, s = ⟨H', T'⟩ ∧ FoundS q H' T' ∧ Rest2 H1 H' ∧ i ≤ 2000 ∧ i ≤ q.length ∧ bfs (dedup cs) (2003 - i) i q = cloQ cs ∧ (∀ x ∈ q, Good ar x) ∧ q.length ≤ 100000) ?_ ⟨_, _, _, rfl, hK1, Rest2.refl _, by omega, by omega, rfl, hqg, by omega⟩
      rintro i s ⟨H', T', q, rfl, hKq, hR, hi, hiq, hbfs, hqgg, hq5⟩
      have r2 := hR.2 2 _ (Nat.le_refl _) f2
      have rk0 := hR.2 n _ (by omega) fk0
      have rk1 := hR.2 (n + 1) _ (by omega) fk1
      have rk2 := hR.2 (n + 2) _ (by omega) fk2
      obtain ⟨qa, qt, es2, c0, c1, cL, cA, cM⟩ := hKq
      have hKq : FoundS q H' T' := ⟨qa, qt, es2, c0, c1, cL, cA, cM⟩
      have hqa := cL.all clAgg
      have hqan := cL.len
      obtain ⟨kf, hkf⟩ : ∃ kf, 2003 - i = kf + 1 := ⟨2002 - i, by omega⟩
      rw [hkf, bfs] at hbfs
      rcases Nat.lt_or_ge i q.length with hlt | hge
      · obtain ⟨x, xa, p1, p2, p3, p4⟩ := cl_get cL (show i < qa.length by omega)
        obtain ⟨bl, u, rfl, _⟩ := p4.of
        rw [p1] at hbfs
        simp only at hbfs
        have hit : itF 59 [.ptr (n + 2) 0] ⟨H', T'⟩ i = some (some [.agg [.int x.f, .int x.t, .sl bl u]]) := by
          simp only [itF, if_true, rk2, c1]
          rw [if_pos ⟨hqa, by omega⟩, p3]
        refine .inr ⟨by omega, _, hit, rfl, ?_⟩
        by_cases hbig : q.length > 2000
        · have d1 : decide ((qa.length : Int) > 2000) = true := by simp only [decide_eq_true_eq]; omega
          rw [if_pos hbig] at hbfs
          have b32 : ∀ {Q : AExit → St → Prop} {st : St}, BQ 3 Q (.exit 2) st = Q (.exit 2) st := BQ_e' (by decide)
          simp only [↓wpre, wset, wcore, wext, ne_eq, if_true, if_false, exists_eq_left', true_implies, false_implies, exists_const, exists_eq_right, binA, intA, loadA, storeA, pickC, setAt, mapO, argsE, X.isC, resA, oneA, unA, boundA, eqiA, eqsA, fillA, fillE, ASt.fz, strA, simprocAttr, List.length_append, List.append_assoc, app_get_len, app_get_add, app_set_len, app_set_add, setPs_one, e4, app_get_of r2, app_get_of c1, d1, QF_n, QF_r, b32]
          exact EQ_in ⟨hbfs.symm, rfl, rfl⟩
        · have d1 : decide ((qa.length : Int) > 2000) = false := by simp only [decide_eq_false_iff_not]; omega
          rw [if_neg hbig] at hbfs
          have hgx : Good ar x := hqgg x p2
          simp only [↓wpre, wset, wcore, wext, ne_eq, if_true, if_false, exists_eq_left', true_implies, false_implies, exists_const, exists_eq_right, binA, intA, loadA, storeA, pickC, setAt, mapO, argsE, X.isC, resA, oneA, unA, boundA, eqiA, eqsA, fillA, fillE, ASt.fz, strA, simprocAttr, List.length_append, List.append_assoc, app_get_len, app_get_add, app_set_len, app_set_add, setPs_one, e4, app_get_of r2, app_get_of c1, d1, app_get_of rk1]
          have x8 : (H' ++ [.cells false [.int x.f, .int x.t, .sl bl u]])[H'.length]? = some (AObj.cells false [.int x.f, .int x.t, .sl bl u]) := app_get_len
          have hl2' := lt_of_get r2
          refine W_loopE (fun J => ql.length - J) (fun J E H2 T2 => ∃ q', E 4 = .ptr 2 0 ∧ E 8 = .ptr H'.length 0 ∧ E 38 = .bs n 0 ql.length 3 true ∧ E 39 = .int ql.length ∧ E 40 = .int (J : Nat) ∧ J ≤ ql.length ∧ FoundS q' H2 T2 ∧ Rest2 (H' ++ [.cells false [.int x.f, .int x.t, .sl bl u]]) H2 ∧ q' = ((dedup cs).take J).foldl (fun q d => if x.t = d.f then addQ q (comp x d) else q) q ∧ (∀ y ∈ q', Good ar y) ∧ q'.length ≤ q.length + J ∧ q.length ≤ q'.length) ?_ 0 ⟨q, e4, rfl, rfl, rfl, rfl, Nat.zero_le _, hKq.app _, Rest2.refl _, rfl, hqgg, by omega, by omega⟩
          clear e4 e14 e15 e16 hdec
          rintro J E H2 T2 ⟨q', e4, e8, e38, e39, e40, hJ, kK, kR, hq', kG, kL, kL2⟩
          have s2 := kR.2 2 _ (Nat.le_refl _) (app_get_of r2 _)
          have s0 := kR.2 n _ (by omega) (app_get_of rk0 _)
          have s8 := kR.2 H'.length _ (by omega) x8
          rcases Nat.lt_or_ge J ql.length with hJl | hJg
          · have hdec : decide ((J : Int) < ql.length) = true := by simpa using hJl
            obtain ⟨d, da, w1, w2, w3, w4⟩ := cl_get gL hJl
            obtain ⟨dl, du, rfl, _⟩ := w4.of
            have hgd : Good ar d := hqg d w2
            have hlt3 : ((J : Int) < (ql.length : Int)) = True := eq_true (by omega)
            have htk : List.take 3 (List.drop (J * 3) (flat ql)) = [.int d.f, .int d.t, .sl dl du] := by
              rw [flat_dropN (ql2 := ql) gL (J := J), drop_cons w3, flat_cons]; rfl
            have hle3 : (3 ≤ (List.drop (J * 3) (flat ql)).length) = True := by
              refine eq_true ?_
              have := congrArg List.length htk
              simp only [List.length_take, List.length_cons, List.length_nil] at this
              omega
            by_cases hxd : x.t = d.f
            · have dx : (x.t == d.f) = true := by simp [hxd]
              obtain ⟨cv, hcv, c37⟩ := (composed_ret p4 w4 hgx.wm (by rw [hxd]; exact hgd.wm) hgx.r1.1 hgx.c1.2 hgx.r1.2 hgd.r1.2).call rfl (by simp [pvs_cons, pvs_nil, p4.pure, w4.pure])
              have hgc := comp_good hgx hgd hxd
              obtain ⟨v3, H3, T3, y1, y2, y3⟩ := add_call (H := H2 ++ [.cells false [.int d.f, .int d.t, .sl dl du]]) (kK.app _) hcv hgc kG (by omega)
              simp only [↓wpre, wset, wcore, wext, ne_eq, if_true, if_false, exists_eq_left', true_implies, false_implies, exists_const, exists_eq_right, binA, intA, loadA, storeA, pickC, setAt, mapO, argsE, X.isC, resA, oneA, unA, boundA, eqiA, eqsA, fillA, fillE, ASt.fz, strA, simprocAttr, List.length_append, List.append_assoc, app_get_len, app_get_add, app_set_len, app_set_add, e4, e8, e38, e39, e40, hdec, hlt3, s0, s8, s2, htk, hle3, app_get_of s8, app_get_of s2, dx, c37, y3]
              refine EQ_in ⟨J + 1, by omega, addQ q' (comp x d), e4, e8, e38, e39, next_ixv (by unfold lenB; omega), by omega, y1, (kR.trans (Rest2.app _ _)).trans y2, ?_, add_good kG hgc, ?_, ?_⟩
              · rw [fold_take w1, ← hq', if_pos hxd]
              · have := addQ_len q' (comp x d); omega
              · have := (addQ_pre q' (comp x d)).length_le; omega
            · have dx : (x.t == d.f) = false := by simp [hxd]
              simp only [↓wpre, wset, wcore, wext, ne_eq, if_true, if_false, exists_eq_left', true_implies, false_implies, exists_const, exists_eq_right, binA, intA, loadA, storeA, pickC, setAt, mapO, argsE, X.isC, resA, oneA, unA, boundA, eqiA, eqsA, fillA, fillE, ASt.fz, strA, simprocAttr, List.length_append, List.append_assoc, app_get_len, app_get_add, app_set_len, app_set_add, e4, e8, e38, e39, e40, hdec, hlt3, s0, s8, s2, htk, hle3, app_get_of s8, app_get_of s2, dx]
              refine EQ_in ⟨J + 1, by omega, q', e4, e8, e38, e39, next_ixv (by unfold lenB; omega), by omega, kK.app _, kR.trans (Rest2.app _ _), ?_, kG, by omega, kL2⟩
              rw [fold_take w1, ← hq', if_neg hxd]
          · have hdec : decide ((J : Int) < ql.length) = false := by simpa using hJg
            rw [List.take_of_length_le (by omega)] at hq'
            rw [show (dedup cs).foldl (fun q d => if x.t = d.f then addQ q (comp x d) else q) q = rndQ (dedup cs) q x from rfl] at hq'
            simp only [↓wpre, wset, wcore, wext, ne_eq, if_true, if_false, exists_eq_left', true_implies, false_implies, exists_const, exists_eq_right, binA, intA, loadA, storeA, pickC, setAt, mapO, argsE, X.isC, resA, oneA, unA, boundA, eqiA, eqsA, fillA, fillE, ASt.fz, strA, simprocAttr, List.length_append, List.append_assoc, app_get_len, app_get_add, app_set_len, app_set_add, e4, e8, e38, e39, e40, hdec]
            refine ⟨_, _, q', rfl, kK, (hR.trans (Rest2.app _ _)).trans kR, by omega, by omega, ?_, kG, by omega⟩
            rw [hq', show 2002 - i = kf by omega]; exact hbfs
      · have hlast : q[i]? = none := List.getElem?_eq_none hge
        rw [hlast] at hbfs
        simp only at hbfs
        have hit : itF 59 [.ptr (n + 2) 0] ⟨H', T'⟩ i = some none := by
          simp only [itF, if_true, rk2, c1]
          rw [if_pos ⟨hqa, by omega⟩, List.getElem?_eq_none (by omega)]
          simp only
          rw [if_pos (by omega)]
        refine .inl ⟨hit, ?_⟩
        by_cases hbig : q.length > 2000
        · have d1 : decide ((qa.length : Int) > 2000) = true := by simp only [decide_eq_true_eq]; omega
          rw [if_pos hbig] at hbfs
          simp only [↓wpre, wset, wcore, wext, ne_eq, if_true, if_false, exists_eq_left', true_implies, false_implies, exists_const, exists_eq_right, binA, intA, loadA, storeA, pickC, setAt, mapO, argsE, X.isC, resA, oneA, unA, boundA, eqiA, eqsA, fillA, fillE, ASt.fz, strA, simprocAttr, List.length_append, List.append_assoc, app_get_len, app_get_add, app_set_len, app_set_add, e4, r2, c1, d1, QF_n, QF_r]
          exact EQ_in ⟨hbfs.symm, rfl, rfl⟩
        · have d1 : decide ((qa.length : Int) > 2000) = false := by simp only [decide_eq_false_iff_not]; omega
          rw [if_neg hbig] at hbfs
          simp only [↓wpre, wset, wcore, wext, ne_eq, if_true, if_false, exists_eq_left', true_implies, false_implies, exists_const, exists_eq_right, binA, intA, loadA, storeA, pickC, setAt, mapO, argsE, X.isC, resA, oneA, unA, boundA, eqiA, eqsA, fillA, fillE, ASt.fz, strA, simprocAttr, List.length_append, List.append_assoc, app_get_len, app_get_add, app_set_len, app_set_add, e4, r2, c1, d1, QF_n, QF_r]
          exact EQ_in ⟨q, hbfs.symm, by omega, e4, r2, hKq⟩
end Go.Proofs.Eng.F
namespace Go.Proofs.Eng
open Go Go.Proofs Go.RowKit Go.Shelf
attribute [local go_sem] Oper.semAt_some
theorem cell_of {g : Gh} {s : ASt} {w : World} (hI : Inv g s w) {i b : Nat} (hb : g.mu i = some b) {fz : Bool} {l : List AV} (hl : s.H[i]? = some (.cells fz l)) {k : Nat} {a : AV} (ha : l[k]? = some a) : ∃ c, w.cell? ⟨b, k, none⟩ = some c ∧ Rep g s w a c := by
  obtain ⟨cs, el, ⟨rest, hh⟩, hr⟩ := hI.obj i b _ hb hl
  have hk : k < cs.length := by rw [← hr.1]; exact (List.getElem?_eq_some_iff.1 ha).1
  refine ⟨cs[k], ?_, hr.2 k a _ ha (List.getElem?_eq_getElem hk)⟩
  simp only [World.cell?, hh]
  simp [List.getElem?_append_left hk, hk]
theorem len3 {c : List AV} (h : c.length = 3) : ∃ a0 a1 a2, c = [a0, a1, a2] := by
  match c, h with
  | [a, b, d], _ => exact ⟨a, b, d, rfl⟩
theorem it_phys {caps : List AV} {cs : List Value} {s : ASt} {k : Nat} {g : Gh} {w : World} {r : Option (List AV)} (h : itF 59 caps s k = some r) (hI : Inv g s w) (hr : RepL g s w caps cs) :
    ∃ pb pj x len cap, cs = [.pointer (some ⟨pb, 0, none⟩)] ∧ w.cell? ⟨pb, 0, none⟩ = some (.pointer (some ⟨pj, 0, none⟩)) ∧ w.cell? ⟨pj, 1, none⟩ = some (.slice x len cap) ∧ len ≤ 4000000000000000000 ∧
      ((r = none ∧ len = k) ∨ (∃ c v0 v1 v2 bb o, r = some [.agg c] ∧ k < len ∧ x = some ⟨bb, o, none⟩ ∧ w.cell? ⟨bb, o + k * 3, none⟩ = some v0 ∧ w.cell? ⟨bb, o + k * 3 + 1, none⟩ = some v1 ∧ w.cell? ⟨bb, o + k * 3 + 2, none⟩ = some v2 ∧ RepL g s w [.agg c] [.agg #[v0, v1, v2]])) := by
  simp only [itF, if_true] at h
  split at h
  · rename_i kk
    split at h
    · rename_i j hH
      split at h
      · rename_i m0 l tl hH2
        split at h
        · rename_i hc
          obtain ⟨hall, hlen⟩ := hc
          obtain ⟨u, us, rfl, hu, hnil⟩ := hr.cons_inv
          obtain rfl : us = [] := List.length_eq_zero_iff.1 hnil.1.symm
          obtain ⟨pb, hpb, rfl⟩ := hu.ptr_inv
          obtain ⟨c1, k1, r1⟩ := cell_of hI hpb hH (k := 0) rfl
          obtain ⟨pj, hpj, rfl⟩ := r1.ptr_inv
          obtain ⟨c2, k2, r2⟩ := cell_of hI hpj hH2 (k := 1) rfl
          obtain ⟨x, cap, bb, o, cs, rfl, h1, h2, h3, h4, _⟩ := r2.sl_inv
          refine ⟨pb, pj, x, l.length, cap, rfl, k1, k2, hlen, ?_⟩
          split at h
          · rename_i c hlk
            simp only [Option.some.injEq] at h; subst h
            have hkl := (List.getElem?_eq_some_iff.1 hlk).1
            have hne : l ≠ [] := by intro e; rw [e] at hkl; simp at hkl
            have hc3 : c.length = 3 := by
              have := List.all_eq_true.1 hall _ (List.mem_of_getElem? hlk)
              simpa [AV.cells] using this
            have hfd : flat (l.drop k) = (flat l).drop (k * 3) := flat_drop (fun x hx => by simpa using List.all_eq_true.1 hall x hx) k
            rw [drop_cons hlk, flat_cons] at hfd
            obtain ⟨a0, a1, a2, rfl⟩ := len3 hc3
            have hg : ∀ i a, ([a0, a1, a2] : List AV)[i]? = some a → (flat l)[k * 3 + i]? = some a := fun i a hi => by
              have : ((flat l).drop (k * 3))[i]? = some a := by
                rw [← hfd]; exact (List.getElem?_append_left (List.getElem?_eq_some_iff.1 hi).1).trans hi
              rwa [List.getElem?_drop] at this
            have hget : ∀ i a, ([a0, a1, a2] : List AV)[i]? = some a → ∃ v, w.cell? ⟨bb, o + k * 3 + i, none⟩ = some v ∧ Rep g s w a v := fun i a hi => by
              have hf := hg i a hi
              have hlt : k * 3 + i < cs.length := by rw [← h1.1]; exact (List.getElem?_eq_some_iff.1 hf).1
              refine ⟨cs[k * 3 + i], ?_, h1.2 _ a _ hf (List.getElem?_eq_getElem hlt)⟩
              rw [Nat.add_assoc]
              exact (h2 _ _ (List.getElem?_eq_getElem hlt)).1
            obtain ⟨v0, e0, f0⟩ := hget 0 a0 rfl
            obtain ⟨v1, e1, f1⟩ := hget 1 a1 rfl
            obtain ⟨v2, e2, f2⟩ := hget 2 a2 rfl
            exact .inr ⟨_, v0, v1, v2, bb, o, rfl, hkl, h3 hne, e0, e1, e2, .one (.agg [v0, v1, v2] rfl fun i a c ha hc => by
              match i, ha, hc with
              | 0, ha, hc => simp at ha hc; subst ha hc; exact f0
              | 1, ha, hc => simp at ha hc; subst ha hc; exact f1
              | 2, ha, hc => simp at ha hc; subst ha hc; exact f2
              | i + 3, ha, hc => simp at ha)⟩
          · cases h
          · split at h
            · rename_i hkl
              simp only [Option.some.injEq] at h; subst h
              exact .inl ⟨rfl, hkl.symm⟩
            · cases h
        · cases h
      · cases h
    · cases h
  · cases h
set_option maxRecDepth 100000 in
set_option maxHeartbeats 4000000 in
theorem it_ok : ItOK Tryd.prog 59 (itF 59) := by
  intro caps s0 r0 hr0
  refine ⟨⟨_, _, Tryd.func59, rfl, by kernel_rfl⟩, ?_⟩
  intro n l K cs S X J Jx hit hJ hend hY g W hJ0
  have hph : ∀ k g W, J k g W → ∃ pb pj x len cap, cs = [.pointer (some ⟨pb, 0, none⟩)] ∧ W.cell? ⟨pb, 0, none⟩ = some (.pointer (some ⟨pj, 0, none⟩)) ∧ W.cell? ⟨pj, 1, none⟩ = some (.slice x len cap) ∧ len ≤ 4000000000000000000 ∧
      ((k = K ∧ len = k) ∨ (k < K ∧ ∃ v0 v1 v2 bb o, k < len ∧ x = some ⟨bb, o, none⟩ ∧ W.cell? ⟨bb, o + k * 3, none⟩ = some v0 ∧ W.cell? ⟨bb, o + k * 3 + 1, none⟩ = some v1 ∧ W.cell? ⟨bb, o + k * 3 + 2, none⟩ = some v2 ∧ RepL g (S k) W (X k) [.agg #[v0, v1, v2]])) := by
    intro k g W hk
    obtain ⟨h1, h2, h3⟩ := hJ k g W hk
    rcases Nat.lt_or_ge k K with hlt | hge
    · obtain ⟨pb, pj, x, len, cap, a1, a2, a3, a4, ⟨a5, _⟩ | ⟨c, v0, v1, v2, bb, o, a5, a6, a7, a8, a9, a10, a11⟩⟩ := it_phys (hit k hlt) h2 h3
      · cases a5
      · simp only [Option.some.injEq] at a5
        exact ⟨pb, pj, x, len, cap, a1, a2, a3, a4, .inr ⟨hlt, v0, v1, v2, bb, o, a6, a7, a8, a9, a10, by rw [a5]; exact a11⟩⟩
    · obtain rfl : k = K := by omega
      obtain ⟨pb, pj, x, len, cap, a1, a2, a3, a4, ⟨_, a5⟩ | ⟨c, v0, v1, v2, bb, o, a5, _⟩⟩ := it_phys (hend g W hk) h2 h3
      · exact ⟨pb, pj, x, len, cap, a1, a2, a3, a4, .inl ⟨rfl, a5⟩⟩
      · cases a5
  obtain ⟨pb0, _, _, _, _, hcs, _⟩ := hph 0 g W hJ0
  subst hcs
  refine callsIn_of_wp Tryd.func59 rfl trivial ?_ rfl
  simp only [Tryd.ntmps59, List.size_toArray, List.length_cons, List.length_nil, Nat.reduceAdd, Nat.reduceSub, Array.replicate_succ, Array.replicate_zero, List.push_toArray, List.append_toArray, List.nil_append, List.cons_append]
  gi_wp2
  gi_loopw [3] (fun i wr => ∃ k g, k ≤ K ∧ i = .int .i64 (k : Nat) ∧ J k g wr) (fun i _ => K - (match i with | .int _ z => z.toNat | _ => 0))
  case atStart => exact ⟨0, g, Nat.zero_le _, rfl, hJ0⟩
  case round =>
    obtain ⟨k, g1, hk, rfl, hJk⟩ := hrel
    obtain ⟨pb, pj, x, len, cap, hpb, c1, c2, hlen, hcase⟩ := hph k g1 wr hJk
    simp only [List.cons.injEq, Value.pointer.injEq, Option.some.injEq, Addr.mk.injEq, and_true] at hpb
    subst hpb
    rcases hcase with ⟨rfl, hlk⟩ | ⟨hkK, v0, v1, v2, bb, o, hlt, rfl, d0, d1, d2, hR⟩
    · have hnl : ¬ ((k : Int) < (len : Int)) := by omega
      gi_wp2
      go_end0
      exact ⟨⟨_, rfl⟩, .inl ⟨_, hJk⟩⟩
    · obtain ⟨fn, tmps, assign, body, hy, hYR⟩ := hY k g1 wr _ hkK hJk hR
      have hlt' : (k : Int) < (len : Int) := by omega
      gi_wp2
      refine ⟨fun h => (by cases h), ?_⟩
      refine hYR.mono ?_
      rintro e W3 (⟨rfl, g3, hJ3⟩ | ⟨rfl, hJx3⟩)
      · gi_wp2
        go_roundw
        case rel => exact ⟨k + 1, g3, by omega, (by first | rfl | simp), hJ3⟩
        case measure => simp; omega
      · gi_wp2
        refine bodyPost_ret (results_none rfl _ _ _) rfl ?_
        exact ⟨⟨_, rfl⟩, .inr hJx3⟩
theorem it_all : ItAll Tryd.prog F.bf := by
  intro gf
  by_cases h : gf = 59
  · subst h; exact it_ok
  · intro caps s0 r0 h0
    simp [F.bf, itF, h] at h0
end Go.Proofs.Eng
namespace Go.Proofs.Eng
open Go Go.Proofs
section
variable [DrK] {P : Program} {g : Gh} {s : ASt} {w : World} {call : Oracle} {md : FuncId → Md}
theorem exec_h (hS : Sound P call) {bsf : Bf} (hD : RegSound P bsf call md) (hA : ItAll P bsf) (N : Nat) {n : Nat} {we : World} {Q : Exit → Act → World → Prop} (hLO : ∀ a w, ¬ Q .outgrown a w) : ∀ (k : Nat) (c x y : Code) (pc : PC), splitN k c = some (x, y) → prepQ P bsf x = some pc → ∀ (X : List Deferred) (st st' : St) (ex : AExit) (a : Act) (g : Gh) (w : World), exec call md N pc st = some (ex, st') → StRep g w st a → MarksOK we g w X → we.heap.size ≤ w.heap.size →
    (∀ g' a' w' X', Ext g st.s w g' st'.s w' → StRep g' w' st' a' → MarksOK we g' w' X' → ex = .normal → y.wpIn Fence.wide n P Q (wd X' a') w') →
    (∀ g' a' w' e X', Ext g st.s w g' st'.s w' → StRep g' w' st' a' → MarksOK we g' w' X' → ex ≠ .normal → ExRep g' st'.s w' ex e → Q e (wd X' a') w') →
    c.wpIn Fence.wide n P Q (wd X a) w
  | 0, c, x, y, pc, hsp, hp, X, st, st', ex, a, g, w, hs, hR, hX, hwe, h1, h2 => by
    simp only [splitN, Option.some.injEq, Prod.mk.injEq] at hsp
    obtain ⟨rfl, rfl⟩ := hsp
    simp only [prepQ, noDef, if_true, prepC, Option.some.injEq] at hp
    subst hp
    simp only [exec, execL, Option.some.injEq, Prod.mk.injEq] at hs
    obtain ⟨rfl, rfl⟩ := hs
    exact h1 g a w X (.refl _ _ _) hR hX rfl
  | k + 1, .seq a1 b1, x, y, pc, hsp, hp, X, st, st', ex, a, g, w, hs, hR, hX, hwe, h1, h2 => by
    simp only [splitN] at hsp
    obtain ⟨⟨x', y'⟩, hsp', e⟩ := Option.map_eq_some_iff.1 hsp
    simp only [Prod.mk.injEq] at e
    obtain ⟨rfl, rfl⟩ := e
    simp only [prepQ] at hp
    split at hp
    · rename_i px py hx hy
      simp only [Option.some.injEq] at hp; subst hp
      simp only [exec, execL] at hs
      cases he : execL call md (loopN call md N) px st with
      | none => rw [he] at hs; simp at hs
      | some r =>
        obtain ⟨ex1, st1⟩ := r
        rw [he] at hs
        refine wpIn_seq (exec_q hS hD hA N _ px hx X st st1 ex1 a g w _ (fun a w h => hLO a w h) he hR hX hwe fun g' a' w' e X' hE hR' hX' hx' => ?_)
        cases ex1 with
        | normal =>
          cases e <;> first | exact hx'.elim | skip
          exact exec_h hS hD hA N hLO k b1 x' y' py hsp' hy X' st1 st' ex a' g' w' hs hR' hX' (Nat.le_trans hwe hE.size) (fun g2 a2 w2 X2 hE2 hR2 hX2 hn => h1 g2 a2 w2 X2 (hE.trans hE2) hR2 hX2 hn) fun g2 a2 w2 e2 X2 hE2 hR2 hX2 hn hx2 => h2 g2 a2 w2 e2 X2 (hE.trans hE2) hR2 hX2 hn hx2
        | exit i => simp only [Option.some.injEq, Prod.mk.injEq] at hs; obtain ⟨rfl, rfl⟩ := hs; cases e <;> first | exact hx'.elim | exact h2 g' a' w' _ X' hE hR' hX' (by simp) hx'
        | ret => simp only [Option.some.injEq, Prod.mk.injEq] at hs; obtain ⟨rfl, rfl⟩ := hs; cases e <;> first | exact hx'.elim | exact h2 g' a' w' _ X' hE hR' hX' (by simp) hx'
        | pan v => simp only [Option.some.injEq, Prod.mk.injEq] at hs; obtain ⟨rfl, rfl⟩ := hs; cases e <;> first | exact hx'.elim | exact h2 g' a' w' _ X' hE hR' hX' (by simp) hx'
    · cases hp
  | k + 1, .skip, _, _, _, hsp, _, _, _, _, _, _, _, _, _, _, _, _, _, _ => by simp [splitN] at hsp
  | k + 1, .region _ _ _, _, _, _, hsp, _, _, _, _, _, _, _, _, _, _, _, _, _, _ => by simp [splitN] at hsp
  | k + 1, .cond _ _ _, _, _, _, hsp, _, _, _, _, _, _, _, _, _, _, _, _, _, _ => by simp [splitN] at hsp
  | k + 1, .block _ _, _, _, _, hsp, _, _, _, _, _, _, _, _, _, _, _, _, _, _ => by simp [splitN] at hsp
  | k + 1, .loop _, _, _, _, hsp, _, _, _, _, _, _, _, _, _, _, _, _, _, _ => by simp [splitN] at hsp
  | k + 1, .exit _, _, _, _, hsp, _, _, _, _, _, _, _, _, _, _, _, _, _, _ => by simp [splitN] at hsp
  | k + 1, .ret, _, _, _, hsp, _, _, _, _, _, _, _, _, _, _, _, _, _, _ => by simp [splitN] at hsp
  | k + 1, .rangeFunc _ _ _ _, _, _, _, hsp, _, _, _, _, _, _, _, _, _, _, _, _, _, _ => by simp [splitN] at hsp
  | k + 1, .scope _, _, _, _, hsp, _, _, _, _, _, _, _, _, _, _, _, _, _, _ => by simp [splitN] at hsp
  | k + 1, .label _, _, _, _, hsp, _, _, _, _, _, _, _, _, _, _, _, _, _, _ => by simp [splitN] at hsp
  | k + 1, .goto _, _, _, _, hsp, _, _, _, _, _, _, _, _, _, _, _, _, _, _ => by simp [splitN] at hsp
  | k + 1, .refuse _, _, _, _, hsp, _, _, _, _, _, _, _, _, _, _, _, _, _, _ => by simp [splitN] at hsp
theorem steps_pre (hS : Sound P call) {bsf : Bf} {ops : Array Oper} {Q : Exit → Act → World → Prop} (m : List Nat) : ∀ (l : List PI) (k : Nat) (st : St) (a : Act) (g : Gh) (w : World) (st' : St), IsPrep P bsf ops k l → stepsA call md l st = some (.normal, st') → StRep g w st a → (∀ g' a' w', Ext g st.s w g' st'.s w' → StRep g' w' st' a' → wpOps P ops Q m a' w') →
    wpOps P ops Q (List.range' k l.length ++ m) a w
  | [], k, st, a, g, w, st', _, hs, hR, hQ => by
    simp only [stepsA, Option.some.injEq, Prod.mk.injEq, true_and] at hs
    subst hs
    exact hQ g a w (.refl _ _ _) hR
  | i :: l, k, st, a, g, w, st', hp, hs, hR, hQ => by
    obtain ⟨o, ho, h1, h2, h3⟩ := hp 0 i rfl
    have hp' : IsPrep P bsf ops (k + 1) l := fun j i' hj => by
      obtain ⟨o', ho', r⟩ := hp (j + 1) i' (by simpa using hj)
      exact ⟨o', by rw [← ho']; congr 1; omega, r⟩
    rw [Nat.add_zero] at ho
    simp only [stepsA] at hs
    simp only [List.length_cons, List.range'_succ, List.cons_append, wpOps, ho]
    cases h4 : stepA call md false i st with
    | none => rw [h4] at hs; simp at hs
    | some r =>
      obtain ⟨ex1, st1⟩ := r
      rw [h4] at hs
      cases ex1 with
      | normal =>
        have := step_wp hS h1 h2 h3 h4 hR (K := wpOps P ops Q (List.range' (k + 1) l.length ++ m)) (Q := Q)
          (fun _ g' a' w' hE hR' _ => steps_pre hS m l (k + 1) st1 a' g' w' st' hp' hs hR' fun g'' a'' w'' hE' hR'' => hQ g'' a'' w'' (hE.trans hE') hR'')
          (fun v e => by cases e)
        split
        · rename_i hwt; rw [if_pos hwt] at this; exact .inl this
        · rename_i hwt; rw [if_neg hwt] at this; exact this
      | exit i => simp at hs
      | ret => simp at hs
      | pan v => simp at hs
theorem exec_of_W {md : FuncId → Md} {pfs : FuncId → Option PF} {pc : PC} {st : St} {Q : AExit → St → Prop} (h : W (run md pfs) md pc st Q ()) : ∃ N ex st', exec (callN md pfs N) md N pc st = some (ex, st') ∧ Q ex st' := by
  unfold W EW at h
  cases hx : execL (run md pfs) md (loopI (run md pfs) md) pc st with
  | none => rw [hx] at h; exact h.elim
  | some r =>
    obtain ⟨ex, st'⟩ := r
    rw [hx] at h
    obtain ⟨N, hN⟩ := (execL_cont (run_cont (md := md) pfs) (fun b st => loopI_cont (run_cont (md := md) pfs) b st) pc st).fin _ hx
    exact ⟨N, ex, st', hN, h⟩
end
end Go.Proofs.Eng
namespace Go.Proofs.Eng
open Go Go.Proofs Go.RowKit Go.Sort
set_option maxRecDepth 100000
abbrev GB (blk : Nat) : Gh := Gh.empty fun b _ => b = blk
theorem GB_wr {blk b o : Nat} : (GB blk).wr ⟨[], []⟩ b o ↔ b = blk := by simp [Gh.wr, Gh.empty]
theorem fast_al {g : Gh} {s : ASt} {l : List AV} {n cap : Nat} {a : Option Addr} {t : Tl} (hf : t.fast = true) (hn : l.length = n) (h : TlOK g s n (flat l).length a cap t) : AlOK g s (flat l).length a := by
  cases t with
  | al => exact h
  | cap c => exact h.2
  | nil =>
    intro h0
    obtain ⟨_, h1, _⟩ := h
    rw [List.length_eq_zero_iff.1 (hn.trans h1)] at h0
    exact absurd rfl h0
  | _ => cases hf
theorem fast_ok {g g' : Gh} {s s' : ASt} {n fl cap : Nat} {a : Option Addr} {t : Tl} (hf : t.fast = true) (h : TlOK g s n fl a cap t) (k : AlOK g' s' fl a) : TlOK g' s' n fl a cap t := by
  cases t with
  | al => exact k
  | cap c => exact ⟨h.1, k⟩
  | nil => exact h
  | _ => cases hf
def Same (blk : Nat) (w W : World) : Prop := ∀ b, b < w.heap.size → b ≠ blk → W.heap[b]? = w.heap[b]?
theorem sl_far {g G : Gh} {s S : ASt} {w W : World} {blk o0 : Nat} (hG : ∀ b o, b ≠ blk → ¬ g.wr s b o → ¬ G.wr S b o) (hb : g.wr s blk o0) (hs : Same blk w W) {l : List AV} {t : Tl} {u : Value} (hf : t.fast = true) (h : Rep g s w (.sl l t) u) (hel : ∀ a c, a ∈ flat l → Rep g s w a c → Rep G S W a c) : Rep G S W (.sl l t) u := by
  obtain ⟨x, cap, b, o, cs, rfl, h1, h2, h3, h4, h5⟩ := h.sl_inv
  have hal := fast_al hf rfl h5
  have hne : l ≠ [] → (flat l).length ≠ 0 → b ≠ blk := fun hl h0 e => by
    have := hal h0 _ (h3 hl) o0
    rw [← e] at hb
    exact this hb
  have hcs : ∀ k c, cs[k]? = some c → b ≠ blk := fun k c hk => by
    have hk' := (List.getElem?_eq_some_iff.1 hk).1
    have h0 : (flat l).length ≠ 0 := by rw [h1.1]; omega
    exact hne (fun e => h0 (by rw [e]; rfl)) h0
  refine .sl cs h1.1 (fun k a c ha hc => hel a c (List.mem_of_getElem? ha) (h1.2 k a c ha hc)) (fun k c hk => ⟨?_, hG _ _ (hcs k c hk) (h2 k c hk).2⟩) h3 rfl h4 (fast_ok hf h5 fun h0 ad had o' hw => ?_)
  · rw [← (h2 k c hk).1]
    exact World.cell?_of_block (w := w) (a := ⟨b, o + k, none⟩) (hs b (h2 k c hk).lt (hcs k c hk))
  · have hl : l ≠ [] := fun e => h0 (by rw [e]; rfl)
    rw [h3 hl] at had; cases had
    exact hG _ _ (hne hl h0) (hal h0 _ (h3 hl) o') hw
theorem row_far {g G : Gh} {s S : ASt} {w W : World} {blk o0 : Nat} (hG : ∀ b o, b ≠ blk → ¬ g.wr s b o → ¬ G.wr S b o) (hb : g.wr s blk o0) (hs : Same blk w W) {r : List Int} {a : AV} (hr : RowIs r a) {u : Value} (h : Rep g s w a u) : Rep G S W a u := by
  obtain ⟨t, rfl, hf, _⟩ := hr.of
  refine sl_far hG hb hs hf h fun a c ha hc => ?_
  rw [flat_ints] at ha
  obtain ⟨n, _, rfl⟩ := List.mem_map.1 ha
  rw [hc.v_inv]
  exact .v rfl
theorem LIs.memB {α : Type} {R : α → AV → Prop} : ∀ {l : List α} {al : List AV}, LIs R l al → ∀ a ∈ al, ∃ x, R x a
  | [], [], _, x, hx => by simp at hx
  | [], _ :: _, h, _, _ => by simp [LIs] at h
  | _ :: _, [], _, _, hx => by simp at hx
  | y :: l, a :: al, h, x, hx => by
    simp only [LIs] at h
    rcases List.mem_cons.1 hx with rfl | hx
    · exact ⟨y, h.1⟩
    · exact LIs.memB h.2 x hx
theorem flat_rows : ∀ {m : List (List Int)} {al : List AV}, LIs RowIs m al → flat al = al
  | [], [], _ => rfl
  | [], _ :: _, h => by simp [LIs] at h
  | _ :: _, [], h => by simp [LIs] at h
  | r :: m, a :: al, h => by
    simp only [LIs] at h
    obtain ⟨t, rfl, _⟩ := h.1.of
    rw [flat_cons, flat_rows h.2]; rfl
theorem cl_far {g G : Gh} {s S : ASt} {w W : World} {blk o0 : Nat} (hG : ∀ b o, b ≠ blk → ¬ g.wr s b o → ¬ G.wr S b o) (hb : g.wr s blk o0) (hs : Same blk w W) {c : Cl} {a : AV} (hc : ClIs c a) {vs : List Value} (h : RepL g s w a.cells vs) : RepL G S W a.cells vs := by
  obtain ⟨al, t, rfl, h1, h2, _⟩ := hc.of
  refine ⟨h.1, fun k a v ha hv => ?_⟩
  have hr := h.2 k a v ha hv
  match k, ha with
  | 0, ha => simp [AV.cells] at ha; subst ha; rw [hr.v_inv]; exact .v rfl
  | 1, ha => simp [AV.cells] at ha; subst ha; rw [hr.v_inv]; exact .v rfl
  | 2, ha =>
    simp [AV.cells] at ha; subst ha
    refine sl_far hG hb hs h2 hr fun a c hm hc => ?_
    rw [flat_rows h1] at hm
    obtain ⟨r, hra⟩ := LIs.memB h1 a hm
    exact row_far hG hb hs hra hc
  | k + 3, ha => simp [AV.cells] at ha
structure El (g : Gh) (s : ASt) (w : World) where
  c : Cl
  a : AV
  v : List Value
  sm : Sm c
  cl : ClIs c a
  rep : RepL g s w a.cells v
end Go.Proofs.Eng
namespace Go.Proofs.Eng
open Go Go.Proofs Go.RowKit Go.Sort
set_option maxRecDepth 100000
theorem sort_same {α : Type} [Inhabited α] (enc : α → List Value) (k : Nat) (w : World) (blk off m : Nat) (dk : Array α) (os : Array Obj) : Same blk w (sortWorldK enc k w blk off m dk os) ∧ w.heap.size ≤ (sortWorldK enc k w blk off m dk os).heap.size := by
  refine ⟨fun b hb hne => ?_, size_sortWorldK_c enc k w blk off m dk os⟩
  unfold sortWorldK
  rw [heap_grow_old _ _ (by rw [size_putRowK]; exact hb)]
  unfold putRowK putRow
  simp [mapBlock, Sort.ahead, Array.getElem?_modify, hne.symm]
theorem cmp_lays {g : Gh} {s : ASt} {w : World} (hI : Inv g s w) {blk o0 : Nat} (hb : g.wr s blk o0) (hkb : ¬ KB blk) (hblk : blk < w.heap.size) [Inhabited (El g s w)] (n : Nat) : CmpLays Tryd.prog 47 #[] (fun x : El g s w => x.v) 3 (fun x y => cmpS (entL x.c) (entL y.c)) blk 0 n w := by
  intro m os dk hdk x y
  obtain ⟨hs, hsz⟩ := sort_same (fun x : El g s w => x.v) 3 w blk 0 m dk os
  generalize sortWorldK (fun x : El g s w => x.v) 3 w blk 0 m dk os = W at hs hsz
  letI dT : DrK := ⟨True⟩
  have hKn : Kn W := fun b hkbb => by
    obtain ⟨a1, _, a3⟩ := hI.kn b hkbb
    have hne : b ≠ blk := fun e => hkb (e ▸ hkbb)
    exact ⟨Nat.lt_of_lt_of_le a1 hsz, by rw [hs b a1 hne]; exact a3⟩
  have hI0 : Inv (GB blk) ⟨[], []⟩ W := Inv.empty hKn fun b o h => by rw [h]; exact Nat.lt_of_lt_of_le hblk hsz
  have hG : ∀ b o, b ≠ blk → ¬ g.wr s b o → ¬ (GB blk).wr ⟨[], []⟩ b o := fun b o hne _ h => hne (GB_wr.1 h)
  have hx := cl_far hG hb hs x.cl x.rep
  have hy := cl_far hG hb hs y.cl y.rep
  obtain ⟨al, t, hxa, _⟩ := x.cl.of
  obtain ⟨bl, u, hya, _⟩ := y.cl.of
  have hax : Rep (GB blk) ⟨[], []⟩ W x.a (.agg x.v.toArray) := by rw [hxa] at hx ⊢; exact .agg _ hx.1 hx.2
  have hay : Rep (GB blk) ⟨[], []⟩ W y.a (.agg y.v.toArray) := by rw [hya] at hy ⊢; exact .agg _ hy.1 hy.2
  have hc := pure_calls (run_sound hm Z.pfsOK) (Z.cmp47_ret x.cl y.cl x.sm y.sm) rfl (by simp [pvs_cons, pvs_nil, x.cl.pure, y.cl.pure]) hI0 (RepL.cons hax (.one hay))
  refine hc.mono ?_
  rintro e w' ⟨v, u, rfl, rfl, _, hE, hR⟩
  refine ⟨by rw [hR.v_inv], ?_⟩
  have hbl : Below W.heap.size W w' := ⟨hE.os, hE.tape, hE.output.1, hE.size, fun k hk => (hE.obj k hk (by simp [Gh.has, Gh.empty])).1⟩
  have hd : W.drawn ≤ w'.drawn := hE.output.2 trivial
  obtain ⟨p, hp⟩ := Go.regrown_of_below hbl
  refine ⟨p.d - W.drawn, p.os, ?_⟩
  have hpd : w'.drawn = p.d := by rw [hp]; rfl
  rw [hp]
  congr 1
  show Go.redrawn W p.d = { W with drawn := W.drawn + (p.d - W.drawn) }
  unfold Go.redrawn
  congr 1
  omega
end Go.Proofs.Eng
namespace Go.Proofs.Eng
open Go Go.Proofs Go.RowKit Go.Sort
set_option maxRecDepth 100000
theorem swo_cmp {g : Gh} {s : ASt} {w : World} : SWO (ltOf fun x y : El g s w => cmpS (entL x.c) (entL y.c)) where
  irrefl x := by simp [ltOf, cmpS_self]
  trans x y z h k := by
    simp only [ltOf, decide_eq_true_eq] at h k ⊢
    exact cmpS_trans h k
  ntrans x y z h k := by
    simp only [ltOf, decide_eq_false_iff_not] at h k ⊢
    intro hxz
    have hn := cmpS_neg (l := entL y.c) (m := entL x.c)
    rcases cmpS_val (entL y.c) (entL x.c) with e | e | e
    · exact k (cmpS_trans (by omega) hxz)
    · rw [cmpS_eq e] at k; exact k hxz
    · omega
theorem els {g : Gh} {s : ASt} {w : World} : ∀ {q : List Cl} {qa : List AV} {cs : List Value}, LIs ClIs q qa → (∀ x ∈ q, Sm x) → RepL g s w (flat qa) cs → ∃ L : List (El g s w), L.map (·.c) = q ∧ (L.map (·.v)).flatten = cs ∧ (∀ x ∈ L, x.v.length = 3)
  | [], [], cs, _, _, hr => by
    obtain rfl : cs = [] := List.length_eq_zero_iff.1 hr.1.symm
    exact ⟨[], rfl, rfl, by simp⟩
  | [], _ :: _, _, h, _, _ => by simp [LIs] at h
  | _ :: _, [], _, h, _, _ => by simp [LIs] at h
  | c :: q, a :: qa, cs, h, hs, hr => by
    simp only [LIs] at h
    have h3 : a.cells.length = 3 := by obtain ⟨bl, u, rfl, _⟩ := h.1.of; rfl
    rw [flat_cons] at hr
    have r1 := hr.take 3
    have r2 := hr.drop 3
    rw [List.take_append_of_le_length (by omega), List.take_of_length_le (by omega)] at r1
    rw [List.drop_append_of_le_length (by omega), List.drop_of_length_le (by omega), List.nil_append] at r2
    obtain ⟨L, e1, e2, e3⟩ := els h.2 (fun x hx => hs x (by simp [hx])) r2
    have hl := r1.1
    rw [h3] at hl
    exact ⟨⟨c, a, _, hs c (by simp), h.1, r1⟩ :: L, by simp [e1], by simp [e2], fun x hx => by
      rcases List.mem_cons.1 hx with rfl | hx
      · exact hl.symm
      · exact e3 x hx⟩
theorem get_flat3 {α : Type} [Inhabited α] (f : α → List Value) : ∀ {L : List α}, (∀ x ∈ L, (f x).length = 3) → ∀ {t : Nat}, t < L.length * 3 → (L.map f).flatten[t]? = some ((f L.toArray[t / 3]!)[t % 3]!)
  | [], _, t, ht => by simp at ht
  | x :: L, h, t, ht => by
    have hx := h x (by simp)
    rw [List.map_cons, List.flatten_cons]
    rcases Nat.lt_or_ge t 3 with h3 | h3
    · rw [List.getElem?_append_left (by omega), Nat.div_eq_of_lt h3, Nat.mod_eq_of_lt h3]
      simp [List.getElem?_eq_getElem (show t < (f x).length by omega), show t < (f x).length by omega]
    · rw [List.getElem?_append_right (by omega), hx, get_flat3 f (fun y hy => h y (by simp [hy])) (by simp only [List.length_cons] at ht; omega)]
      have e1 : t / 3 = (t - 3) / 3 + 1 := by omega
      have e2 : t % 3 = (t - 3) % 3 := by omega
      rw [e1, e2]
      simp
end Go.Proofs.Eng
namespace Go.Proofs.Eng
open Go Go.Proofs Go.RowKit Go.Sort
set_option maxRecDepth 100000
theorem el_cells {g : Gh} {s : ASt} {w : World} (x : El g s w) : x.v.length = 3 ∧ ∀ v ∈ x.v, v.oneCell' = true := by
  have hr := x.rep
  obtain ⟨al, t, ha, _⟩ := x.cl.of
  rw [ha] at hr
  obtain ⟨v0, cs, e0, r0, hr⟩ := RepL.cons_inv hr
  obtain ⟨v1, cs, rfl, r1, hr⟩ := hr.cons_inv
  obtain ⟨v2, cs, rfl, r2, hr⟩ := hr.cons_inv
  obtain rfl : cs = [] := List.length_eq_zero_iff.1 hr.1.symm
  rw [e0]
  refine ⟨rfl, fun v hv => ?_⟩
  rcases List.mem_cons.1 hv with rfl | hv
  · rw [r0.v_inv]; rfl
  · rcases List.mem_cons.1 hv with rfl | hv
    · rw [r1.v_inv]; rfl
    · rcases List.mem_cons.1 hv with rfl | hv
      · obtain ⟨_, _, _, _, _, rfl, _⟩ := r2.sl_inv; rfl
      · cases hv
theorem sort_calls {g : Gh} {s : ASt} {w : World} (hI : Inv g s w) {q : List Cl} {qa : List AV} {t : Tl} {u : Value} (hL : LIs ClIs q qa) (hs : ∀ x ∈ q, Sm x) (hA : App s.T qa t) (hu : Rep g s w (.sl qa t) u) (hne : q ≠ []) (hq : q.length ≤ 100000) :
    ∃ (blk cap o0 : Nat) (hi : Inhabited (El g s w)), u = .slice (some ⟨blk, 0, none⟩) q.length cap ∧ q.length ≤ cap ∧ g.wr s blk o0 ∧ (∃ id o, g.ow id = some o ∧ o.b = blk) ∧ blk < w.heap.size ∧ Calls Tryd.prog 46 #[u, .func (.func 47) #[] #[]] w fun e w' => e = .returned (.tuple #[]) ∧
      ∃ (d' : Array (El g s w)) (n : Nat) (os : Array Obj), (d'.toList.map (·.c)).Perm q ∧ (∀ x ∈ d'.toList, x.v.length = 3) ∧ (∀ i j, i < j → j < d'.size → ¬ cmpS (entL d'[j]!.c) (entL d'[i]!.c) < 0) ∧ w' = sortWorldK (fun x : El g s w => x.v) 3 w blk 0 n d' os ∧ HoldsK (fun x : El g s w => x.v) 3 w' blk 0 d' := by
  have hqn := hL.len
  rcases hA with ⟨h0, _⟩ | ⟨hqa, id, ver, rfl, hT⟩
  · rw [h0] at hqn; exact absurd (List.length_eq_zero_iff.1 hqn.symm) hne
  obtain ⟨x, cap, b, o, cs, rfl, h1, h2, h3, h4, h5⟩ := hu.sl_inv
  obtain ⟨v, e1, e2, e3⟩ := h5
  rw [hT] at e1; cases e1
  obtain ⟨ow, f1, f2, f3, f4, f5⟩ := e3 rfl
  have hx := h3 hqa
  rw [f4] at hx
  simp only [Option.some.injEq, Addr.mk.injEq, and_true] at hx
  obtain ⟨rfl, rfl⟩ := hx
  subst f4
  obtain ⟨_, _, c0, el, hhp, _⟩ := hI.owlt id ow f1
  have hbs : ow.b < w.heap.size := (Array.getElem?_eq_some_iff.1 hhp).1
  obtain ⟨L, g1, g2, g3⟩ := els hL hs h1
  have hLn : L.length = q.length := by rw [← g1, List.length_map]
  have hLne : L ≠ [] := by intro e; rw [e] at hLn; exact hne (List.length_eq_zero_iff.1 hLn.symm)
  obtain ⟨x0, L', rfl⟩ := List.exists_cons_of_ne_nil hLne
  letI hi : Inhabited (El g s w) := ⟨x0⟩
  have hwr : g.wr s ow.b (ow.n * ow.es) := .inr (.inl ⟨id, ow, f1, rfl, Nat.le_refl _⟩)
  have hkb : ¬ KB ow.b := fun h => (hI.kn _ h).2.1 (.inr ⟨id, ow, f1, rfl⟩)
  have hH : HoldsK (fun x : El g s w => x.v) 3 w ow.b 0 (x0 :: L').toArray := by
    intro j hj
    rw [size_flatK] at hj
    refine ⟨?_, Lib.frozen_of_heap hhp _⟩
    rw [get_flatK _ _ _ _ hj]
    have h6 := get_flat3 (fun x : El g s w => x.v) g3 (t := j) (by simpa using hj)
    rw [g2] at h6
    exact (h2 j _ h6).1
  have hfit : Fits Tryd.prog 47 := ⟨_, _, Tryd.func47, rfl, by kernel_rfl⟩
  have hcmp := cmp_lays hI hwr hkb hbs (x0 :: L').toArray.size
  have hsort := AnyQ.slices_SortFunc Tryd.sortR 3 Tryd.isAgg33 Tryd.sizeOf33 (fun x : El g s w => x.v) (fun x => (el_cells x).1) (fun x => (el_cells x).2) _ swo_cmp 47 #[] ow.b 0 cap (x0 :: L').toArray w (fun args w => hfit.callFunc args w) hcmp hH hbs (by simp at hLn ⊢; omega)
  refine ⟨ow.b, cap, _, hi, by rw [hqn], by rw [← hqn]; exact h4, hwr, ⟨id, ow, f1, rfl⟩, hbs, ?_⟩
  have hsz : (x0 :: L').toArray.size = qa.length := by rw [hqn, ← hLn]; simp
  rw [← hsz]
  refine hsort.mono ?_
  rintro e w' ⟨rfl, d', n, os, hp, hsd, rfl⟩
  refine ⟨rfl, d', n, os, ?_, fun x _ => (el_cells x).1, ?_, rfl, holdsK_sortWorldK_c _ 3 w ow.b 0 _ d' n os hH hbs hp.1⟩
  · obtain ⟨p1, _, p3⟩ := hp
    have e1 : d'.extract 0 (x0 :: L').toArray.size = d' := by rw [← p1]; simp
    have e2 : (x0 :: L').toArray.extract 0 (x0 :: L').toArray.size = (x0 :: L').toArray := by simp
    rw [e1, e2] at p3
    rw [← g1]
    simpa using p3.map (fun x : El g s w => x.c)
  · intro i j hij hj
    have := hsd i j (Nat.zero_le _) hij (by rw [← hp.1]; exact hj)
    simpa [ltOf] using this
end Go.Proofs.Eng
