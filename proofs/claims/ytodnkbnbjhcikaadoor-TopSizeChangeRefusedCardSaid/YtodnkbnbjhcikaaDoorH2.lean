/- Lists of calls, decreases, equal lists of numbers. No conditions beyond those in the theorems. -/
import Derived.Test.YtodnkbnbjhcikaaDoorPf22
import Derived.Test.YtodnkbnbjhcikaaDoorD22
import Derived.Test.YtodnkbnbjhcikaaDoorCM
set_option linter.all false
set_option linter.deprecated false
set_option linter.unnecessarySimpa false
set_option linter.unusedVariables false
set_option linter.unusedSimpArgs false
set_option linter.defProp false
namespace Go.Proofs.Eng
open Go Go.Proofs Go.Proofs.Eng
set_option maxRecDepth 100000
set_option maxHeartbeats 16000000
theorem grow_call {n : Nat} (h : 1 ≤ n ∧ n ≤ 1073741824) (H : List AObj) (T : List Nat) (K KP : AV → ASt → Prop) : CW (run md pfs) md false ⟨H, T⟩ 63 [.sl [] .nil, .int (n : Nat)] K KP () = K (.sl [] (.tls T.length 0 1)) ⟨H, T ++ [0]⟩ := by
  have hm : md 63 = .raw := rfl
  have hv : growO [.sl [] .nil, .int (n : Nat)] ⟨H, T⟩ = some (.sl [] (.tls T.length 0 1), ⟨H, T ++ [0]⟩) := by
    simp only [growO]
    rw [if_pos (by omega)]
  have := run_ora (md := md) (pfs := pfs) (f := 63) (pf := ⟨0, [], .ora growO⟩) (o := growO) (by unfold pfs; simp) rfl hv
  simp [CW, callA, hm, this]
theorem concat_ret {rows : List (List Int)} {al : List AV} {t : Tl} (h : LIs RowIs rows al) (h0 : 0 < rows.flatten.length) (h1 : rows.flatten.length ≤ 1000) (hl : al.length ≤ lenB) : Out md pfs 50 [.sl al t] (fun v => ∃ t', v = .sl (ints rows.flatten) t' ∧ t'.pure = true) fun _ => False := by
  have hall := rows_all h
  refine out_of pf50_is (Nat.le_of_ble_eq_true rfl) ?_
  simp only [pf50, ↓wpre, wset, wcore, wext, ne_eq, if_true, if_false, exists_eq_left', true_implies, false_implies, exists_const, exists_eq_right, binA, intA, loadA, storeA, pickC, setAt, mapO, argsE, X.isC, resA, oneA, unA, boundA, eqiA, eqsA, fillA, fillE, ASt.fz, strA, simprocAttr]
  refine W_loopE (fun j => al.length - j) (fun j E H T => E 0 = .sl al t ∧ E 9 = .sl al t ∧ E 10 = .int al.length ∧ E 11 = .int (j : Nat) ∧ E 3 = .int ((rows.take j).flatten.length : Nat) ∧ j ≤ al.length) ?_ 0 ⟨rfl, rfl, rfl, rfl, rfl, Nat.zero_le _⟩
  rintro j E H T ⟨e0, e9, e10, e11, e3, hj⟩
  rcases Nat.lt_or_ge j al.length with hlt | hge
  · have hdec : decide ((j : Int) < al.length) = true := by simpa using hlt
    obtain ⟨x, tx, g1, g2, g3, g4, g5, g6⟩ := row_get h hlt
    have hx := flt_take g1
    have hle := flt_take_le (rows := rows) (j + 1)
    rw [hx, List.length_append] at hle
    have hw : IntKind.i64.wrap (((rows.take j).flatten.length : Nat) + (x.length : Nat) : Int) = ((rows.take (j + 1)).flatten.length : Nat) := by
      rw [wrap_in (by unfold in64; omega), hx, List.length_append]; omega
    have hneg : decide ((((rows.take (j + 1)).flatten.length : Nat) : Int) < 0) = false := by simp only [decide_eq_false_iff_not]; omega
    simp only [↓wpre, wset, wcore, wext, ne_eq, if_true, if_false, exists_eq_left', true_implies, false_implies, exists_const, exists_eq_right, binA, intA, loadA, storeA, pickC, setAt, mapO, argsE, X.isC, resA, oneA, unA, boundA, eqiA, eqsA, fillA, fillE, ASt.fz, strA, simprocAttr, e0, e9, e10, e11, e3, hdec, g3, hall, ints_len, hw, hneg]
    exact EQ_in ⟨j + 1, by omega, e0, e9, e10, next_ixv (by omega), rfl, by omega⟩
  · have hdec : decide ((j : Int) < al.length) = false := by simpa using hge
    have hlr := h.len
    rw [List.take_of_length_le (by omega)] at e3
    have cg := grow_call (n := rows.flatten.length) ⟨h0, by omega⟩ H T
    simp only [↓wpre, wset, wcore, wext, ne_eq, if_true, if_false, exists_eq_left', true_implies, false_implies, exists_const, exists_eq_right, binA, intA, loadA, storeA, pickC, setAt, mapO, argsE, X.isC, resA, oneA, unA, boundA, eqiA, eqsA, fillA, fillE, ASt.fz, strA, simprocAttr, e0, e9, e10, e11, e3, hdec, cg]
    refine W_loopE (fun j => al.length - j) (fun j E H T => E 25 = .sl al t ∧ E 26 = .int al.length ∧ E 27 = .int (j : Nat) ∧ (∃ id v, E 6 = .sl (ints (rows.take j).flatten) (.tls id v 1) ∧ T[id]? = some v) ∧ j ≤ al.length) ?_ 0 ⟨rfl, rfl, rfl, ⟨_, _, rfl, by simp⟩, Nat.zero_le _⟩
    clear e0 e9 e10 e11 e3 hdec hj hge cg E H T j
    rintro j E H T ⟨e25, e26, e27, ⟨id, v, e6, hT⟩, hj⟩
    rcases Nat.lt_or_ge j al.length with hlt | hge
    · have hdec : decide ((j : Int) < al.length) = true := by simpa using hlt
      obtain ⟨x, tx, g1, g2, g3, g4, g5, g6⟩ := row_get h hlt
      have hx := flt_take g1
      have hle := flt_take_le (rows := rows) (j + 1)
      rw [hx, List.length_append] at hle
      have ha : ∃ v' T', appA ⟨H, T⟩ 1 none (ints (rows.take j).flatten) (.tls id v 1) (ints x) = some (.sl (ints (rows.take (j + 1)).flatten) (.tls id v' 1), ⟨H, T'⟩) ∧ T'[id]? = some v' := by
        cases x with
        | nil => exact ⟨v, T, by simp [appA, ints, hx], hT⟩
        | cons n x =>
          refine ⟨v + 1, T.set id (v + 1), ?_, by rw [List.getElem?_set_self (List.getElem?_eq_some_iff.1 hT).1]⟩
          rw [hx, ints_app]
          have k1 := ints_all (rows.take j).flatten
          have k2 := ints_all2 (n :: x)
          simp only [ints, List.map_cons] at k2 ⊢
          rw [appA, if_pos ⟨by simp only [List.length_map, List.length_cons] at hle ⊢; omega, by simpa [ints] using k1, by simpa using k2⟩]
          simp [hT]
      obtain ⟨v', T', ha, hT'⟩ := ha
      simp only [↓wpre, wset, wcore, wext, ne_eq, if_true, if_false, exists_eq_left', true_implies, false_implies, exists_const, exists_eq_right, binA, intA, loadA, storeA, pickC, setAt, mapO, argsE, X.isC, resA, oneA, unA, boundA, eqiA, eqsA, fillA, fillE, ASt.fz, strA, simprocAttr, e25, e26, e27, e6, hdec, g3, hall, ha]
      exact EQ_in ⟨j + 1, by omega, e25, e26, next_ixv (by omega), ⟨_, _, rfl, hT'⟩, by omega⟩
    · have hdec : decide ((j : Int) < al.length) = false := by simpa using hge
      rw [List.take_of_length_le (by omega)] at e6
      simp only [↓wpre, wset, wcore, wext, ne_eq, if_true, if_false, exists_eq_left', true_implies, false_implies, exists_const, exists_eq_right, binA, intA, loadA, storeA, pickC, setAt, mapO, argsE, X.isC, resA, oneA, unA, boundA, eqiA, eqsA, fillA, fillE, ASt.fz, strA, simprocAttr, e25, e26, e27, e6, hdec]
      exact ⟨_, pz_ints, _, rfl, strip_pure _⟩
theorem nan_ret {n : Int} : Out md pfs 77 [.int n] (· = .bool false) fun _ => False := by
  refine out_of pf77_is (Nat.le_of_ble_eq_true rfl) ?_
  have h : (n != n) = false := by simp
  simp only [pf77, ↓wpre, wset, wcore, wext, ne_eq, if_true, if_false, exists_eq_left', true_implies, false_implies, exists_const, exists_eq_right, binA, intA, loadA, storeA, pickC, setAt, mapO, argsE, X.isC, resA, oneA, unA, boundA, eqiA, eqsA, fillA, fillE, ASt.fz, strA, simprocAttr, h]
theorem cmpI_ret {m n : Int} : Out md pfs 62 [.int m, .int n] (· = .int (if m < n then -1 else if n < m then 1 else 0)) fun _ => False := by
  refine out_of pf62_is (Nat.le_of_ble_eq_true rfl) ?_
  obtain ⟨_, rfl, c1⟩ := (nan_ret (n := m)).call rfl (by simp [pvs_cons, pvs_nil, pv_v])
  obtain ⟨_, rfl, c2⟩ := (nan_ret (n := n)).call rfl (by simp [pvs_cons, pvs_nil, pv_v])
  by_cases h1 : m < n
  · simp only [pf62, ↓wpre, wset, wcore, wext, ne_eq, if_true, if_false, exists_eq_left', true_implies, false_implies, exists_const, exists_eq_right, binA, intA, loadA, storeA, pickC, setAt, mapO, argsE, X.isC, resA, oneA, unA, boundA, eqiA, eqsA, fillA, fillE, ASt.fz, strA, simprocAttr, c1, c2, decide_eq_true h1, h1]
  · by_cases h2 : n < m
    · simp only [pf62, ↓wpre, wset, wcore, wext, ne_eq, if_true, if_false, exists_eq_left', true_implies, false_implies, exists_const, exists_eq_right, binA, intA, loadA, storeA, pickC, setAt, mapO, argsE, X.isC, resA, oneA, unA, boundA, eqiA, eqsA, fillA, fillE, ASt.fz, strA, simprocAttr, c1, c2, decide_eq_false h1, h1, gt_iff_lt, decide_eq_true h2, h2]
    · simp only [pf62, ↓wpre, wset, wcore, wext, ne_eq, if_true, if_false, exists_eq_left', true_implies, false_implies, exists_const, exists_eq_right, binA, intA, loadA, storeA, pickC, setAt, mapO, argsE, X.isC, resA, oneA, unA, boundA, eqiA, eqsA, fillA, fillE, ASt.fz, strA, simprocAttr, c1, c2, decide_eq_false h1, h1, gt_iff_lt, decide_eq_false h2, h2]
theorem entries_ret {c : Cl} {a : AV} (h : ClIs c a) (hs : Sm c) : Out md pfs 36 [a] (fun v => ∃ t', v = .sl (ints (entL c)) t' ∧ t'.pure = true) fun _ => False := by
  obtain ⟨al, t, rfl, h1, h2, h3, h4, h5⟩ := h.of
  refine out_of pf36_is (Nat.le_of_ble_eq_true rfl) ?_
  have ht := hs.tot
  obtain ⟨_, ⟨t', rfl, ht'⟩, cc⟩ := (concat_ret (t := t) h1 hs.pos (by omega) h3).call rfl (by simp [pvs_cons, pvs_nil, pv_sl, Tl.fast.pure h2, rowsPure h1])
  simp only [pf36, ↓wpre, wset, wcore, wext, ne_eq, if_true, if_false, exists_eq_left', true_implies, false_implies, exists_const, exists_eq_right, binA, intA, loadA, storeA, pickC, setAt, mapO, argsE, X.isC, resA, oneA, unA, boundA, eqiA, eqsA, fillA, fillE, ASt.fz, strA, simprocAttr, cc]
  exact ⟨_, app_new (l := [c.f, c.t]) hs.pos (by simp only [List.length_cons, List.length_nil]; omega) (by have := hs.pos; simp only [List.length_cons, List.length_nil]; omega), _, pz_ints, _, rfl, strip_pure _⟩
theorem compare_ret {l m : List Int} {t u : Tl} (hl : l.length ≤ lenB) (hm : m.length ≤ lenB) : Out md pfs 48 [.sl (ints l) t, .sl (ints m) u] (· = .int (cmpS l m)) fun _ => False := by
  refine out_of pf48_is (Nat.le_of_ble_eq_true rfl) ?_
  simp only [pf48, ↓wpre, wset, wcore, wext, ne_eq, if_true, if_false, exists_eq_left', true_implies, false_implies, exists_const, exists_eq_right, binA, intA, loadA, storeA, pickC, setAt, mapO, argsE, X.isC, resA, oneA, unA, boundA, eqiA, eqsA, fillA, fillE, ASt.fz, strA, simprocAttr, ints_len]
  refine W_loopE (fun j => l.length - j) (fun j E H T => E 0 = .sl (ints l) t ∧ E 1 = .sl (ints m) u ∧ E 9 = .sl (ints l) t ∧ E 10 = .int l.length ∧ E 11 = .int (j : Nat) ∧ j ≤ l.length ∧ j ≤ m.length ∧ cmpS l m = cmpS (l.drop j) (m.drop j)) ?_ 0 ⟨rfl, rfl, rfl, rfl, rfl, Nat.zero_le _, Nat.zero_le _, by simp⟩
  rintro j E H T ⟨e0, e1, e9, e10, e11, hj, hjm, hc⟩
  have hal := ints_all l
  have ham := ints_all m
  rcases Nat.lt_or_ge j l.length with hlt | hge
  · have hdec : decide ((j : Int) < l.length) = true := by simpa using hlt
    obtain ⟨x, x1, x2, x3⟩ := ints_get hlt
    rcases Nat.lt_or_ge j m.length with hmt | hmg
    · have hdm : decide ((j : Int) ≥ m.length) = false := by simp only [decide_eq_false_iff_not]; omega
      obtain ⟨y, y1, y2, y3⟩ := ints_get hmt
      obtain ⟨_, rfl, cc⟩ := (cmpI_ret (m := x) (n := y)).call rfl (by simp [pvs_cons, pvs_nil, pv_v])
      rw [x2, y2, cmpS] at hc
      by_cases h1 : x < y
      · rw [if_pos h1] at hc cc
        have hn : ((-1 : Int) != 0) = true := rfl
        simp only [↓wpre, wset, wcore, wext, ne_eq, if_true, if_false, exists_eq_left', true_implies, false_implies, exists_const, exists_eq_right, binA, intA, loadA, storeA, pickC, setAt, mapO, argsE, X.isC, resA, oneA, unA, boundA, eqiA, eqsA, fillA, fillE, ASt.fz, strA, simprocAttr, e0, e1, e9, e10, e11, hdec, hdm, x3, y3, hal, ham, ints_len, cc, hn, hc]
      · rw [if_neg h1] at hc cc
        by_cases h2 : y < x
        · rw [if_pos h2] at hc cc
          have hn : ((1 : Int) != 0) = true := rfl
          simp only [↓wpre, wset, wcore, wext, ne_eq, if_true, if_false, exists_eq_left', true_implies, false_implies, exists_const, exists_eq_right, binA, intA, loadA, storeA, pickC, setAt, mapO, argsE, X.isC, resA, oneA, unA, boundA, eqiA, eqsA, fillA, fillE, ASt.fz, strA, simprocAttr, e0, e1, e9, e10, e11, hdec, hdm, x3, y3, hal, ham, ints_len, cc, hn, hc]
        · rw [if_neg h2] at hc cc
          have hn : ((0 : Int) != 0) = false := rfl
          simp only [↓wpre, wset, wcore, wext, ne_eq, if_true, if_false, exists_eq_left', true_implies, false_implies, exists_const, exists_eq_right, binA, intA, loadA, storeA, pickC, setAt, mapO, argsE, X.isC, resA, oneA, unA, boundA, eqiA, eqsA, fillA, fillE, ASt.fz, strA, simprocAttr, e0, e1, e9, e10, e11, hdec, hdm, x3, y3, hal, ham, ints_len, cc, hn]
          exact EQ_in ⟨j + 1, by omega, e0, e1, e9, e10, next_ixv (by omega), by omega, by omega, hc⟩
    · have hdm : decide ((j : Int) ≥ m.length) = true := by simp only [decide_eq_true_eq]; omega
      rw [x2, List.drop_eq_nil_of_le hmg, cmpS] at hc
      simp only [↓wpre, wset, wcore, wext, ne_eq, if_true, if_false, exists_eq_left', true_implies, false_implies, exists_const, exists_eq_right, binA, intA, loadA, storeA, pickC, setAt, mapO, argsE, X.isC, resA, oneA, unA, boundA, eqiA, eqsA, fillA, fillE, ASt.fz, strA, simprocAttr, e0, e1, e9, e10, e11, hdec, hdm, x3, hal, ints_len, hc]
  · have hdec : decide ((j : Int) < l.length) = false := by simpa using hge
    rw [List.drop_eq_nil_of_le hge] at hc
    rcases Nat.lt_or_ge l.length m.length with hmt | hmg
    · have hd : decide ((l.length : Int) < m.length) = true := by simpa using hmt
      obtain ⟨y, y1, y2, y3⟩ := ints_get (show j < m.length by omega)
      rw [y2, cmpS] at hc
      simp only [↓wpre, wset, wcore, wext, ne_eq, if_true, if_false, exists_eq_left', true_implies, false_implies, exists_const, exists_eq_right, binA, intA, loadA, storeA, pickC, setAt, mapO, argsE, X.isC, resA, oneA, unA, boundA, eqiA, eqsA, fillA, fillE, ASt.fz, strA, simprocAttr, e0, e1, e9, e10, e11, hdec, ints_len, hd, hc]
    · have hd : decide ((l.length : Int) < m.length) = false := by simpa using hmg
      rw [List.drop_eq_nil_of_le (by omega), cmpS] at hc
      simp only [↓wpre, wset, wcore, wext, ne_eq, if_true, if_false, exists_eq_left', true_implies, false_implies, exists_const, exists_eq_right, binA, intA, loadA, storeA, pickC, setAt, mapO, argsE, X.isC, resA, oneA, unA, boundA, eqiA, eqsA, fillA, fillE, ASt.fz, strA, simprocAttr, e0, e1, e9, e10, e11, hdec, ints_len, hd, hc]
theorem cmp47_ret {c d : Cl} {a b : AV} (h : ClIs c a) (k : ClIs d b) (hc : Sm c) (hd : Sm d) : Out md pfs 47 [a, b] (· = .int (cmpS (entL c) (entL d))) fun _ => False := by
  obtain ⟨al, t, rfl, _⟩ := h.of
  obtain ⟨bl, u, rfl, _⟩ := k.of
  refine out_of pf47_is (Nat.le_of_ble_eq_true rfl) ?_
  obtain ⟨_, ⟨t1, rfl, p1⟩, c1⟩ := (entries_ret h hc).call rfl (by simp [pvs_cons, pvs_nil, h.pure])
  obtain ⟨_, ⟨t2, rfl, p2⟩, c2⟩ := (entries_ret k hd).call rfl (by simp [pvs_cons, pvs_nil, k.pure])
  have l1 := hc.tot
  have l2 := hd.tot
  obtain ⟨_, rfl, c3⟩ := (compare_ret (l := entL c) (m := entL d) (t := t1) (u := t2) (by unfold entL lenB; simp only [List.length_cons]; omega) (by unfold entL lenB; simp only [List.length_cons]; omega)).call rfl (by simp [pvs_cons, pvs_nil, pv_sl, p1, p2, ints_pure])
  simp only [pf47, ↓wpre, wset, wcore, wext, ne_eq, if_true, if_false, exists_eq_left', true_implies, false_implies, exists_const, exists_eq_right, binA, intA, loadA, storeA, pickC, setAt, mapO, argsE, X.isC, resA, oneA, unA, boundA, eqiA, eqsA, fillA, fillE, ASt.fz, strA, simprocAttr, c1, c2, c3]
theorem composed_ret {a b : Cl} {x y : AV} {p q r : Nat} (hx : ClIs a x) (hy : ClIs b y) (ha : Wm a.m q p) (hb : Wm b.m r q) (hq : 1 ≤ q) (hp : p ≤ 16) (hq16 : q ≤ 16) (hr : r ≤ 16) : Out md pfs 37 [x, y] (fun v => ClIs (comp a b) v) fun _ => False := by
  obtain ⟨al, t, rfl, a1, a2, a3, a4, a5⟩ := hx.of
  obtain ⟨bl, u, rfl, b1, b2, b3, b4, b5⟩ := hy.of
  have al1 := a1.len
  have bl1 := b1.len
  have al2 := ha.len
  have bl2 := hb.len
  have aall := rows_all a1
  have ball := rows_all b1
  obtain ⟨r0, t0, g1, g2, g3, _⟩ := row_get a1 (show 0 < al.length by omega)
  have hr0 : r0.length = p := ha.row r0 g2
  have hhd : (a.m.headD []).length = p := ha.head (by omega)
  have hz := zeros_ints p
  refine out_of pf37_is (Nat.le_of_ble_eq_true rfl) ?_
  simp only [pf37, ↓wpre, wset, wcore, wext, ne_eq, if_true, if_false, exists_eq_left', true_implies, false_implies, exists_const, exists_eq_right, binA, intA, loadA, storeA, pickC, setAt, mapO, argsE, X.isC, resA, oneA, unA, boundA, eqiA, eqsA, fillA, fillE, ASt.fz, strA, simprocAttr]
  refine W_loopE (fun i => bl.length - i) (fun i E H T => ∃ tl, E 2 = .ptr 0 0 ∧ E 3 = .ptr 1 0 ∧ E 4 = .ptr 2 0 ∧ E 5 = .ptr 3 0 ∧ E 19 = .sl bl u ∧ E 20 = .int bl.length ∧ E 21 = .int (i : Nat) ∧ i ≤ bl.length ∧ H = [.cells false [.int a.f, .int a.t, .sl al t], .cells false [.int b.f, .int b.t, .sl bl u], .cells false [.int 0, .int 0, .sl [] .nil], .cells false [.int a.f, .int b.t, .sl (bsA 4 p i) tl]] ++ rowsH ((comp a b).m.take i) ∧ App T (bsA 4 p i) tl) ?_ 0 ⟨_, rfl, rfl, rfl, rfl, rfl, rfl, rfl, Nat.zero_le _, rfl, app_start _⟩
  rintro i E H T ⟨tl, e2, e3, e4, e5, e19, e20, e21, hi, rfl, hA⟩
  rcases Nat.lt_or_ge i bl.length with hlt | hge
  · have hdec : decide ((i : Int) < bl.length) = true := by simpa using hlt
    obtain ⟨row, tr, m1, m2, m3, m4, m5, m6⟩ := row_get b1 hlt
    have hrow : row.length = q := hb.row row m2
    have hrent := hb.ent row m2
    have hCl : ([AObj.cells false [.int a.f, .int a.t, .sl al t], .cells false [.int b.f, .int b.t, .sl bl u], .cells false [.int 0, .int 0, .sl [] .nil], .cells false [.int a.f, .int b.t, .sl (bsA 4 p i) tl]] ++ rowsH ((comp a b).m.take i)).length = 4 + i := by
      simp [rowsH, comp]; omega
    generalize hC : ([AObj.cells false [.int a.f, .int a.t, .sl al t], .cells false [.int b.f, .int b.t, .sl bl u], .cells false [.int 0, .int 0, .sl [] .nil], .cells false [.int a.f, .int b.t, .sl (bsA 4 p i) tl]] ++ rowsH ((comp a b).m.take i)) = C at *
    have c0 : C[0]? = some (.cells false [.int a.f, .int a.t, .sl al t]) := by rw [← hC]; rfl
    have c1 : C[1]? = some (.cells false [.int b.f, .int b.t, .sl bl u]) := by rw [← hC]; rfl
    have c3 : C[3]? = some (.cells false [.int a.f, .int b.t, .sl (bsA 4 p i) tl]) := by rw [← hC]; rfl
    simp only [↓wpre, wset, wcore, wext, ne_eq, if_true, if_false, exists_eq_left', true_implies, false_implies, exists_const, exists_eq_right, binA, intA, loadA, storeA, pickC, setAt, mapO, argsE, X.isC, resA, oneA, unA, boundA, eqiA, eqsA, fillA, fillE, ASt.fz, strA, simprocAttr, List.length_append, List.append_assoc, app_get_len, app_get_add, app_set_len, app_set_add, e2, e3, e4, e5, e19, e20, e21, hdec, c0, c1, m3, ball, g3, aall, ints_len, hr0]
    refine ⟨by omega, ?_⟩
    refine W_loopE (fun J => q - J) (fun J E H T' => E 2 = .ptr 0 0 ∧ E 3 = .ptr 1 0 ∧ E 4 = .ptr 2 0 ∧ E 5 = .ptr 3 0 ∧ E 19 = .sl bl u ∧ E 20 = .int bl.length ∧ E 21 = .int (i : Nat) ∧ E 8 = .bs C.length 0 p 1 false ∧ E 31 = .sl (ints row) tr ∧ E 32 = .int (q : Nat) ∧ E 33 = .int (J : Nat) ∧ J ≤ q ∧ H = C ++ [.cells false (ints ((List.range p).map (pE row a.m J)))] ∧ T = T') ?_ 0 ⟨e2, e3, e4, e5, e19, e20, e21, rfl, rfl, by show AV.int ((row.length : Nat) : Int) = _; rw [hrow], rfl, Nat.zero_le _, by rw [show pE row a.m 0 = fun _ => 0 from rfl, ← hz, show flat (List.replicate p (AV.int 0)) = List.replicate p (AV.int 0) by rw [hz, flat_ints]], rfl⟩
    clear e2 e3 e4 e5 e19 e20 e21 hdec
    rintro J E H T' ⟨e2, e3, e4, e5, e19, e20, e21, e8, e31, e32, e33, hJ, rfl, rfl⟩
    rcases Nat.lt_or_ge J q with hJq | hJq
    · have hdec : decide ((J : Int) < q) = true := by simpa using hJq
      obtain ⟨xv, x1, x2, x3⟩ := ints_get (show J < row.length by omega)
      have iall := ints_all row
      have hxe := hrent xv (List.mem_of_getElem? x1)
      have hxg : row.getD J 0 = xv := by rw [List.getD, x1]; rfl
      by_cases hx0 : xv = 0
      · have d0 : (xv == 0) = true := by simp [hx0]
        simp only [↓wpre, wset, wcore, wext, ne_eq, if_true, if_false, exists_eq_left', true_implies, false_implies, exists_const, exists_eq_right, binA, intA, loadA, storeA, pickC, setAt, mapO, argsE, X.isC, resA, oneA, unA, boundA, eqiA, eqsA, fillA, fillE, ASt.fz, strA, simprocAttr, List.length_append, List.append_assoc, app_get_len, app_get_add, app_set_len, app_set_add, e2, e3, e4, e5, e19, e20, e21, e8, e31, e32, e33, hdec, x3, iall, d0]
        refine EQ_in ⟨J + 1, by omega, e2, e3, e4, e5, e19, e20, e21, e8, e31, e32, next_ixv (by unfold lenB; omega), by omega, ?_, rfl⟩
        rw [show pE row a.m (J + 1) = pE row a.m J from funext fun k => pE_x0 (by rw [hxg, hx0])]
      · have d0 : (xv == 0) = false := by simp [hx0]
        obtain ⟨ra, ta, n1, n2, n3, n4, n5, n6⟩ := row_get a1 (show J < al.length by omega)
        have hra : ra.length = p := ha.row ra n2
        have hraent := ha.ent ra n2
        have hag : ∀ k, get2 a.m J k = ra.getD k 0 := fun k => by simp [get2, List.getD, n1]
        simp only [↓wpre, wset, wcore, wext, ne_eq, if_true, if_false, exists_eq_left', true_implies, false_implies, exists_const, exists_eq_right, binA, intA, loadA, storeA, pickC, setAt, mapO, argsE, X.isC, resA, oneA, unA, boundA, eqiA, eqsA, fillA, fillE, ASt.fz, strA, simprocAttr, List.length_append, List.append_assoc, app_get_len, app_get_add, app_set_len, app_set_add, e2, e3, e4, e5, e19, e20, e21, e8, e31, e32, e33, hdec, x3, iall, d0, app_get_of c0, n3, aall, ints_len, hra]
        refine W_loopE (fun k => p - k) (fun k E H T' => E 2 = .ptr 0 0 ∧ E 3 = .ptr 1 0 ∧ E 4 = .ptr 2 0 ∧ E 5 = .ptr 3 0 ∧ E 19 = .sl bl u ∧ E 20 = .int bl.length ∧ E 21 = .int (i : Nat) ∧ E 8 = .bs C.length 0 p 1 false ∧ E 31 = .sl (ints row) tr ∧ E 32 = .int (q : Nat) ∧ E 33 = .int (J : Nat) ∧ E 10 = .int xv ∧ E 44 = .sl (ints ra) ta ∧ E 45 = .int (p : Nat) ∧ E 46 = .int (k : Nat) ∧ k ≤ p ∧ H = C ++ [.cells false (ints (mixL p (pE row a.m (J + 1)) (pE row a.m J) k))] ∧ T = T') ?_ 0 ⟨e2, e3, e4, e5, e19, e20, e21, e8, e31, e32, e33, rfl, rfl, rfl, rfl, Nat.zero_le _, by rw [mixL_zero], rfl⟩
        clear e2 e3 e4 e5 e19 e20 e21 e8 e31 e32 e33 hdec
        rintro k E H T' ⟨e2, e3, e4, e5, e19, e20, e21, e8, e31, e32, e33, e10, e44, e45, e46, hk, rfl, rfl⟩
        rcases Nat.lt_or_ge k p with hkp | hkp
        · have hdec : decide ((k : Int) < p) = true := by simpa using hkp
          obtain ⟨yv, y1, y2, y3⟩ := ints_get (show k < ra.length by omega)
          have iall2 := ints_all ra
          have hye := hraent yv (List.mem_of_getElem? y1)
          have hyg : get2 a.m J k = yv := by rw [hag, List.getD, y1]; rfl
          by_cases hy0 : yv = 0
          · have d1 : (yv != 0) = false := by simp [hy0]
            simp only [↓wpre, wset, wcore, wext, ne_eq, if_true, if_false, exists_eq_left', true_implies, false_implies, exists_const, exists_eq_right, binA, intA, loadA, storeA, pickC, setAt, mapO, argsE, X.isC, resA, oneA, unA, boundA, eqiA, eqsA, fillA, fillE, ASt.fz, strA, simprocAttr, List.length_append, List.append_assoc, app_get_len, app_get_add, app_set_len, app_set_add, e2, e3, e4, e5, e19, e20, e21, e8, e31, e32, e33, e10, e44, e45, e46, hdec, y3, iall2, d1]
            refine EQ_in ⟨k + 1, by omega, e2, e3, e4, e5, e19, e20, e21, e8, e31, e32, e33, e10, e44, e45, next_ixv (by unfold lenB; omega), by omega, ?_, rfl⟩
            rw [mixL_skip (pE_y0 (by rw [hyg, hy0]))]
          · have d1 : (yv != 0) = true := by simp [hy0]
            have hm : (ints (mixL p (pE row a.m (J + 1)) (pE row a.m J) k))[k]? = some (.int (pE row a.m J k)) := by
              simp only [ints, List.getElem?_map, mixL_get hkp, if_neg (Nat.lt_irrefl k), Option.map_some]
            have hpe := pE_xy (row := row) (am := a.m) (J := J) (k := k) (by omega) (by omega)
            rw [hxg, hyg] at hpe
            have hlen : (ints (mixL p (pE row a.m (J + 1)) (pE row a.m J) k)).length = p := by rw [ints_len, mixL_len]
            have hd : (List.drop k (ints (mixL p (pE row a.m (J + 1)) (pE row a.m J) k))).head? = some (.int (pE row a.m J k)) := by rw [List.head?_drop, hm]
            have hkl : ((k : Int) < (p : Int)) = True := eq_true (by omega)
            have hmx : (if yv > xv then yv else xv) = mx xv yv := rfl
            by_cases hgt : mx xv yv > pE row a.m J k
            · rw [if_pos hgt] at hpe
              have d2 : decide (mx xv yv > pE row a.m J k) = true := decide_eq_true hgt
              have hst : List.take k (ints (mixL p (pE row a.m (J + 1)) (pE row a.m J) k)) ++ AV.int (mx xv yv) :: List.drop (k + 1) (ints (mixL p (pE row a.m (J + 1)) (pE row a.m J) k)) = ints (mixL p (pE row a.m (J + 1)) (pE row a.m J) (k + 1)) := by rw [set_td (by rw [hlen]; exact hkp), ints_set, ← hpe, mixL_set]
              simp only [↓wpre, wset, wcore, wext, ne_eq, if_true, if_false, exists_eq_left', true_implies, false_implies, exists_const, exists_eq_right, binA, intA, loadA, storeA, pickC, setAt, mapO, argsE, X.isC, resA, oneA, unA, boundA, eqiA, eqsA, fillA, fillE, ASt.fz, strA, simprocAttr, List.length_append, List.append_assoc, app_get_len, app_get_add, app_set_len, app_set_add, e2, e3, e4, e5, e19, e20, e21, e8, e31, e32, e33, e10, e44, e45, e46, hdec, y3, iall2, d1, hd, hlen, hkl, hmx, d2, Nat.mul_one, hst]
              refine ⟨by omega, ?_⟩
              exact EQ_in ⟨k + 1, by omega, e2, e3, e4, e5, e19, e20, e21, e8, e31, e32, e33, e10, e44, e45, next_ixv (by unfold lenB; omega), by omega, rfl, rfl⟩
            · rw [if_neg hgt] at hpe
              have d2 : decide (mx xv yv > pE row a.m J k) = false := decide_eq_false hgt
              simp only [↓wpre, wset, wcore, wext, ne_eq, if_true, if_false, exists_eq_left', true_implies, false_implies, exists_const, exists_eq_right, binA, intA, loadA, storeA, pickC, setAt, mapO, argsE, X.isC, resA, oneA, unA, boundA, eqiA, eqsA, fillA, fillE, ASt.fz, strA, simprocAttr, List.length_append, List.append_assoc, app_get_len, app_get_add, app_set_len, app_set_add, e2, e3, e4, e5, e19, e20, e21, e8, e31, e32, e33, e10, e44, e45, e46, hdec, y3, iall2, d1, hd, hlen, hkl, hmx, d2, Nat.mul_one]
              refine EQ_in ⟨k + 1, by omega, e2, e3, e4, e5, e19, e20, e21, e8, e31, e32, e33, e10, e44, e45, next_ixv (by unfold lenB; omega), by omega, ?_, rfl⟩
              rw [mixL_skip hpe]
        · have hdec : decide ((k : Int) < p) = false := by simpa using hkp
          simp only [↓wpre, wset, wcore, wext, ne_eq, if_true, if_false, exists_eq_left', true_implies, false_implies, exists_const, exists_eq_right, binA, intA, loadA, storeA, pickC, setAt, mapO, argsE, X.isC, resA, oneA, unA, boundA, eqiA, eqsA, fillA, fillE, ASt.fz, strA, simprocAttr, List.length_append, List.append_assoc, app_get_len, app_get_add, app_set_len, app_set_add, e2, e3, e4, e5, e19, e20, e21, e8, e31, e32, e33, e10, e44, e45, e46, hdec]
          refine EQ_in ⟨J + 1, by omega, e2, e3, e4, e5, e19, e20, e21, e8, e31, e32, next_ixv (by unfold lenB; omega), by omega, by rw [mixL_all hkp], rfl⟩
    · have hdec : decide ((J : Int) < q) = false := by simpa using hJq
      obtain rfl : J = q := by omega
      obtain ⟨tl', T', ap, hA', _⟩ := app_one (es := 1) (x := .bs C.length 0 p 1 false) hA (by rw [bsA_len]; unfold capB; omega) bsA_all rfl rfl
      have l3 := lt_of_get c3
      simp only [↓wpre, wset, wcore, wext, ne_eq, if_true, if_false, exists_eq_left', true_implies, false_implies, exists_const, exists_eq_right, binA, intA, loadA, storeA, pickC, setAt, mapO, argsE, X.isC, resA, oneA, unA, boundA, eqiA, eqsA, fillA, fillE, ASt.fz, strA, simprocAttr, List.length_append, List.append_assoc, app_get_len, app_get_add, app_set_len, app_set_add, e2, e3, e4, e5, e19, e20, e21, e8, e31, e32, e33, hdec, app_get_of c3, ap]
      refine EQ_in ⟨i + 1, by omega, tl', e2, e3, e4, e5, e19, e20, next_ixv (by omega), by omega, ?_, by rw [bsA_succ, ← hCl]; exact hA'⟩
      have hgi : (comp a b).m[i]? = some ((List.range p).map (pE row a.m J)) := by rw [comp_rows, List.getElem?_map, m1, hhd, al2]; rfl
      rw [bsA_succ, ← hCl, List.take_add_one, hgi, ← hC]
      simp [rowsH]
  · have hdec : decide ((i : Int) < bl.length) = false := by simpa using hge
    obtain rfl : i = bl.length := by omega
    have hcl : (comp a b).m.length = bl.length := by rw [comp_rows, List.length_map]; omega
    rw [List.take_of_length_le (by omega)]
    simp only [↓wpre, wset, wcore, wext, ne_eq, if_true, if_false, exists_eq_left', true_implies, false_implies, exists_const, exists_eq_right, binA, intA, loadA, storeA, pickC, setAt, mapO, argsE, X.isC, resA, oneA, unA, boundA, eqiA, eqsA, fillA, fillE, ASt.fz, strA, simprocAttr, List.length_append, List.append_assoc, app_get_len, app_get_add, app_set_len, app_set_add, e2, e3, e4, e5, e19, e20, e21, hdec]
    have hmat : ∀ (j : Nat) (w : List Int), (comp a b).m[j]? = some w → w.length = p ∧ p ≤ lenB ∧ ∀ v ∈ w, in64 v := by
      intro j w hw
      have hwm := (comp_wm ha hb (by omega))
      have hm2 := List.mem_of_getElem? hw
      exact ⟨hwm.row w hm2, by unfold lenB; omega, fun v hv => by have := hwm.ent w hm2 v hv; unfold in64; omega⟩
    obtain ⟨al', z1, z2⟩ := bsA_pz (s := ⟨AObj.cells false [.int a.f, .int a.t, .sl al t] :: .cells false [.int b.f, .int b.t, .sl bl u] :: .cells false [.int a.f, .int b.t, .sl (bsA 4 p bl.length) tl] :: .cells false [.int a.f, .int b.t, .sl (bsA 4 p bl.length) tl] :: rowsH (comp a b).m, T⟩) (n := 4) (p := p) (k := 1016) (m := (comp a b).m) (fun j w hw => ⟨by rw [Nat.add_comm]; simp [rowsH, hw], hmat j w hw⟩) bl.length (by omega)
    rw [List.take_of_length_le (by omega)] at z2
    rw [show (1020 : Nat) = 1018 + 2 from rfl, pz_agg]
    simp only [mapO]
    rw [purify_pure (pv_v), purify_pure (pv_v), show (1018 + 1 : Nat) = 1017 + 2 from rfl, pz_sl, z1]
    exact ⟨_, rfl, al', _, rfl, z2, app_fast hA (by omega), by rw [z2.len, hcl]; exact b3, a4, b5⟩
open Go Go.Proofs
theorem all_snoc {α : Type} {l : List α} {j : Nat} {x : α} {p : α → Prop} (h : ∀ r ∈ l.take j, p r) (hx : l[j]? = some x) (hp : p x) : ∀ r ∈ l.take (j + 1), p r := by
  intro r hr
  rw [List.take_add_one, hx] at hr
  simp only [Option.toList_some, List.mem_append, List.mem_singleton] at hr
  rcases hr with hr | rfl
  · exact h r hr
  · exact hp
theorem dlt {i n : Nat} (h : i < n) : decide ((i : Int) < (n : Int)) = true := by simpa using h
theorem dltf {i n : Nat} (h : n ≤ i) : decide ((i : Int) < (n : Int)) = false := by simpa using h
theorem take_eq {α : Type} {l m : List α} {j : Nat} {x : α} (h : l.take j = m.take j) (h1 : l[j]? = some x) (h2 : m[j]? = some x) : l.take (j + 1) = m.take (j + 1) := by rw [List.take_add_one, List.take_add_one, h, h1, h2]
theorem get_ne {α : Type} {l m : List α} {j : Nat} {x y : α} (h1 : l[j]? = some x) (h2 : m[j]? = some y) (h : x ≠ y) : l ≠ m := by rintro rfl; rw [h1] at h2; cases h2; exact h rfl
theorem take_all {α : Type} {l m : List α} {j : Nat} (h : l.take j = m.take j) (h1 : l.length ≤ j) (h2 : m.length ≤ j) : l = m := by rwa [List.take_of_length_le h1, List.take_of_length_le h2] at h
theorem ibne {x y : Int} (h : x ≠ y) : (x != y) = true := by simpa using h
theorem ibne' {x y : Int} (h : x = y) : (x != y) = false := by simpa using h
theorem get2_row {m : List (List Int)} {j k : Nat} {x : List Int} (h : m[j]? = some x) : get2 m j k = x.getD k 0 := by
  unfold get2
  rw [List.getD_eq_getElem?_getD (l := m), h]; rfl
theorem getD_at {l : List Int} {k : Nat} {x : Int} (h : l[k]? = some x) : l.getD k 0 = x := by rw [List.getD_eq_getElem?_getD, h]; rfl
theorem getD_no {l : List Int} {k : Nat} (h : l.length ≤ k) : l.getD k 0 = 0 := by rw [List.getD_eq_getElem?_getD, List.getElem?_eq_none h]; rfl
theorem decB_hit {c : Cl} {j : Nat} (hj : j < c.m.length) (h : get2 c.m j j = 2) : decB c = true := by
  unfold decB
  rw [List.any_eq_true]
  exact ⟨j, List.mem_range.2 hj, by simpa using h⟩
theorem decB_no {c : Cl} (h : ∀ i, i < c.m.length → get2 c.m i i ≠ 2) : decB c = false := by
  unfold decB
  rw [List.any_eq_false]
  intro i hi
  simpa using h i (List.mem_range.1 hi)
theorem decP_ret {c : Cl} {a : AV} (h : ClIs c a) : Out md pfs 34 [a] (· = .bool (decB c)) fun _ => False := by
  obtain ⟨al, t, rfl, h1, h2, h3, h4, h5⟩ := h.of
  have hal := rows_all h1
  have hla := h1.len
  refine out_of pf34_is (Nat.le_of_ble_eq_true rfl) ?_
  simp only [pf34, ↓wpre, wset, wcore, wext, ne_eq, if_true, if_false, exists_eq_left', true_implies, false_implies, exists_const, exists_eq_right, binA, intA, loadA, storeA, pickC, setAt, mapO, argsE, X.isC, resA, oneA, unA, boundA, eqiA, eqsA, fillA, fillE, ASt.fz, strA, simprocAttr]
  refine W_loopE (fun j => al.length - j) (fun j E H T => E 6 = .sl al t ∧ E 7 = .int al.length ∧ E 2 = .bool false ∧ E 8 = .int (j : Nat) ∧ j ≤ al.length ∧ ∀ i, i < j → get2 c.m i i ≠ 2) ?_ 0 ⟨rfl, rfl, rfl, rfl, Nat.zero_le _, by omega⟩
  rintro j E H T ⟨e6, e7, e2, e8, hj, hr⟩
  rcases Nat.lt_or_ge j al.length with hlt | hge
  · have q1 := dlt hlt
    obtain ⟨x, tx, g1, g2, g3, g4, g5, g6⟩ := row_get h1 hlt
    have hxa := ints_all x
    have hg := get2_row (k := j) g1
    have hnx : ∀ {P : Prop}, get2 c.m j j ≠ 2 → (∀ i, i < j + 1 → get2 c.m i i ≠ 2) := fun h i hi => by
      rcases Nat.lt_or_ge i j with h' | h'
      · exact hr i h'
      · obtain rfl : i = j := by omega
        exact h
    rcases Nat.lt_or_ge j x.length with hx | hx
    · have q2 := dlt hx
      obtain ⟨n, n1, n2, n3⟩ := ints_get hx
      rw [getD_at n1] at hg
      by_cases h2 : n = 2
      · have q3 : (n == 2) = true := by simp [h2]
        have dd := decB_hit (c := c) (j := j) (by omega) (by rw [hg, h2])
        simp only [↓wpre, wset, wcore, wext, ne_eq, if_true, if_false, exists_eq_left', true_implies, false_implies, exists_const, exists_eq_right, binA, intA, loadA, storeA, pickC, setAt, mapO, argsE, X.isC, resA, oneA, unA, boundA, eqiA, eqsA, fillA, fillE, ASt.fz, strA, simprocAttr, e6, e7, e2, e8, q1, q2, g3, hal, hxa, ints_len, n3, q3, dd]
      · have q3 : (n == 2) = false := by simp [h2]
        simp only [↓wpre, wset, wcore, wext, ne_eq, if_true, if_false, exists_eq_left', true_implies, false_implies, exists_const, exists_eq_right, binA, intA, loadA, storeA, pickC, setAt, mapO, argsE, X.isC, resA, oneA, unA, boundA, eqiA, eqsA, fillA, fillE, ASt.fz, strA, simprocAttr, e6, e7, e2, e8, q1, q2, g3, hal, hxa, ints_len, n3, q3]
        exact EQ_in ⟨j + 1, by omega, e6, e7, e2, next_ixv (by omega), by omega, hnx (P := True) (by rw [hg]; exact h2)⟩
    · have q2 := dltf hx
      rw [getD_no hx] at hg
      simp only [↓wpre, wset, wcore, wext, ne_eq, if_true, if_false, exists_eq_left', true_implies, false_implies, exists_const, exists_eq_right, binA, intA, loadA, storeA, pickC, setAt, mapO, argsE, X.isC, resA, oneA, unA, boundA, eqiA, eqsA, fillA, fillE, ASt.fz, strA, simprocAttr, e6, e7, e2, e8, q1, q2, g3, hal, ints_len]
      exact EQ_in ⟨j + 1, by omega, e6, e7, e2, next_ixv (by omega), by omega, hnx (P := True) (by rw [hg]; omega)⟩
  · have q1 := dltf hge
    have dd := decB_no (c := c) fun i hi => hr i (by omega)
    simp only [↓wpre, wset, wcore, wext, ne_eq, if_true, if_false, exists_eq_left', true_implies, false_implies, exists_const, exists_eq_right, binA, intA, loadA, storeA, pickC, setAt, mapO, argsE, X.isC, resA, oneA, unA, boundA, eqiA, eqsA, fillA, fillE, ASt.fz, strA, simprocAttr, e6, e7, e2, e8, q1, dd]
theorem eq_ret {l m : List Int} {t u : Tl} (hl : l.length ≤ lenB) : Out md pfs 35 [.sl (ints l) t, .sl (ints m) u] (· = .bool (decide (l = m))) fun _ => False := by
  have hal := ints_all l
  have hbl := ints_all m
  refine out_of pf35_is (Nat.le_of_ble_eq_true rfl) ?_
  by_cases hn : l.length = m.length
  case neg =>
    have d3 : ((l.length : Int) != m.length) = true := ibne (by omega)
    have dd : decide (l = m) = false := decide_eq_false fun e => hn (by rw [e])
    simp only [pf35, ↓wpre, wset, wcore, wext, ne_eq, if_true, if_false, exists_eq_left', true_implies, false_implies, exists_const, exists_eq_right, binA, intA, loadA, storeA, pickC, setAt, mapO, argsE, X.isC, resA, oneA, unA, boundA, eqiA, eqsA, fillA, fillE, ASt.fz, strA, simprocAttr, ints_len, d3, dd]
  have d3 : ((l.length : Int) != m.length) = false := ibne' (by omega)
  simp only [pf35, ↓wpre, wset, wcore, wext, ne_eq, if_true, if_false, exists_eq_left', true_implies, false_implies, exists_const, exists_eq_right, binA, intA, loadA, storeA, pickC, setAt, mapO, argsE, X.isC, resA, oneA, unA, boundA, eqiA, eqsA, fillA, fillE, ASt.fz, strA, simprocAttr, ints_len, d3]
  refine W_loopE (fun j => l.length - j) (fun j E H T => E 0 = .sl (ints l) t ∧ E 1 = .sl (ints m) u ∧ E 12 = .int l.length ∧ E 13 = .int (j : Nat) ∧ j ≤ l.length ∧ l.take j = m.take j) ?_ 0 ⟨rfl, rfl, rfl, rfl, Nat.zero_le _, by simp⟩
  rintro j E H T ⟨e0, e1, e12, e13, hj, hr⟩
  rcases Nat.lt_or_ge j l.length with hlt | hge
  · have q1 := dlt hlt
    obtain ⟨x, x1, x2, x3⟩ := ints_get hlt
    obtain ⟨y, y1, y2, y3⟩ := ints_get (show j < m.length by omega)
    by_cases hxy : x = y
    · have d4 := ibne' hxy
      simp only [↓wpre, wset, wcore, wext, ne_eq, if_true, if_false, exists_eq_left', true_implies, false_implies, exists_const, exists_eq_right, binA, intA, loadA, storeA, pickC, setAt, mapO, argsE, X.isC, resA, oneA, unA, boundA, eqiA, eqsA, fillA, fillE, ASt.fz, strA, simprocAttr, e0, e1, e12, e13, q1, hal, hbl, x3, y3, d4]
      exact EQ_in ⟨j + 1, by omega, e0, e1, e12, next_ixv (by omega), by omega, take_eq hr x1 (by rw [y1, hxy])⟩
    · have d4 := ibne hxy
      have dd : decide (l = m) = false := decide_eq_false (get_ne x1 y1 hxy)
      simp only [↓wpre, wset, wcore, wext, ne_eq, if_true, if_false, exists_eq_left', true_implies, false_implies, exists_const, exists_eq_right, binA, intA, loadA, storeA, pickC, setAt, mapO, argsE, X.isC, resA, oneA, unA, boundA, eqiA, eqsA, fillA, fillE, ASt.fz, strA, simprocAttr, e0, e1, e12, e13, q1, hal, hbl, x3, y3, d4, dd]
  · have q1 := dltf hge
    have dd : decide (l = m) = true := decide_eq_true (take_all hr (by omega) (by omega))
    simp only [↓wpre, wset, wcore, wext, ne_eq, if_true, if_false, exists_eq_left', true_implies, false_implies, exists_const, exists_eq_right, binA, intA, loadA, storeA, pickC, setAt, mapO, argsE, X.isC, resA, oneA, unA, boundA, eqiA, eqsA, fillA, fillE, ASt.fz, strA, simprocAttr, e0, e1, e12, e13, q1, dd]
end Go.Proofs.Eng
