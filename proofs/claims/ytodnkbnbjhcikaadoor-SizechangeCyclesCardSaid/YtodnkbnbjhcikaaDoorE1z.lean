/- slices.Concat, and the numbers of a call. No conditions beyond those in the theorems. -/
import Derived.Test.YtodnkbnbjhcikaaDoorPfZ
import Derived.Test.YtodnkbnbjhcikaaDoorD22
set_option linter.all false
set_option linter.deprecated false
set_option linter.unnecessarySimpa false
set_option linter.unusedVariables false
set_option linter.unusedSimpArgs false
set_option linter.defProp false
namespace Go.Proofs.Eng.Z
open Go Go.Proofs Go.Proofs.Eng
set_option maxRecDepth 100000
set_option maxHeartbeats 16000000
theorem grow_call {n : Nat} (h : 1 ≤ n ∧ n ≤ 1073741824) (H : List AObj) (T : List Nat) (K KP : AV → ASt → Prop) : CW (run md pfs) md false ⟨H, T⟩ 63 [.sl [] .nil, .int (n : Nat)] K KP () = K (.sl [] (.tls T.length 0 1)) ⟨H, T ++ [0]⟩ := by
  have hm : md 63 = .raw := rfl
  have hv : growO [.sl [] .nil, .int (n : Nat)] ⟨H, T⟩ = some (.sl [] (.tls T.length 0 1), ⟨H, T ++ [0]⟩) := by
    simp only [growO]
    rw [if_pos (by omega)]
  have := run_ora (md := md) (pfs := pfs) (f := 63) (pf := ⟨0, [], .ora growO⟩) (o := growO) (by unfold pfs; simp) rfl hv
  simp [CW, callA, hm, this]
theorem concat_ret {rows : List (List Int)} {al : List AV} {t : Tl} (h : LIs RowIs rows al) (h0 : 0 < rows.flatten.length) (h1 : rows.flatten.length ≤ 1000) (hl : al.length ≤ lenB) : Out md pfs 50 [.sl al t] (fun v => ∃ t', v = .sl (ints rows.flatten) t' ∧ t'.pure = true) fun _ => False := by
  have hall := rows_all h
  refine out_of pf50_is (Nat.le_of_ble_eq_true rfl) ?_
  simp only [pf50, ↓wpre, wset, wcore, wext, ne_eq, if_true, if_false, exists_eq_left', true_implies, false_implies, exists_const, exists_eq_right, binA, intA, loadA, storeA, pickC, setAt, mapO, argsE, X.isC, resA, oneA, unA, boundA, eqiA, eqsA, fillA, fillE, ASt.fz, strA, simprocAttr]
  refine W_loopE (fun j => al.length - j) (fun j E H T => E 0 = .sl al t ∧ E 9 = .sl al t ∧ E 10 = .int al.length ∧ E 11 = .int (j : Nat) ∧ E 3 = .int ((rows.take j).flatten.length : Nat) ∧ j ≤ al.length) ?_ 0 ⟨rfl, rfl, rfl, rfl, rfl, Nat.zero_le _⟩
  rintro j E H T ⟨e0, e9, e10, e11, e3, hj⟩
  rcases Nat.lt_or_ge j al.length with hlt | hge
  · have hdec : decide ((j : Int) < al.length) = true := by simpa using hlt
    obtain ⟨x, tx, g1, g2, g3, g4, g5, g6⟩ := row_get h hlt
    have hx := flt_take g1
    have hle := flt_take_le (rows := rows) (j + 1)
    rw [hx, List.length_append] at hle
    have hw : IntKind.i64.wrap (((rows.take j).flatten.length : Nat) + (x.length : Nat) : Int) = ((rows.take (j + 1)).flatten.length : Nat) := by
      rw [wrap_in (by unfold in64; omega), hx, List.length_append]; omega
    have hneg : decide ((((rows.take (j + 1)).flatten.length : Nat) : Int) < 0) = false := by simp only [decide_eq_false_iff_not]; omega
    simp only [↓wpre, wset, wcore, wext, ne_eq, if_true, if_false, exists_eq_left', true_implies, false_implies, exists_const, exists_eq_right, binA, intA, loadA, storeA, pickC, setAt, mapO, argsE, X.isC, resA, oneA, unA, boundA, eqiA, eqsA, fillA, fillE, ASt.fz, strA, simprocAttr, e0, e9, e10, e11, e3, hdec, g3, hall, ints_len, hw, hneg]
    exact EQ_in ⟨j + 1, by omega, e0, e9, e10, next_ixv (by omega), rfl, by omega⟩
  · have hdec : decide ((j : Int) < al.length) = false := by simpa using hge
    have hlr := h.len
    rw [List.take_of_length_le (by omega)] at e3
    have cg := grow_call (n := rows.flatten.length) ⟨h0, by omega⟩ H T
    simp only [↓wpre, wset, wcore, wext, ne_eq, if_true, if_false, exists_eq_left', true_implies, false_implies, exists_const, exists_eq_right, binA, intA, loadA, storeA, pickC, setAt, mapO, argsE, X.isC, resA, oneA, unA, boundA, eqiA, eqsA, fillA, fillE, ASt.fz, strA, simprocAttr, e0, e9, e10, e11, e3, hdec, cg]
    refine W_loopE (fun j => al.length - j) (fun j E H T => E 25 = .sl al t ∧ E 26 = .int al.length ∧ E 27 = .int (j : Nat) ∧ (∃ id v, E 6 = .sl (ints (rows.take j).flatten) (.tls id v 1) ∧ T[id]? = some v) ∧ j ≤ al.length) ?_ 0 ⟨rfl, rfl, rfl, ⟨_, _, rfl, by simp⟩, Nat.zero_le _⟩
    clear e0 e9 e10 e11 e3 hdec hj hge cg E H T j
    rintro j E H T ⟨e25, e26, e27, ⟨id, v, e6, hT⟩, hj⟩
    rcases Nat.lt_or_ge j al.length with hlt | hge
    · have hdec : decide ((j : Int) < al.length) = true := by simpa using hlt
      obtain ⟨x, tx, g1, g2, g3, g4, g5, g6⟩ := row_get h hlt
      have hx := flt_take g1
      have hle := flt_take_le (rows := rows) (j + 1)
      rw [hx, List.length_append] at hle
      have ha : ∃ v' T', appA ⟨H, T⟩ 1 none (ints (rows.take j).flatten) (.tls id v 1) (ints x) = some (.sl (ints (rows.take (j + 1)).flatten) (.tls id v' 1), ⟨H, T'⟩) ∧ T'[id]? = some v' := by
        cases x with
        | nil => exact ⟨v, T, by simp [appA, ints, hx], hT⟩
        | cons n x =>
          refine ⟨v + 1, T.set id (v + 1), ?_, by rw [List.getElem?_set_self (List.getElem?_eq_some_iff.1 hT).1]⟩
          rw [hx, ints_app]
          have k1 := ints_all (rows.take j).flatten
          have k2 := ints_all2 (n :: x)
          simp only [ints, List.map_cons] at k2 ⊢
          rw [appA, if_pos ⟨by simp only [List.length_map, List.length_cons] at hle ⊢; omega, by simpa [ints] using k1, by simpa using k2⟩]
          simp [hT]
      obtain ⟨v', T', ha, hT'⟩ := ha
      simp only [↓wpre, wset, wcore, wext, ne_eq, if_true, if_false, exists_eq_left', true_implies, false_implies, exists_const, exists_eq_right, binA, intA, loadA, storeA, pickC, setAt, mapO, argsE, X.isC, resA, oneA, unA, boundA, eqiA, eqsA, fillA, fillE, ASt.fz, strA, simprocAttr, e25, e26, e27, e6, hdec, g3, hall, ha]
      exact EQ_in ⟨j + 1, by omega, e25, e26, next_ixv (by omega), ⟨_, _, rfl, hT'⟩, by omega⟩
    · have hdec : decide ((j : Int) < al.length) = false := by simpa using hge
      rw [List.take_of_length_le (by omega)] at e6
      simp only [↓wpre, wset, wcore, wext, ne_eq, if_true, if_false, exists_eq_left', true_implies, false_implies, exists_const, exists_eq_right, binA, intA, loadA, storeA, pickC, setAt, mapO, argsE, X.isC, resA, oneA, unA, boundA, eqiA, eqsA, fillA, fillE, ASt.fz, strA, simprocAttr, e25, e26, e27, e6, hdec]
      exact ⟨_, pz_ints, _, rfl, strip_pure _⟩
theorem nan_ret {n : Int} : Out md pfs 77 [.int n] (· = .bool false) fun _ => False := by
  refine out_of pf77_is (Nat.le_of_ble_eq_true rfl) ?_
  have h : (n != n) = false := by simp
  simp only [pf77, ↓wpre, wset, wcore, wext, ne_eq, if_true, if_false, exists_eq_left', true_implies, false_implies, exists_const, exists_eq_right, binA, intA, loadA, storeA, pickC, setAt, mapO, argsE, X.isC, resA, oneA, unA, boundA, eqiA, eqsA, fillA, fillE, ASt.fz, strA, simprocAttr, h]
theorem cmpI_ret {m n : Int} : Out md pfs 62 [.int m, .int n] (· = .int (if m < n then -1 else if n < m then 1 else 0)) fun _ => False := by
  refine out_of pf62_is (Nat.le_of_ble_eq_true rfl) ?_
  obtain ⟨_, rfl, c1⟩ := (nan_ret (n := m)).call rfl (by simp [pvs_cons, pvs_nil, pv_v])
  obtain ⟨_, rfl, c2⟩ := (nan_ret (n := n)).call rfl (by simp [pvs_cons, pvs_nil, pv_v])
  by_cases h1 : m < n
  · simp only [pf62, ↓wpre, wset, wcore, wext, ne_eq, if_true, if_false, exists_eq_left', true_implies, false_implies, exists_const, exists_eq_right, binA, intA, loadA, storeA, pickC, setAt, mapO, argsE, X.isC, resA, oneA, unA, boundA, eqiA, eqsA, fillA, fillE, ASt.fz, strA, simprocAttr, c1, c2, decide_eq_true h1, h1]
  · by_cases h2 : n < m
    · simp only [pf62, ↓wpre, wset, wcore, wext, ne_eq, if_true, if_false, exists_eq_left', true_implies, false_implies, exists_const, exists_eq_right, binA, intA, loadA, storeA, pickC, setAt, mapO, argsE, X.isC, resA, oneA, unA, boundA, eqiA, eqsA, fillA, fillE, ASt.fz, strA, simprocAttr, c1, c2, decide_eq_false h1, h1, gt_iff_lt, decide_eq_true h2, h2]
    · simp only [pf62, ↓wpre, wset, wcore, wext, ne_eq, if_true, if_false, exists_eq_left', true_implies, false_implies, exists_const, exists_eq_right, binA, intA, loadA, storeA, pickC, setAt, mapO, argsE, X.isC, resA, oneA, unA, boundA, eqiA, eqsA, fillA, fillE, ASt.fz, strA, simprocAttr, c1, c2, decide_eq_false h1, h1, gt_iff_lt, decide_eq_false h2, h2]
theorem entries_ret {c : Cl} {a : AV} (h : ClIs c a) (hs : Sm c) : Out md pfs 36 [a] (fun v => ∃ t', v = .sl (ints (entL c)) t' ∧ t'.pure = true) fun _ => False := by
  obtain ⟨al, t, rfl, h1, h2, h3, h4, h5⟩ := h.of
  refine out_of pf36_is (Nat.le_of_ble_eq_true rfl) ?_
  have ht := hs.tot
  obtain ⟨_, ⟨t', rfl, ht'⟩, cc⟩ := (concat_ret (t := t) h1 hs.pos (by omega) h3).call rfl (by simp [pvs_cons, pvs_nil, pv_sl, Tl.fast.pure h2, rowsPure h1])
  simp only [pf36, ↓wpre, wset, wcore, wext, ne_eq, if_true, if_false, exists_eq_left', true_implies, false_implies, exists_const, exists_eq_right, binA, intA, loadA, storeA, pickC, setAt, mapO, argsE, X.isC, resA, oneA, unA, boundA, eqiA, eqsA, fillA, fillE, ASt.fz, strA, simprocAttr, cc]
  exact ⟨_, app_new (l := [c.f, c.t]) hs.pos (by simp only [List.length_cons, List.length_nil]; omega) (by have := hs.pos; simp only [List.length_cons, List.length_nil]; omega), _, pz_ints, _, rfl, strip_pure _⟩
theorem compare_ret {l m : List Int} {t u : Tl} (hl : l.length ≤ lenB) (hm : m.length ≤ lenB) : Out md pfs 48 [.sl (ints l) t, .sl (ints m) u] (· = .int (cmpS l m)) fun _ => False := by
  refine out_of pf48_is (Nat.le_of_ble_eq_true rfl) ?_
  simp only [pf48, ↓wpre, wset, wcore, wext, ne_eq, if_true, if_false, exists_eq_left', true_implies, false_implies, exists_const, exists_eq_right, binA, intA, loadA, storeA, pickC, setAt, mapO, argsE, X.isC, resA, oneA, unA, boundA, eqiA, eqsA, fillA, fillE, ASt.fz, strA, simprocAttr, ints_len]
  refine W_loopE (fun j => l.length - j) (fun j E H T => E 0 = .sl (ints l) t ∧ E 1 = .sl (ints m) u ∧ E 9 = .sl (ints l) t ∧ E 10 = .int l.length ∧ E 11 = .int (j : Nat) ∧ j ≤ l.length ∧ j ≤ m.length ∧ cmpS l m = cmpS (l.drop j) (m.drop j)) ?_ 0 ⟨rfl, rfl, rfl, rfl, rfl, Nat.zero_le _, Nat.zero_le _, by simp⟩
  rintro j E H T ⟨e0, e1, e9, e10, e11, hj, hjm, hc⟩
  have hal := ints_all l
  have ham := ints_all m
  rcases Nat.lt_or_ge j l.length with hlt | hge
  · have hdec : decide ((j : Int) < l.length) = true := by simpa using hlt
    obtain ⟨x, x1, x2, x3⟩ := ints_get hlt
    rcases Nat.lt_or_ge j m.length with hmt | hmg
    · have hdm : decide ((j : Int) ≥ m.length) = false := by simp only [decide_eq_false_iff_not]; omega
      obtain ⟨y, y1, y2, y3⟩ := ints_get hmt
      obtain ⟨_, rfl, cc⟩ := (cmpI_ret (m := x) (n := y)).call rfl (by simp [pvs_cons, pvs_nil, pv_v])
      rw [x2, y2, cmpS] at hc
      by_cases h1 : x < y
      · rw [if_pos h1] at hc cc
        have hn : ((-1 : Int) != 0) = true := rfl
        simp only [↓wpre, wset, wcore, wext, ne_eq, if_true, if_false, exists_eq_left', true_implies, false_implies, exists_const, exists_eq_right, binA, intA, loadA, storeA, pickC, setAt, mapO, argsE, X.isC, resA, oneA, unA, boundA, eqiA, eqsA, fillA, fillE, ASt.fz, strA, simprocAttr, e0, e1, e9, e10, e11, hdec, hdm, x3, y3, hal, ham, ints_len, cc, hn, hc]
      · rw [if_neg h1] at hc cc
        by_cases h2 : y < x
        · rw [if_pos h2] at hc cc
          have hn : ((1 : Int) != 0) = true := rfl
          simp only [↓wpre, wset, wcore, wext, ne_eq, if_true, if_false, exists_eq_left', true_implies, false_implies, exists_const, exists_eq_right, binA, intA, loadA, storeA, pickC, setAt, mapO, argsE, X.isC, resA, oneA, unA, boundA, eqiA, eqsA, fillA, fillE, ASt.fz, strA, simprocAttr, e0, e1, e9, e10, e11, hdec, hdm, x3, y3, hal, ham, ints_len, cc, hn, hc]
        · rw [if_neg h2] at hc cc
          have hn : ((0 : Int) != 0) = false := rfl
          simp only [↓wpre, wset, wcore, wext, ne_eq, if_true, if_false, exists_eq_left', true_implies, false_implies, exists_const, exists_eq_right, binA, intA, loadA, storeA, pickC, setAt, mapO, argsE, X.isC, resA, oneA, unA, boundA, eqiA, eqsA, fillA, fillE, ASt.fz, strA, simprocAttr, e0, e1, e9, e10, e11, hdec, hdm, x3, y3, hal, ham, ints_len, cc, hn]
          exact EQ_in ⟨j + 1, by omega, e0, e1, e9, e10, next_ixv (by omega), by omega, by omega, hc⟩
    · have hdm : decide ((j : Int) ≥ m.length) = true := by simp only [decide_eq_true_eq]; omega
      rw [x2, List.drop_eq_nil_of_le hmg, cmpS] at hc
      simp only [↓wpre, wset, wcore, wext, ne_eq, if_true, if_false, exists_eq_left', true_implies, false_implies, exists_const, exists_eq_right, binA, intA, loadA, storeA, pickC, setAt, mapO, argsE, X.isC, resA, oneA, unA, boundA, eqiA, eqsA, fillA, fillE, ASt.fz, strA, simprocAttr, e0, e1, e9, e10, e11, hdec, hdm, x3, hal, ints_len, hc]
  · have hdec : decide ((j : Int) < l.length) = false := by simpa using hge
    rw [List.drop_eq_nil_of_le hge] at hc
    rcases Nat.lt_or_ge l.length m.length with hmt | hmg
    · have hd : decide ((l.length : Int) < m.length) = true := by simpa using hmt
      obtain ⟨y, y1, y2, y3⟩ := ints_get (show j < m.length by omega)
      rw [y2, cmpS] at hc
      simp only [↓wpre, wset, wcore, wext, ne_eq, if_true, if_false, exists_eq_left', true_implies, false_implies, exists_const, exists_eq_right, binA, intA, loadA, storeA, pickC, setAt, mapO, argsE, X.isC, resA, oneA, unA, boundA, eqiA, eqsA, fillA, fillE, ASt.fz, strA, simprocAttr, e0, e1, e9, e10, e11, hdec, ints_len, hd, hc]
    · have hd : decide ((l.length : Int) < m.length) = false := by simpa using hmg
      rw [List.drop_eq_nil_of_le (by omega), cmpS] at hc
      simp only [↓wpre, wset, wcore, wext, ne_eq, if_true, if_false, exists_eq_left', true_implies, false_implies, exists_const, exists_eq_right, binA, intA, loadA, storeA, pickC, setAt, mapO, argsE, X.isC, resA, oneA, unA, boundA, eqiA, eqsA, fillA, fillE, ASt.fz, strA, simprocAttr, e0, e1, e9, e10, e11, hdec, ints_len, hd, hc]
theorem cmp47_ret {c d : Cl} {a b : AV} (h : ClIs c a) (k : ClIs d b) (hc : Sm c) (hd : Sm d) : Out md pfs 47 [a, b] (· = .int (cmpS (entL c) (entL d))) fun _ => False := by
  obtain ⟨al, t, rfl, _⟩ := h.of
  obtain ⟨bl, u, rfl, _⟩ := k.of
  refine out_of pf47_is (Nat.le_of_ble_eq_true rfl) ?_
  obtain ⟨_, ⟨t1, rfl, p1⟩, c1⟩ := (entries_ret h hc).call rfl (by simp [pvs_cons, pvs_nil, h.pure])
  obtain ⟨_, ⟨t2, rfl, p2⟩, c2⟩ := (entries_ret k hd).call rfl (by simp [pvs_cons, pvs_nil, k.pure])
  have l1 := hc.tot
  have l2 := hd.tot
  obtain ⟨_, rfl, c3⟩ := (compare_ret (l := entL c) (m := entL d) (t := t1) (u := t2) (by unfold entL lenB; simp only [List.length_cons]; omega) (by unfold entL lenB; simp only [List.length_cons]; omega)).call rfl (by simp [pvs_cons, pvs_nil, pv_sl, p1, p2, ints_pure])
  simp only [pf47, ↓wpre, wset, wcore, wext, ne_eq, if_true, if_false, exists_eq_left', true_implies, false_implies, exists_const, exists_eq_right, binA, intA, loadA, storeA, pickC, setAt, mapO, argsE, X.isC, resA, oneA, unA, boundA, eqiA, eqsA, fillA, fillE, ASt.fz, strA, simprocAttr, c1, c2, c3]
end Go.Proofs.Eng.Z
