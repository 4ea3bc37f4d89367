/- Rows that are composed: plain lists. No conditions beyond those in the theorems. -/
import Derived.Test.YtodnkbnbjhcikaaDoorD22
import Derived.Test.YtodnkbnbjhcikaaDoorKO
set_option linter.all false
set_option linter.deprecated false
set_option linter.unnecessarySimpa false
set_option linter.unusedVariables false
set_option linter.unusedSimpArgs false
set_option linter.defProp false
namespace Go.Proofs.Eng.Z
open Go Go.Proofs Go.Proofs.Eng
set_option maxRecDepth 100000
set_option maxHeartbeats 16000000
theorem grow_call {n : Nat} (h : 1 ≤ n ∧ n ≤ 1073741824) (H : List AObj) (T : List Nat) (K KP : AV → ASt → Prop) : CW (run md pfs) md false ⟨H, T⟩ 63 [.sl [] .nil, .int (n : Nat)] K KP () = K (.sl [] (.tls T.length 0 1)) ⟨H, T ++ [0]⟩ := by
  have hm : md 63 = .raw := rfl
  have hv : growO [.sl [] .nil, .int (n : Nat)] ⟨H, T⟩ = some (.sl [] (.tls T.length 0 1), ⟨H, T ++ [0]⟩) := by
    simp only [growO]
    rw [if_pos (by omega)]
  have := run_ora (md := md) (pfs := pfs) (f := 63) (pf := ⟨0, [], .ora growO⟩) (o := growO) (by unfold pfs; simp) rfl hv
  simp [CW, callA, hm, this]
theorem concat_ret {rows : List (List Int)} {al : List AV} {t : Tl} (h : LIs RowIs rows al) (h0 : 0 < rows.flatten.length) (h1 : rows.flatten.length ≤ 1000) (hl : al.length ≤ lenB) : Out md pfs 50 [.sl al t] (fun v => ∃ t', v = .sl (ints rows.flatten) t' ∧ t'.pure = true) fun _ => False := by
  have hall := rows_all h
  refine out_of pf50_is (Nat.le_of_ble_eq_true rfl) ?_
  simp only [pf50, ↓wpre, wset, wcore, wext, ne_eq, if_true, if_false, exists_eq_left', true_implies, false_implies, exists_const, exists_eq_right, binA, intA, loadA, storeA, pickC, setAt, mapO, argsE, X.isC, resA, oneA, unA, boundA, eqiA, eqsA, fillA, fillE, ASt.fz, strA, simprocAttr]
  refine W_loopE (fun j => al.length - j) (fun j E H T => E 0 = .sl al t ∧ E 9 = .sl al t ∧ E 10 = .int al.length ∧ E 11 = .int (j : Nat) ∧ E 3 = .int ((rows.take j).flatten.length : Nat) ∧ j ≤ al.length) ?_ 0 ⟨rfl, rfl, rfl, rfl, rfl, Nat.zero_le _⟩
  rintro j E H T ⟨e0, e9, e10, e11, e3, hj⟩
  rcases Nat.lt_or_ge j al.length with hlt | hge
  · have hdec : decide ((j : Int) < al.length) = true := by simpa using hlt
    obtain ⟨x, tx, g1, g2, g3, g4, g5, g6⟩ := row_get h hlt
    have hx := flt_take g1
    have hle := flt_take_le (rows := rows) (j + 1)
    rw [hx, List.length_append] at hle
    have hw : IntKind.i64.wrap (((rows.take j).flatten.length : Nat) + (x.length : Nat) : Int) = ((rows.take (j + 1)).flatten.length : Nat) := by
      rw [wrap_in (by unfold in64; omega), hx, List.length_append]; omega
    have hneg : decide ((((rows.take (j + 1)).flatten.length : Nat) : Int) < 0) = false := by simp only [decide_eq_false_iff_not]; omega
    simp only [↓wpre, wset, wcore, wext, ne_eq, if_true, if_false, exists_eq_left', true_implies, false_implies, exists_const, exists_eq_right, binA, intA, loadA, storeA, pickC, setAt, mapO, argsE, X.isC, resA, oneA, unA, boundA, eqiA, eqsA, fillA, fillE, ASt.fz, strA, simprocAttr, e0, e9, e10, e11, e3, hdec, g3, hall, ints_len, hw, hneg]
    exact EQ_in ⟨j + 1, by omega, e0, e9, e10, next_ixv (by omega), rfl, by omega⟩
  · have hdec : decide ((j : Int) < al.length) = false := by simpa using hge
    have hlr := h.len
    rw [List.take_of_length_le (by omega)] at e3
    have cg := grow_call (n := rows.flatten.length) ⟨h0, by omega⟩ H T
    simp only [↓wpre, wset, wcore, wext, ne_eq, if_true, if_false, exists_eq_left', true_implies, false_implies, exists_const, exists_eq_right, binA, intA, loadA, storeA, pickC, setAt, mapO, argsE, X.isC, resA, oneA, unA, boundA, eqiA, eqsA, fillA, fillE, ASt.fz, strA, simprocAttr, e0, e9, e10, e11, e3, hdec, cg]
    refine W_loopE (fun j => al.length - j) (fun j E H T => E 25 = .sl al t ∧ E 26 = .int al.length ∧ E 27 = .int (j : Nat) ∧ (∃ id v, E 6 = .sl (ints (rows.take j).flatten) (.tls id v 1) ∧ T[id]? = some v) ∧ j ≤ al.length) ?_ 0 ⟨rfl, rfl, rfl, ⟨_, _, rfl, by simp⟩, Nat.zero_le _⟩
    clear e0 e9 e10 e11 e3 hdec hj hge cg E H T j
    rintro j E H T ⟨e25, e26, e27, ⟨id, v, e6, hT⟩, hj⟩
    rcases Nat.lt_or_ge j al.length with hlt | hge
    · have hdec : decide ((j : Int) < al.length) = true := by simpa using hlt
      obtain ⟨x, tx, g1, g2, g3, g4, g5, g6⟩ := row_get h hlt
      have hx := flt_take g1
      have hle := flt_take_le (rows := rows) (j + 1)
      rw [hx, List.length_append] at hle
      have ha : ∃ v' T', appA ⟨H, T⟩ 1 none (ints (rows.take j).flatten) (.tls id v 1) (ints x) = some (.sl (ints (rows.take (j + 1)).flatten) (.tls id v' 1), ⟨H, T'⟩) ∧ T'[id]? = some v' := by
        cases x with
        | nil => exact ⟨v, T, by simp [appA, ints, hx], hT⟩
        | cons n x =>
          refine ⟨v + 1, T.set id (v + 1), ?_, by rw [List.getElem?_set_self (List.getElem?_eq_some_iff.1 hT).1]⟩
          rw [hx, ints_app]
          have k1 := ints_all (rows.take j).flatten
          have k2 := ints_all2 (n :: x)
          simp only [ints, List.map_cons] at k2 ⊢
          rw [appA, if_pos ⟨by simp only [List.length_map, List.length_cons] at hle ⊢; omega, by simpa [ints] using k1, by simpa using k2⟩]
          simp [hT]
      obtain ⟨v', T', ha, hT'⟩ := ha
      simp only [↓wpre, wset, wcore, wext, ne_eq, if_true, if_false, exists_eq_left', true_implies, false_implies, exists_const, exists_eq_right, binA, intA, loadA, storeA, pickC, setAt, mapO, argsE, X.isC, resA, oneA, unA, boundA, eqiA, eqsA, fillA, fillE, ASt.fz, strA, simprocAttr, e25, e26, e27, e6, hdec, g3, hall, ha]
      exact EQ_in ⟨j + 1, by omega, e25, e26, next_ixv (by omega), ⟨_, _, rfl, hT'⟩, by omega⟩
    · have hdec : decide ((j : Int) < al.length) = false := by simpa using hge
      rw [List.take_of_length_le (by omega)] at e6
      simp only [↓wpre, wset, wcore, wext, ne_eq, if_true, if_false, exists_eq_left', true_implies, false_implies, exists_const, exists_eq_right, binA, intA, loadA, storeA, pickC, setAt, mapO, argsE, X.isC, resA, oneA, unA, boundA, eqiA, eqsA, fillA, fillE, ASt.fz, strA, simprocAttr, e25, e26, e27, e6, hdec]
      exact ⟨_, pz_ints, _, rfl, strip_pure _⟩
theorem nan_ret {n : Int} : Out md pfs 77 [.int n] (· = .bool false) fun _ => False := by
  refine out_of pf77_is (Nat.le_of_ble_eq_true rfl) ?_
  have h : (n != n) = false := by simp
  simp only [pf77, ↓wpre, wset, wcore, wext, ne_eq, if_true, if_false, exists_eq_left', true_implies, false_implies, exists_const, exists_eq_right, binA, intA, loadA, storeA, pickC, setAt, mapO, argsE, X.isC, resA, oneA, unA, boundA, eqiA, eqsA, fillA, fillE, ASt.fz, strA, simprocAttr, h]
theorem cmpI_ret {m n : Int} : Out md pfs 62 [.int m, .int n] (· = .int (if m < n then -1 else if n < m then 1 else 0)) fun _ => False := by
  refine out_of pf62_is (Nat.le_of_ble_eq_true rfl) ?_
  obtain ⟨_, rfl, c1⟩ := (nan_ret (n := m)).call rfl (by simp [pvs_cons, pvs_nil, pv_v])
  obtain ⟨_, rfl, c2⟩ := (nan_ret (n := n)).call rfl (by simp [pvs_cons, pvs_nil, pv_v])
  by_cases h1 : m < n
  · simp only [pf62, ↓wpre, wset, wcore, wext, ne_eq, if_true, if_false, exists_eq_left', true_implies, false_implies, exists_const, exists_eq_right, binA, intA, loadA, storeA, pickC, setAt, mapO, argsE, X.isC, resA, oneA, unA, boundA, eqiA, eqsA, fillA, fillE, ASt.fz, strA, simprocAttr, c1, c2, decide_eq_true h1, h1]
  · by_cases h2 : n < m
    · simp only [pf62, ↓wpre, wset, wcore, wext, ne_eq, if_true, if_false, exists_eq_left', true_implies, false_implies, exists_const, exists_eq_right, binA, intA, loadA, storeA, pickC, setAt, mapO, argsE, X.isC, resA, oneA, unA, boundA, eqiA, eqsA, fillA, fillE, ASt.fz, strA, simprocAttr, c1, c2, decide_eq_false h1, h1, gt_iff_lt, decide_eq_true h2, h2]
    · simp only [pf62, ↓wpre, wset, wcore, wext, ne_eq, if_true, if_false, exists_eq_left', true_implies, false_implies, exists_const, exists_eq_right, binA, intA, loadA, storeA, pickC, setAt, mapO, argsE, X.isC, resA, oneA, unA, boundA, eqiA, eqsA, fillA, fillE, ASt.fz, strA, simprocAttr, c1, c2, decide_eq_false h1, h1, gt_iff_lt, decide_eq_false h2, h2]
theorem entries_ret {c : Cl} {a : AV} (h : ClIs c a) (hs : Sm c) : Out md pfs 36 [a] (fun v => ∃ t', v = .sl (ints (entL c)) t' ∧ t'.pure = true) fun _ => False := by
  obtain ⟨al, t, rfl, h1, h2, h3, h4, h5⟩ := h.of
  refine out_of pf36_is (Nat.le_of_ble_eq_true rfl) ?_
  have ht := hs.tot
  obtain ⟨_, ⟨t', rfl, ht'⟩, cc⟩ := (concat_ret (t := t) h1 hs.pos (by omega) h3).call rfl (by simp [pvs_cons, pvs_nil, pv_sl, Tl.fast.pure h2, rowsPure h1])
  simp only [pf36, ↓wpre, wset, wcore, wext, ne_eq, if_true, if_false, exists_eq_left', true_implies, false_implies, exists_const, exists_eq_right, binA, intA, loadA, storeA, pickC, setAt, mapO, argsE, X.isC, resA, oneA, unA, boundA, eqiA, eqsA, fillA, fillE, ASt.fz, strA, simprocAttr, cc]
  exact ⟨_, app_new (l := [c.f, c.t]) hs.pos (by simp only [List.length_cons, List.length_nil]; omega) (by have := hs.pos; simp only [List.length_cons, List.length_nil]; omega), _, pz_ints, _, rfl, strip_pure _⟩
theorem compare_ret {l m : List Int} {t u : Tl} (hl : l.length ≤ lenB) (hm : m.length ≤ lenB) : Out md pfs 48 [.sl (ints l) t, .sl (ints m) u] (· = .int (cmpS l m)) fun _ => False := by
  refine out_of pf48_is (Nat.le_of_ble_eq_true rfl) ?_
  simp only [pf48, ↓wpre, wset, wcore, wext, ne_eq, if_true, if_false, exists_eq_left', true_implies, false_implies, exists_const, exists_eq_right, binA, intA, loadA, storeA, pickC, setAt, mapO, argsE, X.isC, resA, oneA, unA, boundA, eqiA, eqsA, fillA, fillE, ASt.fz, strA, simprocAttr, ints_len]
  refine W_loopE (fun j => l.length - j) (fun j E H T => E 0 = .sl (ints l) t ∧ E 1 = .sl (ints m) u ∧ E 9 = .sl (ints l) t ∧ E 10 = .int l.length ∧ E 11 = .int (j : Nat) ∧ j ≤ l.length ∧ j ≤ m.length ∧ cmpS l m = cmpS (l.drop j) (m.drop j)) ?_ 0 ⟨rfl, rfl, rfl, rfl, rfl, Nat.zero_le _, Nat.zero_le _, by simp⟩
  rintro j E H T ⟨e0, e1, e9, e10, e11, hj, hjm, hc⟩
  have hal := ints_all l
  have ham := ints_all m
  rcases Nat.lt_or_ge j l.length with hlt | hge
  · have hdec : decide ((j : Int) < l.length) = true := by simpa using hlt
    obtain ⟨x, x1, x2, x3⟩ := ints_get hlt
    rcases Nat.lt_or_ge j m.length with hmt | hmg
    · have hdm : decide ((j : Int) ≥ m.length) = false := by simp only [decide_eq_false_iff_not]; omega
      obtain ⟨y, y1, y2, y3⟩ := ints_get hmt
      obtain ⟨_, rfl, cc⟩ := (cmpI_ret (m := x) (n := y)).call rfl (by simp [pvs_cons, pvs_nil, pv_v])
      rw [x2, y2, cmpS] at hc
      by_cases h1 : x < y
      · rw [if_pos h1] at hc cc
        have hn : ((-1 : Int) != 0) = true := rfl
        simp only [↓wpre, wset, wcore, wext, ne_eq, if_true, if_false, exists_eq_left', true_implies, false_implies, exists_const, exists_eq_right, binA, intA, loadA, storeA, pickC, setAt, mapO, argsE, X.isC, resA, oneA, unA, boundA, eqiA, eqsA, fillA, fillE, ASt.fz, strA, simprocAttr, e0, e1, e9, e10, e11, hdec, hdm, x3, y3, hal, ham, ints_len, cc, hn, hc]
      · rw [if_neg h1] at hc cc
        by_cases h2 : y < x
        · rw [if_pos h2] at hc cc
          have hn : ((1 : Int) != 0) = true := rfl
          simp only [↓wpre, wset, wcore, wext, ne_eq, if_true, if_false, exists_eq_left', true_implies, false_implies, exists_const, exists_eq_right, binA, intA, loadA, storeA, pickC, setAt, mapO, argsE, X.isC, resA, oneA, unA, boundA, eqiA, eqsA, fillA, fillE, ASt.fz, strA, simprocAttr, e0, e1, e9, e10, e11, hdec, hdm, x3, y3, hal, ham, ints_len, cc, hn, hc]
        · rw [if_neg h2] at hc cc
          have hn : ((0 : Int) != 0) = false := rfl
          simp only [↓wpre, wset, wcore, wext, ne_eq, if_true, if_false, exists_eq_left', true_implies, false_implies, exists_const, exists_eq_right, binA, intA, loadA, storeA, pickC, setAt, mapO, argsE, X.isC, resA, oneA, unA, boundA, eqiA, eqsA, fillA, fillE, ASt.fz, strA, simprocAttr, e0, e1, e9, e10, e11, hdec, hdm, x3, y3, hal, ham, ints_len, cc, hn]
          exact EQ_in ⟨j + 1, by omega, e0, e1, e9, e10, next_ixv (by omega), by omega, by omega, hc⟩
    · have hdm : decide ((j : Int) ≥ m.length) = true := by simp only [decide_eq_true_eq]; omega
      rw [x2, List.drop_eq_nil_of_le hmg, cmpS] at hc
      simp only [↓wpre, wset, wcore, wext, ne_eq, if_true, if_false, exists_eq_left', true_implies, false_implies, exists_const, exists_eq_right, binA, intA, loadA, storeA, pickC, setAt, mapO, argsE, X.isC, resA, oneA, unA, boundA, eqiA, eqsA, fillA, fillE, ASt.fz, strA, simprocAttr, e0, e1, e9, e10, e11, hdec, hdm, x3, hal, ints_len, hc]
  · have hdec : decide ((j : Int) < l.length) = false := by simpa using hge
    rw [List.drop_eq_nil_of_le hge] at hc
    rcases Nat.lt_or_ge l.length m.length with hmt | hmg
    · have hd : decide ((l.length : Int) < m.length) = true := by simpa using hmt
      obtain ⟨y, y1, y2, y3⟩ := ints_get (show j < m.length by omega)
      rw [y2, cmpS] at hc
      simp only [↓wpre, wset, wcore, wext, ne_eq, if_true, if_false, exists_eq_left', true_implies, false_implies, exists_const, exists_eq_right, binA, intA, loadA, storeA, pickC, setAt, mapO, argsE, X.isC, resA, oneA, unA, boundA, eqiA, eqsA, fillA, fillE, ASt.fz, strA, simprocAttr, e0, e1, e9, e10, e11, hdec, ints_len, hd, hc]
    · have hd : decide ((l.length : Int) < m.length) = false := by simpa using hmg
      rw [List.drop_eq_nil_of_le (by omega), cmpS] at hc
      simp only [↓wpre, wset, wcore, wext, ne_eq, if_true, if_false, exists_eq_left', true_implies, false_implies, exists_const, exists_eq_right, binA, intA, loadA, storeA, pickC, setAt, mapO, argsE, X.isC, resA, oneA, unA, boundA, eqiA, eqsA, fillA, fillE, ASt.fz, strA, simprocAttr, e0, e1, e9, e10, e11, hdec, ints_len, hd, hc]
theorem cmp47_ret {c d : Cl} {a b : AV} (h : ClIs c a) (k : ClIs d b) (hc : Sm c) (hd : Sm d) : Out md pfs 47 [a, b] (· = .int (cmpS (entL c) (entL d))) fun _ => False := by
  obtain ⟨al, t, rfl, _⟩ := h.of
  obtain ⟨bl, u, rfl, _⟩ := k.of
  refine out_of pf47_is (Nat.le_of_ble_eq_true rfl) ?_
  obtain ⟨_, ⟨t1, rfl, p1⟩, c1⟩ := (entries_ret h hc).call rfl (by simp [pvs_cons, pvs_nil, h.pure])
  obtain ⟨_, ⟨t2, rfl, p2⟩, c2⟩ := (entries_ret k hd).call rfl (by simp [pvs_cons, pvs_nil, k.pure])
  have l1 := hc.tot
  have l2 := hd.tot
  obtain ⟨_, rfl, c3⟩ := (compare_ret (l := entL c) (m := entL d) (t := t1) (u := t2) (by unfold entL lenB; simp only [List.length_cons]; omega) (by unfold entL lenB; simp only [List.length_cons]; omega)).call rfl (by simp [pvs_cons, pvs_nil, pv_sl, p1, p2, ints_pure])
  simp only [pf47, ↓wpre, wset, wcore, wext, ne_eq, if_true, if_false, exists_eq_left', true_implies, false_implies, exists_const, exists_eq_right, binA, intA, loadA, storeA, pickC, setAt, mapO, argsE, X.isC, resA, oneA, unA, boundA, eqiA, eqsA, fillA, fillE, ASt.fz, strA, simprocAttr, c1, c2, c3]
end Go.Proofs.Eng.Z
namespace Go.Proofs.Eng
open Go Go.Proofs Go.Shelf Go.RowKit
set_option maxRecDepth 100000
theorem hm : Tryd.prog.follows .mixedOrders = true := by kernel_rfl
def intOf : AV → Option Int
  | .v (.int .i64 n) => if -9223372036854775808 ≤ n ∧ n ≤ 9223372036854775807 then some n else none
  | _ => none
theorem intOf_some {a : AV} {n : Int} (h : intOf a = some n) : a = .int n ∧ -9223372036854775808 ≤ n ∧ n ≤ 9223372036854775807 := by
  unfold intOf at h
  split at h
  · split at h
    · simp only [Option.some.injEq] at h; subst h; exact ⟨rfl, ‹_›⟩
    · simp at h
  · simp at h
theorem intsOf_some : ∀ {l : List AV} {ns : List Int}, mapO intOf l = some ns → l = ints ns ∧ ∀ n ∈ ns, -9223372036854775808 ≤ n ∧ n ≤ 9223372036854775807
  | [], ns, h => by simp only [mapO, Option.some.injEq] at h; subst h; exact ⟨rfl, by simp⟩
  | a :: l, ns, h => by
    simp only [mapO] at h
    split at h
    · rename_i n hn
      split at h
      · rename_i ms hms
        simp only [Option.some.injEq] at h; subst h
        obtain ⟨h1, h2⟩ := intOf_some hn
        obtain ⟨h3, h4⟩ := intsOf_some hms
        refine ⟨by rw [h1, h3]; rfl, fun m hm => ?_⟩
        rcases List.mem_cons.1 hm with rfl | hm
        · exact h2
        · exact h4 m hm
      · simp at h
    · simp at h
theorem flat_ints : ∀ (ns : List Int), flat (ints ns) = ints ns
  | [] => rfl
  | n :: ns => by
    have := flat_ints ns
    simp only [ints, List.map_cons] at this ⊢
    rw [flat_cons, this]; rfl
theorem intsOf {l : List Int} (h : ∀ n ∈ l, in64 n) : mapO intOf (ints l) = some l := by
  induction l with
  | nil => rfl
  | cons n l ih =>
    have h1 := ih fun m hm => h m (by simp [hm])
    have h2 := h n (by simp)
    unfold in64 at h2
    simp only [ints] at h1 ⊢
    simp only [List.map_cons, mapO, h1, intOf]
    rw [if_pos h2]
def rowOf : AV → Option (List Int)
  | .sl l t => if t.fast = true ∧ l.length ≤ 16 then mapO intOf l else none
  | _ => none
theorem rowOf_some {a : AV} {r : List Int} (h : rowOf a = some r) : RowIs r a ∧ r.length ≤ 16 := by
  unfold rowOf at h
  split at h
  · split at h
    · rename_i hc
      obtain ⟨rfl, h2⟩ := intsOf_some h
      rw [ints_len] at hc
      exact ⟨⟨_, rfl, hc.1, by unfold lenB; omega, h2⟩, hc.2⟩
    · simp at h
  · simp at h
theorem rowOf_is {a : AV} {r : List Int} (h : RowIs r a) (hr : r.length ≤ 16) : rowOf a = some r := by
  obtain ⟨t, rfl, h1, h2, h3⟩ := h.of
  simp only [rowOf]
  rw [if_pos ⟨h1, by rw [ints_len]; exact hr⟩, intsOf h3]
theorem rowsOf_some : ∀ {l : List AV} {m : List (List Int)}, mapO rowOf l = some m → LIs RowIs m l ∧ ∀ r ∈ m, r.length ≤ 16
  | [], m, h => by simp only [mapO, Option.some.injEq] at h; subst h; exact ⟨trivial, by simp⟩
  | a :: l, m, h => by
    simp only [mapO] at h
    split at h
    · rename_i r hr
      split at h
      · rename_i ms hms
        simp only [Option.some.injEq] at h; subst h
        obtain ⟨h1, h2⟩ := rowOf_some hr
        obtain ⟨h3, h4⟩ := rowsOf_some hms
        refine ⟨⟨h1, h3⟩, fun x hx => ?_⟩
        rcases List.mem_cons.1 hx with rfl | hx
        · exact h2
        · exact h4 x hx
      · simp at h
    · simp at h
theorem rowsOf_is : ∀ {l : List AV} {m : List (List Int)}, LIs RowIs m l → (∀ r ∈ m, r.length ≤ 16) → mapO rowOf l = some m
  | [], [], _, _ => rfl
  | [], _ :: _, h, _ => by simp [LIs] at h
  | _ :: _, [], h, _ => by simp [LIs] at h
  | a :: l, r :: m, h, hr => by
    simp only [LIs] at h
    simp only [mapO, rowOf_is h.1 (hr r (by simp)), rowsOf_is h.2 fun x hx => hr x (by simp [hx])]
def i64B (n : Int) : Bool := decide (-9223372036854775808 ≤ n) && decide (n ≤ 9223372036854775807)
theorem i64B_iff {n : Int} : i64B n = true ↔ in64 n := by simp [i64B, in64]
def clOf : AV → Option Cl
  | .agg [.v (.int .i64 f), .v (.int .i64 t), .sl l tl] => match mapO rowOf l with
    | some m => if tl.fast = true ∧ i64B f = true ∧ i64B t = true ∧ l.length ≤ 16 ∧ 0 < m.flatten.length then some ⟨f, t, m⟩ else none
    | none => none
  | _ => none
theorem clOf_some {a : AV} {c : Cl} (h : clOf a = some c) : ClIs c a ∧ Sm c := by
  unfold clOf at h
  split at h
  · split at h
    · rename_i m hm
      split at h
      · rename_i hc
        simp only [Option.some.injEq] at h; subst h
        obtain ⟨h1, h2, h3, h4, h5⟩ := hc
        obtain ⟨k1, k2⟩ := rowsOf_some hm
        exact ⟨⟨_, _, rfl, k1, h1, by unfold lenB; omega, i64B_iff.1 h2, i64B_iff.1 h3⟩, by rw [← k1.len]; exact h4, k2, h5⟩
      · simp at h
    · simp at h
  · simp at h
theorem clOf_is {a : AV} {c : Cl} (h : ClIs c a) (hs : Sm c) : clOf a = some c := by
  obtain ⟨al, t, rfl, h1, h2, h3, h4, h5⟩ := h.of
  simp only [clOf, rowsOf_is h1 hs.cols]
  rw [if_pos ⟨h2, i64B_iff.2 h4, i64B_iff.2 h5, by rw [h1.len]; exact hs.rows, hs.pos⟩]
theorem ent_in {a : AV} {c : Cl} (h : ClIs c a) : ∀ n ∈ entL c, in64 n := by
  obtain ⟨al, t, rfl, h1, h2, h3, h4, h5⟩ := h.of
  have key : ∀ {m : List (List Int)} {al : List AV}, LIs RowIs m al → ∀ n ∈ m.flatten, in64 n := by
    intro m
    induction m with
    | nil => intro al _ n hn; simp at hn
    | cons r m ih =>
      intro al h n hn
      cases al with
      | nil => simp [LIs] at h
      | cons a al =>
        simp only [LIs] at h
        obtain ⟨_, _, _, _, h6⟩ := h.1.of
        rw [List.flatten_cons, List.mem_append] at hn
        rcases hn with hn | hn
        · exact h6 n hn
        · exact ih h.2 n hn
  intro n hn
  unfold entL at hn
  rcases List.mem_cons.1 hn with rfl | hn
  · exact h4
  · rcases List.mem_cons.1 hn with rfl | hn
    · exact h5
    · exact key h1 n hn
def strL (l : List UInt8) : ByteArray := ⟨l.toArray⟩
def keyO : List AV → ASt → Option (AV × ASt)
  | [a], s => (clOf a).map fun c => (.str (strL (textOf (entL c))), s)
  | _, _ => none
theorem pure_calls [DrK] {P : Program} {md : FuncId → Md} {pfs : FuncId → Option PF} (hS : Sound P (run md pfs)) {f : FuncId} {args : List AV} {PR : AV → Prop} (h : Out md pfs f args PR fun _ => False) (hmd : md f = .pure) (ha : pureAVs args = true) {g : Gh} {s : ASt} {w : World} {vs : List Value} (hI : Inv g s w) (hr : RepL g s w args vs) :
    Calls P f vs.toArray w fun e w' => ∃ v u, PR v ∧ e = .returned u ∧ Inv g s w' ∧ Ext g s w g s w' ∧ Rep g s w' v u := by
  obtain ⟨out, s', out', h1, h2, h3⟩ := h
  cases out' with
  | pan v => exact h3.elim
  | ret v =>
    have hc : callA (run md pfs) md true s f args = some (.ret v, s) := by simp [callA, hmd, ha, purify_all s ha, h1, h2, frz_all s ha]
    obtain ⟨_, hcalls⟩ := callA_sound hS hc hI hr
    refine hcalls.mono fun e w' ⟨g', hI', hE, hO, hg⟩ => ?_
    obtain rfl := hg rfl
    cases e with
    | returned u => exact ⟨v, u, h3, rfl, hI', hE, hO⟩
    | _ => exact hO.elim
theorem tab_of {g : Gh} {s : ASt} {w : World} (h : Inv g s w) {w' : World} (hb : Below w.heap.size w w') : Lib.TabIs Tryd.prog w' tabN .u64 Lib.pow10Tab := by
  obtain ⟨h1, _, t, z, h3⟩ := h.kn 0 rfl
  have e : Tryd.prog.globalNamed tabN = some 0 := by kernel_rfl
  unfold Lib.TabIs World.var?
  rw [e]
  simp only [Option.bind_some]
  rw [hb.block 0 h1, h3]
theorem key_ok : OraOK Tryd.prog 58 keyO := by
  intro args s v s' hv
  refine ⟨⟨_, _, Tryd.func58, rfl, by kernel_rfl⟩, fun g w vs hI hr => ?_⟩
  unfold keyO at hv
  split at hv
  · rename_i a _
    obtain ⟨c, hc, e⟩ := Option.map_eq_some_iff.1 hv
    simp only [Prod.mk.injEq] at e
    obtain ⟨rfl, rfl⟩ := e
    obtain ⟨hCl, hSm⟩ := clOf_some hc
    obtain ⟨u, us, rfl, hu, hnil⟩ := hr.cons_inv
    obtain rfl : us = [] := List.length_eq_zero_iff.1 hnil.1.symm
    obtain ⟨al, t, ha, k1, k2, k3, k4, k5⟩ := hCl.of
    subst ha
    obtain ⟨cs, rfl, hcs⟩ := hu.agg_inv
    obtain ⟨x, cs, rfl, hx, hcs⟩ := hcs.cons_inv
    obtain ⟨y, cs, rfl, hy, hcs⟩ := hcs.cons_inv
    obtain ⟨z, cs, rfl, hz, hcs⟩ := hcs.cons_inv
    obtain rfl : cs = [] := List.length_eq_zero_iff.1 hcs.1.symm
    have hto := hSm.tot
    have hlen : (entL c).length ≤ 300 := by unfold entL; simp only [List.length_cons]; omega
    have hin := ent_in hCl
    refine (key_walk (entL c) hin (by simp [entL]) (by omega) x y z w (fun w2 => Inv g s w2 ∧ Ext g s w g s w2) (fun w1 hb => ?_) ?_ ?_ ?_ (fun w2 h w' hb => tab_of h.1 hb)).mono fun e w' ⟨he, w2, ⟨hI2, hE2⟩, hbl⟩ => ?_
    · have hE1 : Ext g s w g s w1 := Ext.same hb.size hb.block hb.os hb.tape ⟨hb.output, fun d => d.elim⟩
      have hI1 := hI.keep hE1 fun b h => hb.block b (hI.has_lt h)
      refine (pure_calls (run_sound hm Z.pfsOK) (Z.entries_ret hCl hSm) rfl (by simp [pvs_cons, pvs_nil, hCl.pure]) hI1 (hr.mono hE1)).mono fun e w2 ⟨v, u, ⟨t', hv, _⟩, he, hI2, hE2, hR⟩ => ?_
      subst hv he
      refine ⟨?_, hI2, hE1.trans hE2⟩
      obtain ⟨a, cap, b, o, cs, rfl, h1, h2, h3, h4, _⟩ := hR.sl_inv
      rw [flat_ints] at h1
      have h5 := h3 (by simp [entL, ints])
      subst h5
      refine ⟨b, o, cap, by rw [ints_len], fun k n hk => ?_⟩
      have hlt := (List.getElem?_eq_some_iff.1 hk).1
      have hkc : k < cs.length := by rw [← h1.1, ints_len]; exact hlt
      have h5 := h1.2 k (.int n) cs[k] (by simp [ints, hk]) (List.getElem?_eq_getElem hkc)
      have h6 := (h2 k _ (List.getElem?_eq_getElem hkc)).1
      rw [h6, h5.v_inv]
    · rw [hx.v_inv]; rfl
    · rw [hy.v_inv]; rfl
    · obtain ⟨_, _, _, _, _, rfl, _⟩ := hz.sl_inv; rfl
    · subst he
      have hE : Ext g s w2 g s w' := Ext.same hbl.size hbl.block hbl.os hbl.tape ⟨hbl.output, fun d => d.elim⟩
      exact ⟨g, hI2.keep hE fun b h => hbl.block b (hI2.has_lt h), hE2.trans hE, .v rfl⟩
  · simp at hv
def splitN : Nat → Code → Option (Code × Code)
  | 0, c => some (.skip, c)
  | n + 1, .seq a b => (splitN n b).map fun (x, y) => (.seq a x, y)
  | _, _ => none
def itF (g : FuncId) (caps : List AV) (s : ASt) (i : Nat) : Option (Option (List AV)) :=
  if g = 59 then
    match caps with
    | [.ptr k 0] => match s.H[k]? with
      | some (.cells _ [.ptr j 0]) => match s.H[j]? with
        | some (.cells _ [_, .sl l _]) => if (l.all fun x => x.cells.length == 3) = true ∧ l.length ≤ 4000000000000000000 then (match l[i]? with | some (.agg c) => some (some [.agg c]) | some _ => none | none => if i = l.length then some none else none) else none
        | _ => none
      | _ => none
    | _ => none
  else none
end Go.Proofs.Eng
namespace Go.Proofs.Eng.F
open Go Go.Proofs Go.Proofs.Eng
def md (f : Nat) : Md := if f = 43 then .shared else if f = 45 then .raw else .pure
def bf : Bf := ⟨false, fun g => g == 43 || g == 45, itF⟩
noncomputable def pfs (f : Nat) : Option PF := if f = 58 then some ⟨0, [], .ora keyO⟩ else prepF Tryd.prog bf f
theorem pfsOK : PfsOK Tryd.prog pfs := fun f pf h => by
  unfold pfs at h
  split at h
  · rename_i hf
    subst hf
    simp only [Option.some.injEq] at h; subst h
    exact .inr (.inl ⟨_, rfl, key_ok⟩)
  · exact .inl ⟨_, h⟩
set_option maxRecDepth 100000
def pf37 : PF := ⟨79,[.c 4 true 3],.seq (.reg [⟨some 2,none,.box (.t 0),0,[]⟩,⟨some 3,none,.box (.t 1),0,[]⟩,⟨some 4,none,.alloc [.v (.int .i64 0),.v (.int .i64 0),.sl [] .nil],0,[]⟩])
  (.seq (.reg [⟨some 13,none,.faddr 0 (.t 2),0,[]⟩,⟨some 14,none,.load false 1 (.t 13),0,[]⟩,⟨some 15,none,.faddr 1 (.t 3),0,[]⟩,⟨some 16,none,.load false 1 (.t 15),0,[]⟩
 ,⟨some 17,none,.build [.v (.int .i64 0),.v (.int .i64 0),.sl [] .nil] [(0,1,.t 14),(1,1,.t 16)],0,[]⟩,⟨some 5,none,.alloc [.v (.int .i64 0),.v (.int .i64 0),.sl [] .nil]
 ,0,[]⟩,⟨none,none,.store 3 (.t 5) (.t 17),0,[]⟩]) (.seq (.seq (.reg [⟨some 18,none,.faddr 2 (.t 3),0,[]⟩,⟨some 19,none,.load false 1 (.t 18),0,[]⟩,⟨some 20,none,
 .lenS (.t 19),0,[]⟩,⟨some 21,none,.mov (.c (.v (.int .i64 0))),0,[]⟩]) (.block 0 (.loop (.seq (.reg [⟨some 22,none,.bin .lss (.t 21) (.t 20),0,[]⟩]) (.seq (.cond (.t 22)
  .skip (.exit 0)) (.seq (.block 1 (.seq (.reg [⟨some 23,none,.iaddr 1 (.t 19) (.t 21),0,[]⟩,⟨some 24,none,.load false 1 (.t 23),0,[]⟩,⟨some 7,none,.mov (.t 24),0,[]⟩])
  (.seq (.reg [⟨some 25,none,.faddr 2 (.t 2),0,[]⟩,⟨some 26,none,.load false 1 (.t 25),0,[]⟩,⟨some 27,none,.iaddr 1 (.t 26) (.c (.v (.int .i64 0))),0,[]⟩,⟨some 28,none,
 .load false 1 (.t 27),0,[]⟩,⟨some 29,none,.lenS (.t 28),0,[]⟩,⟨some 30,none,.mksl (.v (.int .i64 0)) 1 false (.t 29),0,[]⟩,⟨some 8,none,.mov (.t 30),0,[]⟩])
  (.seq (.seq (.reg [⟨some 31,none,.mov (.t 7),0,[]⟩,⟨some 32,none,.lenS (.t 31),0,[]⟩,⟨some 33,none,.mov (.c (.v (.int .i64 0))),0,[]⟩])
  (.block 2 (.loop (.seq (.reg [⟨some 34,none,.bin .lss (.t 33) (.t 32),0,[]⟩]) (.seq (.cond (.t 34) .skip (.exit 2)) (.seq (.block 3 (.seq (.reg [⟨some 35,none,
 .mov (.t 33),0,[]⟩,⟨some 36,none,.iaddr 1 (.t 31) (.t 33),0,[]⟩,⟨some 37,none,.load false 1 (.t 36),0,[]⟩,⟨some 9,none,.mov (.t 35),0,[]⟩,⟨some 10,none,.mov (.t 37),0,[]
 ⟩]) (.seq (.seq (.reg [⟨some 38,none,.mov (.t 10),0,[]⟩,⟨some 39,none,.bin .eql (.t 38) (.c (.v (.int .i64 0))),0,[]⟩]) (.cond (.t 39) (.exit 3) .skip))
  (.seq (.reg [⟨some 40,none,.faddr 2 (.t 2),0,[]⟩,⟨some 41,none,.load false 1 (.t 40),0,[]⟩,⟨some 42,none,.mov (.t 9),0,[]⟩,⟨some 43,none,.iaddr 1 (.t 41) (.t 42),0,[]⟩,
 ⟨some 44,none,.load false 1 (.t 43),0,[]⟩,⟨some 45,none,.lenS (.t 44),0,[]⟩,⟨some 46,none,.mov (.c (.v (.int .i64 0))),0,[]⟩]) (.block 4 (.loop (.seq (.reg [⟨some 47,
 none,.bin .lss (.t 46) (.t 45),0,[]⟩]) (.seq (.cond (.t 47) .skip (.exit 4)) (.seq (.block 5 (.seq (.reg [⟨some 48,none,.mov (.t 46),0,[]⟩,⟨some 49,none,.iaddr 1 (.t 44)
  (.t 46),0,[]⟩,⟨some 50,none,.load false 1 (.t 49),0,[]⟩,⟨some 11,none,.mov (.t 48),0,[]⟩,⟨some 12,none,.mov (.t 50),0,[]⟩]) (.seq (.reg [⟨some 51,none,.mov (.t 12),0,[]
 ⟩,⟨some 52,none,.bin .neq (.t 51) (.c (.v (.int .i64 0))),0,[]⟩,⟨some 53,none,.mov (.t 52),0,[]⟩,⟨some 54,some (53,true),.mov (.t 10),0,[]⟩,⟨some 55,some (53,true),
 .mov (.t 12),0,[]⟩,⟨some 56,some (53,true),.max (.t 54) (.t 55),0,[]⟩,⟨some 57,some (53,true),.mov (.t 8),0,[]⟩,⟨some 58,some (53,true),.mov (.t 11),0,[]⟩,⟨some 59,
 some (53,true),.iaddr 1 (.t 57) (.t 58),0,[]⟩,⟨some 60,some (53,true),.load false 1 (.t 59),0,[]⟩,⟨some 61,some (53,true),.bin .gtr (.t 56) (.t 60),0,[]⟩,⟨some 62,none,
 .pick (.t 53) (.t 61) (.c (.v (.bool false))),0,[]⟩]) (.cond (.t 62) (.reg [⟨some 63,none,.mov (.t 8),0,[]⟩,⟨some 64,none,.mov (.t 11),0,[]⟩,⟨some 65,none,.mov (.t 10),
 0,[]⟩,⟨some 66,none,.mov (.t 12),0,[]⟩,⟨some 67,none,.max (.t 65) (.t 66),0,[]⟩,⟨some 68,none,.iaddr 1 (.t 63) (.t 64),0,[]⟩,⟨none,none,.store 1 (.t 68) (.t 67),0,[]⟩])
  .skip)))) (.reg [⟨some 69,none,.bin .add (.t 46) (.c (.v (.int .i64 1))),0,[]⟩,⟨some 46,none,.mov (.t 69),0,[]⟩])))))))))) (.reg [⟨some 70,none,.bin .add (.t 33)
  (.c (.v (.int .i64 1))),0,[]⟩,⟨some 33,none,.mov (.t 70),0,[]⟩]))))))) (.reg [⟨some 71,none,.faddr 2 (.t 5),0,[]⟩,⟨some 72,none,.load false 1 (.t 71),0,[]⟩,⟨some 73,
 none,.mov (.t 8),0,[]⟩,⟨some 74,none,.bsl (.sl [] .nil) 1 [(0,1,.t 73)],0,[]⟩,⟨some 75,none,.app 1 none (.t 72) (.t 74),0,[]⟩,⟨some 76,none,.faddr 2 (.t 5),0,[]⟩,⟨none,
 none,.store 1 (.t 76) (.t 75),0,[]⟩]))))) (.reg [⟨some 77,none,.bin .add (.t 21) (.c (.v (.int .i64 1))),0,[]⟩,⟨some 21,none,.mov (.t 77),0,[]⟩])))))))
  (.seq (.reg [⟨some 78,none,.load true 3 (.t 5),0,[]⟩,⟨none,none,.store 3 (.t 4) (.t 78),0,[]⟩]) .ret)))⟩
theorem pf37_is : pfs 37 = some pf37 := by kernel_rfl
def pf43 : PF := ⟨29,[],.seq (.reg [⟨some 3,none,.box (.t 1),0,[]⟩]) (.seq (.reg [⟨some 5,none,.load true 3 (.t 3),0,[]⟩,⟨some 6,none,.call (.c (.fn 58 [])) [.t 5],0,[]⟩,⟨some 4,none,
 .mov (.t 6),0,[]⟩]) (.seq (.reg [⟨some 7,none,.mov (.t 0),0,[]⟩,⟨some 8,none,.nilck (.t 7),0,[]⟩,⟨some 9,none,.faddr 0 (.t 8),0,[]⟩,⟨some 10,none,.load false 1 (.t 9),0,
 []⟩,⟨some 11,none,.mov (.t 4),0,[]⟩,⟨some 12,none,.look (.v (.bool false)) false true (.t 10) (.t 11),0,[]⟩,⟨some 13,none,.un .not (.t 12),0,[]⟩]) (.cond (.t 13)
  (.seq (.reg [⟨some 14,none,.mov (.t 0),0,[]⟩,⟨some 15,none,.nilck (.t 14),0,[]⟩,⟨some 16,none,.faddr 0 (.t 15),0,[]⟩,⟨some 17,none,.load false 1 (.t 16),0,[]⟩,⟨some 18,
 none,.mov (.t 4),0,[]⟩,⟨none,none,.mapup true (.t 17) (.t 18) (.c (.v (.bool true))),0,[]⟩]) (.dreg [8,0,0] [⟨some 19,none,.mov (.t 0),0,[]⟩,⟨some 20,none,.mov (.t 0),1,
 []⟩,⟨some 21,none,.nilck (.t 20),2,[1]⟩,⟨some 22,none,.faddr 1 (.t 21),3,[2,1]⟩,⟨some 23,none,.load false 1 (.t 22),4,[3,2,1]⟩,⟨some 24,none,.load true 3 (.t 3),5,[]⟩,
 ⟨some 25,none,.bsl (.agg [.v (.int .i64 0),.v (.int .i64 0),.sl [] .nil]) 1 [(0,3,.t 24)],6,[5]⟩,⟨some 26,none,.app 3 none (.t 23) (.t 25),7,[6,5,4,3,2,1]⟩,⟨some 27,
 none,.nilck (.t 19),8,[7,6,5,4,3,2,1,0]⟩,⟨some 28,none,.faddr 1 (.t 27),9,[8,7,6,5,4,3,2,1,0]⟩,⟨none,none,.store 1 (.t 28) (.t 26),10,[9,8,7,6,5,4,3,2,1,0]⟩])) .skip)))⟩
theorem pf43_is : pfs 43 = some pf43 := by kernel_rfl
def pf45 : PF := ⟨4,[.t 2],.seq (.reg [⟨some 1,none,.box (.t 0),0,[]⟩,⟨some 2,none,.mov (.c (.v .nilFunc)),0,[]⟩]) (.seq (.reg [⟨some 3,none,.mkfn 59 [.t 1],0,[]⟩,⟨some 2,none,
 .mov (.t 3),0,[]⟩]) .ret)⟩
theorem pf45_is : pfs 45 = some pf45 := by kernel_rfl
def pf930 : PF := ⟨0,[],.seq (.reg [⟨some 2,none,.mov (.c (.sl [] .nil)),0,[]⟩,⟨some 3,none,.mov (.c (.v (.bool false))),0,[]⟩]) (.seq (.reg [⟨some 11,none,.mkmap,0,[]⟩,⟨some 12,none,
 .build [.v (.map none),.sl [] .nil] [(0,1,.t 11)],0,[]⟩,⟨some 13,none,.box (.t 12),0,[]⟩,⟨some 4,none,.alloc [.v (.pointer none)],0,[]⟩,⟨none,none,.store 1 (.t 4)
  (.t 13),0,[]⟩]) (.seq (.seq (.reg [⟨some 14,none,.mov (.t 0),0,[]⟩,⟨some 15,none,.lenS (.t 14),0,[]⟩,⟨some 16,none,.mov (.c (.v (.int .i64 0))),0,[]⟩])
  (.block 0 (.loop (.seq (.reg [⟨some 17,none,.bin .lss (.t 16) (.t 15),0,[]⟩]) (.seq (.cond (.t 17) .skip (.exit 0)) (.seq (.block 1 (.seq (.reg [⟨some 18,none,
 .iaddr 3 (.t 14) (.t 16),0,[]⟩,⟨some 19,none,.load true 3 (.t 18),0,[]⟩,⟨some 6,none,.alloc [.v (.int .i64 0),.v (.int .i64 0),.sl [] .nil],0,[]⟩,⟨none,none,
 .store 3 (.t 6) (.t 19),0,[]⟩]) (.reg [⟨some 20,none,.load false 1 (.t 4),0,[]⟩,⟨some 21,none,.load true 3 (.t 6),0,[]⟩,⟨some 22,none,.call (.c (.fn 43 [])) [.t 20,
 .t 21],0,[]⟩]))) (.reg [⟨some 23,none,.bin .add (.t 16) (.c (.v (.int .i64 1))),0,[]⟩,⟨some 16,none,.mov (.t 23),0,[]⟩]))))))) (.seq (.reg [⟨some 24,none,
 .load false 1 (.t 4),0,[]⟩,⟨some 25,none,.nilck (.t 24),0,[]⟩,⟨some 26,none,.faddr 1 (.t 25),0,[]⟩,⟨some 27,none,.load false 1 (.t 26),0,[]⟩,⟨some 28,none,
 .clone 3 true false (.t 27),0,[]⟩,⟨some 7,none,.alloc [.sl [] .nil],0,[]⟩,⟨none,none,.store 1 (.t 7) (.t 28),0,[]⟩]) (.seq (.seq (.reg [⟨some 29,none,
 .load false 1 (.t 4),0,[]⟩,⟨some 30,none,.call (.c (.fn 45 [])) [.t 29],0,[]⟩]) (.block 2 (.rangeq itF (.t 30) [31] (.reg [⟨some 8,none,.alloc [.v (.int .i64 0),
 .v (.int .i64 0),.sl [] .nil],0,[]⟩,⟨none,none,.store 3 (.t 8) (.t 31),0,[]⟩]) (.block 3 (.seq (.seq (.reg [⟨some 32,none,.load false 1 (.t 4),0,[]⟩,⟨some 33,none,
 .nilck (.t 32),0,[]⟩,⟨some 34,none,.faddr 1 (.t 33),0,[]⟩,⟨some 35,none,.load false 1 (.t 34),0,[]⟩,⟨some 36,none,.lenS (.t 35),0,[]⟩,⟨some 37,none,.bin .gtr (.t 36)
  (.c (.v (.int .i64 2000))),0,[]⟩]) (.cond (.t 37) (.exit 2) .skip)) (.seq (.reg [⟨some 38,none,.load false 1 (.t 7),0,[]⟩,⟨some 39,none,.lenS (.t 38),0,[]⟩,⟨some 40,
 none,.mov (.c (.v (.int .i64 0))),0,[]⟩]) (.block 4 (.loop (.seq (.reg [⟨some 41,none,.bin .lss (.t 40) (.t 39),0,[]⟩]) (.seq (.cond (.t 41) .skip (.exit 4))
  (.seq (.block 5 (.seq (.reg [⟨some 42,none,.iaddr 3 (.t 38) (.t 40),0,[]⟩,⟨some 43,none,.load true 3 (.t 42),0,[]⟩,⟨some 10,none,.alloc [.v (.int .i64 0),
 .v (.int .i64 0),.sl [] .nil],0,[]⟩,⟨none,none,.store 3 (.t 10) (.t 43),0,[]⟩]) (.seq (.reg [⟨some 44,none,.faddr 1 (.t 8),0,[]⟩,⟨some 45,none,.load false 1 (.t 44),0,[]
 ⟩,⟨some 46,none,.faddr 0 (.t 10),0,[]⟩,⟨some 47,none,.load false 1 (.t 46),0,[]⟩,⟨some 48,none,.bin .eql (.t 45) (.t 47),0,[]⟩]) (.cond (.t 48) (.dreg [4] [⟨some 49,
 none,.load false 1 (.t 4),0,[]⟩,⟨some 50,none,.load true 3 (.t 8),1,[]⟩,⟨some 51,none,.load true 3 (.t 10),2,[]⟩,⟨some 52,none,.call (.c (.fn 37 [])) [.t 50,.t 51],3,[2,
 1]⟩,⟨some 53,none,.call (.c (.fn 43 [])) [.t 49,.t 52],4,[3,2,1,0]⟩]) .skip)))) (.reg [⟨some 54,none,.bin .add (.t 40) (.c (.v (.int .i64 1))),0,[]⟩,⟨some 40,none,
 .mov (.t 54),0,[]⟩])))))))))))) (.seq (.seq (.reg [⟨some 55,none,.load false 1 (.t 4),0,[]⟩,⟨some 56,none,.nilck (.t 55),0,[]⟩,⟨some 57,none,.faddr 1 (.t 56),0,[]⟩,
 ⟨some 58,none,.load false 1 (.t 57),0,[]⟩,⟨some 59,none,.lenS (.t 58),0,[]⟩,⟨some 60,none,.bin .gtr (.t 59) (.c (.v (.int .i64 2000))),0,[]⟩]) (.cond (.t 60)
  (.seq (.reg [⟨some 2,none,.mov (.c (.sl [] .nil)),0,[]⟩,⟨some 3,none,.mov (.c (.v (.bool false))),0,[]⟩]) .ret) .skip)) .skip)))))⟩
theorem pf930_is : ((Tryd.f30.body.bind (splitN 6)).bind fun x => prepQ Tryd.prog bf x.1) = some pf930.body := by kernel_rfl
end Go.Proofs.Eng.F
namespace Go.Proofs.Eng
open Go Go.Proofs
set_option maxRecDepth 100000
set_option maxHeartbeats 16000000
theorem digF_ge : ∀ (f u : Nat), ∀ c ∈ digF f u, 48 ≤ c.toNat
  | 0, _, c, h => by simp [digF] at h
  | f + 1, u, c, h => by
    rw [digF] at h
    have key : ∀ d, d < 10 → (UInt8.ofNat (48 + d)).toNat = 48 + d := fun d hd => by
      rw [UInt8.toNat_ofNat']; omega
    split at h
    · simp only [List.mem_singleton] at h
      rw [h, key _ ‹_›]; omega
    · rcases List.mem_append.1 h with h | h
      · exact digF_ge f (u / 10) c h
      · simp only [List.mem_singleton] at h
        rw [h, key _ (by omega)]; omega
def valU (l : List UInt8) : Nat := l.foldl (fun a c => 10 * a + (c.toNat - 48)) 0
theorem valU_digF : ∀ (f u : Nat), u < 10 ^ (f + 1) → valU (digF (f + 1) u) = u
  | 0, u, h => by
    have h : u < 10 := by simpa using h
    have key : (UInt8.ofNat (48 + u)).toNat = 48 + u := by rw [UInt8.toNat_ofNat']; omega
    simp only [digF, h, if_true, valU, List.foldl_cons, List.foldl_nil, key]; omega
  | f + 1, u, h => by
    rw [digF]
    split
    · have key : (UInt8.ofNat (48 + u)).toNat = 48 + u := by rw [UInt8.toNat_ofNat']; omega
      simp only [valU, List.foldl_cons, List.foldl_nil, key]; omega
    · have key : (UInt8.ofNat (48 + u % 10)).toNat = 48 + u % 10 := by rw [UInt8.toNat_ofNat']; omega
      have ih := valU_digF f (u / 10) (by rw [Nat.pow_succ] at h; omega)
      unfold valU at ih ⊢
      rw [List.foldl_append, ih]
      simp only [List.foldl_cons, List.foldl_nil, key]; omega
def valN : List UInt8 → Int
  | [] => 0
  | c :: l => if c = 45 then -(valU l : Nat) else (valU (c :: l) : Nat)
theorem valN_numF {n : Int} (h : in64 n) : valN (numF n) = n := by
  unfold in64 at h
  unfold numF
  split
  · rw [valN, if_pos rfl, valU_digF 19 _ (by omega)]; omega
  · have hv := valU_digF 19 n.toNat (by omega)
    have hg := digF_ge 20 n.toNat
    generalize digF (19 + 1) n.toNat = L at *
    cases L with
    | nil => rw [valN]; simp [valU] at hv; omega
    | cons c L =>
      have := hg c (by simp)
      rw [valN, if_neg (fun e => by rw [e] at this; exact absurd this (by decide)), hv]; omega
theorem numF_32 {n : Int} : ∀ c ∈ numF n, c ≠ 32 := by
  intro c hc e
  subst e
  unfold numF at hc
  split at hc
  · rcases List.mem_cons.1 hc with h | h
    · exact absurd h (by decide)
    · exact absurd (digF_ge _ _ _ h) (by decide)
  · exact absurd (digF_ge _ _ _ hc) (by decide)
theorem split_at {a b x y : List UInt8} (ha : ∀ c ∈ a, c ≠ 32) (hb : ∀ c ∈ b, c ≠ 32) (h : a ++ 32 :: x = b ++ 32 :: y) : a = b ∧ x = y := by
  induction a generalizing b with
  | nil =>
    cases b with
    | nil => simpa using h
    | cons c b => simp at h; exact absurd h.1.symm (hb c (by simp))
  | cons c a ih =>
    cases b with
    | nil => simp at h; exact absurd h.1 (ha c (by simp))
    | cons d b =>
      simp only [List.cons_append, List.cons.injEq] at h
      obtain ⟨e1, e2⟩ := ih (fun c hc => ha c (by simp [hc])) (fun c hc => hb c (by simp [hc])) h.2
      exact ⟨by rw [h.1, e1], e2⟩
theorem textOf_cons {n : Int} {l : List Int} : textOf (n :: l) = numF n ++ 32 :: textOf l := by simp [textOf]
theorem textOf_inj : ∀ {a b : List Int}, (∀ n ∈ a, in64 n) → (∀ n ∈ b, in64 n) → textOf a = textOf b → a = b
  | [], [], _, _, _ => rfl
  | [], n :: b, _, _, h => by rw [textOf_cons] at h; simp [textOf] at h
  | n :: a, [], _, _, h => by rw [textOf_cons] at h; simp [textOf] at h
  | n :: a, m :: b, ha, hb, h => by
    rw [textOf_cons, textOf_cons] at h
    obtain ⟨e1, e2⟩ := split_at numF_32 numF_32 h
    rw [textOf_inj (fun k hk => ha k (by simp [hk])) (fun k hk => hb k (by simp [hk])) e2]
    congr 1
    rw [← valN_numF (ha n (by simp)), e1, valN_numF (hb m (by simp))]
theorem strL_inj {a b : List UInt8} (h : strL a = strL b) : a = b := by
  have := congrArg (fun x : ByteArray => x.data.toList) h
  simpa [strL] using this
def MapB (es : List (AV × AV)) (tab : List (List UInt8)) : Prop := ∀ key : List UInt8, lookA (.str (strL key)) es = some (if key ∈ tab then some (.bool true) else none)
theorem mapB_nil : MapB [] [] := fun key => by simp [lookA]
theorem up_new {k x : AV} : ∀ {es : List (AV × AV)}, lookA k es = some none → upA k x es = some (es ++ [(k, x)])
  | [], _ => rfl
  | (k', y) :: es, h => by
    rw [lookA] at h
    rw [upA]
    split at h
    · cases h
    · simp only [up_new h, Option.map_some, List.cons_append]
    · cases h
theorem look_app {k k' x : AV} {b : Bool} (hb : keyEq k k' = some b) : ∀ {es : List (AV × AV)} {r : Option AV}, lookA k es = some r → lookA k (es ++ [(k', x)]) = some (match r with | some y => some y | none => if b = true then some x else none)
  | [], r, h => by
    simp only [lookA, Option.some.injEq] at h; subst h
    rw [List.nil_append, lookA, hb]
    cases b <;> simp [lookA]
  | (k2, y) :: es, r, h => by
    rw [lookA] at h
    rw [List.cons_append, lookA]
    split at h
    · simp only [Option.some.injEq] at h; subst h; rfl
    · exact look_app hb h
    · cases h
theorem mapB_add {es : List (AV × AV)} {tab : List (List UInt8)} (h : MapB es tab) {key : List UInt8} (hk : key ∉ tab) : upA (.str (strL key)) (.bool true) es = some (es ++ [(.str (strL key), .bool true)]) ∧ MapB (es ++ [(.str (strL key), .bool true)]) (tab ++ [key]) := by
  refine ⟨up_new (by rw [h, if_neg hk]), fun k2 => ?_⟩
  have hb : keyEq (.str (strL k2)) (.str (strL key)) = some (decide (k2 = key)) := by
    simp only [keyEq, str_beq, Option.some.injEq, decide_eq_decide]
    exact ⟨strL_inj, fun e => by rw [e]⟩
  rw [look_app hb (h k2)]
  by_cases h2 : k2 ∈ tab
  · rw [if_pos h2, if_pos (List.mem_append_left _ h2)]
  · rw [if_neg h2]
    by_cases h3 : k2 = key
    · rw [h3, if_pos (by simp)]; simp
    · rw [if_neg (show k2 ∉ tab ++ [key] by simp [h2, h3])]; simp [h3]
def FoundS (q : List Cl) (H : List AObj) (T : List Nat) : Prop := ∃ al t es, H[0]? = some (.map es) ∧ H[1]? = some (.cells false [.mp 0, .sl al t]) ∧ LIs ClIs q al ∧ App T al t ∧ MapB es (q.map fun c => textOf (entL c))
def Rest2 (H H' : List AObj) : Prop := H.length ≤ H'.length ∧ ∀ i o, 2 ≤ i → H[i]? = some o → H'[i]? = some o
theorem Rest2.refl (H : List AObj) : Rest2 H H := ⟨Nat.le_refl _, fun _ _ _ h => h⟩
theorem Rest2.trans {A B C : List AObj} (h : Rest2 A B) (k : Rest2 B C) : Rest2 A C := ⟨Nat.le_trans h.1 k.1, fun i o hi ho => k.2 i o hi (h.2 i o hi ho)⟩
end Go.Proofs.Eng
namespace Go.Proofs.Eng.F
open Go Go.Proofs Go.Proofs.Eng
theorem key_ret {c : Cl} {a : AV} (h : ClIs c a) (hs : Sm c) : Out md pfs 58 [a] (· = .str (strL (textOf (entL c)))) fun _ => False := by
  have hv : keyO [a] ⟨[], []⟩ = some (.str (strL (textOf (entL c))), ⟨[], []⟩) := by simp only [keyO, clOf_is h hs]; rfl
  exact ⟨_, _, _, run_ora (f := 58) (pf := ⟨0, [], .ora keyO⟩) (o := keyO) (by unfold pfs; rw [if_pos rfl]) rfl hv, by simp only [Outc.purify]; rw [purify_pure rfl]; rfl, rfl⟩
theorem add_sh {q : List Cl} {c : Cl} {a : AV} {H : List AObj} {T : List Nat} (hK : FoundS q H T) (hc : ClIs c a) (hs : Sm c) (hin : ∀ x ∈ q, ∀ n ∈ entL x, in64 n) (hinj : ∀ x ∈ q, entL x = entL c → x = c) (hl : q.length ≤ 1000000) :
    Sh md pfs 43 [.ptr 1 0, a] ⟨H, T⟩ (fun _ s' => ∃ H' T', s' = ⟨H', T'⟩ ∧ FoundS (addQ q c) H' T' ∧ Rest2 H H') fun _ _ => False := by
  obtain ⟨al, t, es, h0, h1, hL, hA, hM⟩ := hK
  have hkey := key_ret hc hs
  have hci := ent_in hc
  obtain ⟨bl, u, rfl, k1, k2, k3, k4, k5⟩ := hc.of
  obtain ⟨_, rfl, c58⟩ := hkey.call rfl (by simp [pvs_cons, pvs_nil, hc.pure])
  have hln := hL.len
  have l0 := lt_of_get h0
  have l1 := lt_of_get h1
  refine sh_of pf43_is (Nat.le_of_ble_eq_true rfl) ?_
  have hm := hM (textOf (entL c))
  have hiff : (textOf (entL c) ∈ q.map fun c => textOf (entL c)) ↔ c ∈ q := by
    rw [List.mem_map]
    constructor
    · rintro ⟨x, h1, h2⟩
      rw [← hinj x h1 (textOf_inj (hin x h1) hci h2)]; exact h1
    · intro h; exact ⟨c, h, rfl⟩
  by_cases hh : c ∈ q
  · rw [if_pos (hiff.2 hh)] at hm
    simp only [pf43, ↓wpre, wset, wcore, wext, ne_eq, if_true, if_false, exists_eq_left', true_implies, false_implies, exists_const, exists_eq_right, binA, intA, loadA, storeA, pickC, setAt, mapO, argsE, X.isC, resA, oneA, unA, boundA, eqiA, eqsA, fillA, fillE, ASt.fz, strA, simprocAttr, List.length_append, List.append_assoc, app_get_len, app_get_add, app_set_len, app_set_add, app_get_of h0, app_get_of h1, c58, hm, keyOK]
    refine ⟨_, _, rfl, ?_, by simp, fun i o _ h => app_get_of h _⟩
    rw [addQ, if_pos hh]
    exact ⟨al, t, es, app_get_of h0 _, app_get_of h1 _, hL, hA, hM⟩
  · have hnot := fun h => hh (hiff.1 h)
    rw [if_neg hnot] at hm
    obtain ⟨hu, hM'⟩ := mapB_add hM hnot
    obtain ⟨t', T', ap, hA', _⟩ := app_one (es := 3) (x := .agg [.int c.f, .int c.t, .sl bl u]) hA (by unfold capB; omega) (hL.all clAgg) rfl rfl
    generalize hes : es ++ [(AV.str (strL (textOf (entL c))), AV.bool true)] = es' at *
    generalize hB : AObj.cells false [AV.int c.f, AV.int c.t, .sl bl u] = B at *
    have j0 : ((H ++ [B]).set 0 (.map es'))[1]? = some (.cells false [.mp 0, .sl al t]) := by
      rw [List.getElem?_set, if_neg (by omega)]; exact app_get_of h1 _
    have j3 : ((H ++ [B]).set 0 (.map es'))[H.length]? = some B := by
      rw [List.getElem?_set, if_neg (by omega), List.getElem?_append_right (Nat.le_refl _), Nat.sub_self]; rfl
    subst hB
    simp only [pf43, ↓wpre, wset, wcore, wext, ne_eq, if_true, if_false, exists_eq_left', true_implies, false_implies, exists_const, exists_eq_right, binA, intA, loadA, storeA, pickC, setAt, mapO, argsE, X.isC, resA, oneA, unA, boundA, eqiA, eqsA, fillA, fillE, ASt.fz, strA, simprocAttr, app_get_len, app_get_of h0, app_get_of h1, c58, hm, keyOK, hu, j0, j3, ap]
    refine ⟨_, _, rfl, ?_, by simp, fun i o hi h => ?_⟩
    · rw [addQ, if_neg hh]
      refine ⟨_, t', es', ?_, ?_, hL.append (.one hc), hA', by simpa using hM'⟩
      · rw [List.getElem?_set, if_neg (by omega), List.getElem?_set, if_pos rfl, if_pos (by simp)]
      · rw [List.getElem?_set, if_pos rfl, if_pos (by simp; omega)]
    · rw [List.getElem?_set, if_neg (by omega), List.getElem?_set, if_neg (by omega)]; exact app_get_of h _
end Go.Proofs.Eng.F
namespace Go.Proofs.Eng
open Go Go.Proofs
set_option maxRecDepth 100000
def mixL (p : Nat) (f g : Nat → Int) (k : Nat) : List Int := (List.range p).map fun i => if i < k then f i else g i
theorem mixL_len {p : Nat} {f g : Nat → Int} {k : Nat} : (mixL p f g k).length = p := by simp [mixL]
theorem mixL_get {p : Nat} {f g : Nat → Int} {k i : Nat} (h : i < p) : (mixL p f g k)[i]? = some (if i < k then f i else g i) := by simp [mixL, h]
theorem mixL_zero {p : Nat} {f g : Nat → Int} : mixL p f g 0 = (List.range p).map g := by simp [mixL]
theorem mixL_all {p : Nat} {f g : Nat → Int} {k : Nat} (h : p ≤ k) : mixL p f g k = (List.range p).map f := by
  unfold mixL
  refine List.map_congr_left fun i hi => ?_
  rw [if_pos (by have := List.mem_range.1 hi; omega)]
theorem mixL_set {p : Nat} {f g : Nat → Int} {k : Nat} : (mixL p f g k).set k (f k) = mixL p f g (k + 1) := by
  refine List.ext_getElem? fun i => ?_
  rw [List.getElem?_set]
  split
  · rename_i h
    subst h
    rw [mixL_len]
    split
    · rename_i hk; rw [mixL_get hk, if_pos (by omega)]
    · rename_i hk; rw [List.getElem?_eq_none (by rw [mixL_len]; omega)]
  · rename_i h
    rcases Nat.lt_or_ge i p with hi | hi
    · rw [mixL_get hi, mixL_get hi]
      by_cases h1 : i < k
      · rw [if_pos h1, if_pos (by omega)]
      · rw [if_neg h1, if_neg (by omega)]
    · rw [List.getElem?_eq_none (by rw [mixL_len]; exact hi), List.getElem?_eq_none (by rw [mixL_len]; exact hi)]
theorem mixL_skip {p : Nat} {f g : Nat → Int} {k : Nat} (h : f k = g k) : mixL p f g (k + 1) = mixL p f g k := by
  unfold mixL
  refine List.map_congr_left fun i _ => ?_
  by_cases h1 : i < k
  · rw [if_pos h1, if_pos (by omega)]
  · by_cases h2 : i = k
    · subst h2; rw [if_pos (by omega), if_neg (by omega), h]
    · rw [if_neg h1, if_neg (by omega)]
def pE (row : List Int) (am : List (List Int)) (J k : Nat) : Int := maxL ((List.range J).map fun j => mulE (row.getD j 0) (get2 am j k))
theorem pE_nn (row : List Int) (am : List (List Int)) (J k : Nat) : 0 ≤ pE row am J k := maxL_nn _
theorem pE_succ {row : List Int} {am : List (List Int)} {J k : Nat} : pE row am (J + 1) k = mx (pE row am J k) (mulE (row.getD J 0) (get2 am J k)) := by
  unfold pE maxL
  rw [List.range_succ, List.map_append, List.foldl_append]; rfl
theorem pE_x0 {row : List Int} {am : List (List Int)} {J k : Nat} (h : row.getD J 0 = 0) : pE row am (J + 1) k = pE row am J k := by
  have := pE_nn row am J k
  rw [pE_succ, h, mulE, if_neg (by omega), mx, if_neg (by omega)]
theorem pE_y0 {row : List Int} {am : List (List Int)} {J k : Nat} (h : get2 am J k = 0) : pE row am (J + 1) k = pE row am J k := by
  have := pE_nn row am J k
  rw [pE_succ, h, mulE, if_neg (by omega), mx, if_neg (by omega)]
theorem pE_xy {row : List Int} {am : List (List Int)} {J k : Nat} (h : 0 < row.getD J 0) (h2 : 0 < get2 am J k) : pE row am (J + 1) k = if mx (row.getD J 0) (get2 am J k) > pE row am J k then mx (row.getD J 0) (get2 am J k) else pE row am J k := by
  rw [pE_succ, mulE, if_pos ⟨h, h2⟩]; rfl
theorem comp_rows (a b : Cl) : (comp a b).m = b.m.map fun row => (List.range (a.m.headD []).length).map (pE row a.m a.m.length) := rfl
theorem ints_set {l : List Int} {k : Nat} {n : Int} : (ints l).set k (.int n) = ints (l.set k n) := by simp [ints, List.map_set]
theorem set_td {α : Type} {l : List α} {k : Nat} {x : α} (h : k < l.length) : List.take k l ++ x :: List.drop (k + 1) l = l.set k x := by
  rw [List.set_eq_take_append_cons_drop, if_pos h]
def bsA (n p i : Nat) : List AV := (List.range i).map fun j => .bs (n + j) 0 p 1 false
theorem bsA_succ {n p i : Nat} : bsA n p (i + 1) = bsA n p i ++ [.bs (n + i) 0 p 1 false] := by simp [bsA, List.range_succ]
theorem bsA_len {n p i : Nat} : (bsA n p i).length = i := by simp [bsA]
theorem bsA_all {n p i : Nat} : ((bsA n p i).all fun x => x.cells.length == 1) = true := by
  rw [List.all_eq_true]
  intro x hx
  obtain ⟨j, _, rfl⟩ := List.mem_map.1 hx
  rfl
def rowsH (l : List (List Int)) : List AObj := l.map fun r => .cells false (ints r)
theorem zeros_ints (p : Nat) : List.replicate p (AV.int 0) = ints ((List.range p).map fun _ => 0) := by
  refine List.ext_getElem? fun i => ?_
  rcases Nat.lt_or_ge i p with h | h
  · simp [ints, h]
  · rw [List.getElem?_eq_none (by simpa using h), List.getElem?_eq_none (by simpa [ints] using h)]
theorem chunk_ints : ∀ (l : List Int) (Z : List AV), chunk 1 false l.length (ints l ++ Z) = ints l
  | [], _ => rfl
  | n :: l, Z => by
    have := chunk_ints l Z
    simp only [ints, List.map_cons, List.cons_append, List.length_cons, chunk] at this ⊢
    simp [this]
theorem ints_one (l : List Int) : ((ints l).all AV.one) = true := by
  induction l with
  | nil => rfl
  | cons x l ih => simp only [ints] at ih ⊢; simp only [List.map_cons, List.all_cons, ih]; rfl
theorem ints_drop (n : Nat) (a : List Int) : (ints a).drop n = ints (a.drop n) := by simp [ints]
theorem ints_take (n : Nat) (a : List Int) : (ints a).take n = ints (a.take n) := by simp [ints]
theorem elems_ints {s : ASt} {i off len : Nat} {fz : Bool} {L : List Int} (hs : s.H[i]? = some (.cells fz (ints L))) (h : off + len ≤ L.length) : elemsA s (.bs i off len 1 false) = some (ints ((L.drop off).take len)) := by
  unfold elemsA
  simp only [hs, ints_len, Nat.mul_one, ints_drop, ints_take, ints_one, Bool.false_or, beq_self_eq_true, Bool.true_and, h, and_self, if_true, Option.some.injEq]
  have e : L.drop off = (L.drop off).take len ++ (L.drop off).drop len := (List.take_append_drop _ _).symm
  have hl : ((L.drop off).take len).length = len := by rw [List.length_take, List.length_drop]; omega
  have := chunk_ints ((L.drop off).take len) (ints ((L.drop off).drop len))
  rw [← ints_app, ← e, hl] at this
  exact this
theorem at_ints {n : Nat} {s : ASt} : ∀ l : List Int, mapO (atCells (purify (n + 1) s)) (ints l) = some (ints l)
  | [] => rfl
  | x :: l => by
    have := at_ints (n := n) (s := s) l
    simp only [ints, List.map_cons, mapO] at this ⊢
    have e : atCells (purify (n + 1) s) (.int x) = some (.int x) := by simp [atCells, purify, pureAV]
    rw [e, this]
theorem pz_bsints {n : Nat} {s : ASt} {i off len : Nat} {fz : Bool} {L : List Int} (hs : s.H[i]? = some (.cells fz (ints L))) (h : off + len ≤ L.length) : purify (n + 2) s (.bs i off len 1 false) = some (.sl (ints ((L.drop off).take len)) .al) := by
  rw [pz_bs, elems_ints hs h]
  simp [at_ints]
theorem mapO_snoc {α β : Type} {f : α → Option β} {x : α} {y : β} (hx : f x = some y) : ∀ {l : List α} {m : List β}, mapO f l = some m → mapO f (l ++ [x]) = some (m ++ [y])
  | [], m, h => by simp only [mapO, Option.some.injEq] at h; subst h; simp [mapO, hx]
  | a :: l, m, h => by
    simp only [mapO] at h
    split at h
    · rename_i b hb
      split at h
      · rename_i bs hbs
        simp only [Option.some.injEq] at h; subst h
        rw [List.cons_append, mapO, hb]
        simp only [mapO_snoc hx hbs, List.cons_append]
      · cases h
    · cases h
theorem bsA_pz {s : ASt} {n p k : Nat} {m : List (List Int)} (h : ∀ j r, m[j]? = some r → s.H[n + j]? = some (.cells false (ints r)) ∧ r.length = p ∧ p ≤ lenB ∧ ∀ v ∈ r, in64 v) : ∀ i, i ≤ m.length → ∃ al, mapO (atCells (purify (k + 2) s)) (bsA n p i) = some al ∧ LIs RowIs (m.take i) al
  | 0, _ => ⟨[], rfl, trivial⟩
  | i + 1, hi => by
    obtain ⟨al, h1, h2⟩ := bsA_pz (k := k) h i (by omega)
    have hg : m[i]? = some m[i] := List.getElem?_eq_getElem (by omega)
    obtain ⟨k1, k2, k3, k4⟩ := h i _ hg
    have hx : atCells (purify (k + 2) s) (.bs (n + i) 0 p 1 false) = some (.sl (ints m[i]) .al) := by
      show purify (k + 2) s (.bs (n + i) 0 p 1 false) = _
      rw [pz_bsints k1 (by omega), List.drop_zero, ← k2, List.take_length]
    refine ⟨al ++ [.sl (ints m[i]) .al], by rw [bsA_succ]; exact mapO_snoc hx h1, ?_⟩
    rw [List.take_add_one, hg]
    exact h2.append (.one ⟨_, rfl, rfl, by omega, k4⟩)
theorem app_fast {T : List Nat} {H : List AObj} {l : List AV} {t : Tl} {n : Nat} (h : App T l t) (hn : 1000 ≤ n) : (t.stripR n ⟨H, T⟩).fast = true := by
  rcases h with ⟨_, rfl⟩ | ⟨_, id, ver, rfl, hT⟩
  · rfl
  · simp only [Tl.stripR]
    rw [if_pos ⟨hn, hT⟩]; rfl
end Go.Proofs.Eng
