/- The reference's order. No conditions beyond those in the theorems. -/
import Derived.Test.YtodnkbnbjhcikaaDoorH7
set_option linter.all false
set_option linter.deprecated false
set_option linter.unnecessarySimpa false
set_option linter.unusedVariables false
set_option linter.unusedSimpArgs false
set_option linter.defProp false
namespace Go.Proofs.Eng
open Go Go.Proofs
set_option maxRecDepth 100000
set_option maxHeartbeats 16000000
def ApC2 (T : List Nat) (l : List Int) (t : Tl) (m : List Int) (u : Tl) : Prop := (t = .cap l.length ∧ u = .cap m.length) ∨ (l ≠ [] ∧ m ≠ [] ∧ ∃ i v j w, t = .tl i v ∧ T[i]? = some v ∧ u = .tl j w ∧ T[j]? = some w ∧ i ≠ j)
theorem app_old {H : List AObj} {T : List Nat} {l xs : List Int} {i v : Nat} (hT : T[i]? = some v) (hne : l ≠ []) (hx : 0 < xs.length) (hl : l.length + xs.length ≤ 1073741824) : appA ⟨H, T⟩ 1 none (ints l) (.tl i v) (ints xs) = some (.sl (ints (l ++ xs)) (.tl i (v + 1)), ⟨H, T.set i (v + 1)⟩) := by
  cases xs with
  | nil => simp at hx
  | cons n xs =>
    have k1 := ints_all l
    have k2 := ints_all2 (n :: xs)
    have hne' : ints l ≠ [] := by cases l with | nil => exact absurd rfl hne | cons _ _ => simp [ints]
    rw [ints_app]
    simp only [ints, List.map_cons] at k1 k2 hne' ⊢
    simp only [List.length_cons] at hl
    rw [appA, if_pos ⟨by simp only [List.length_map, List.length_cons]; omega, k1, k2⟩]
    simp only [hT]
    rw [if_pos ⟨trivial, hne'⟩]
theorem app_rows {T : List Nat} {l m r s : List Int} {t u : Tl} (h : ApC2 T l t m u) (hr : 0 < r.length) (hs : 0 < s.length) (hl : l.length + r.length ≤ 1073741824) (hm : m.length + s.length ≤ 1073741824) :
    ∃ t' u' T' T'', (∀ H, appA ⟨H, T⟩ 1 none (ints l) t (ints r) = some (.sl (ints (l ++ r)) t', ⟨H, T'⟩)) ∧ (∀ H, appA ⟨H, T'⟩ 1 none (ints m) u (ints s) = some (.sl (ints (m ++ s)) u', ⟨H, T''⟩)) ∧ ApC2 T'' (l ++ r) t' (m ++ s) u' := by
  have n1 : l ++ r ≠ [] := by intro e; have := congrArg List.length e; simp only [List.length_append, List.length_nil] at this; omega
  have n2 : m ++ s ≠ [] := by intro e; have := congrArg List.length e; simp only [List.length_append, List.length_nil] at this; omega
  rcases h with ⟨rfl, rfl⟩ | ⟨h1, h2, i, v, j, w, rfl, hT, rfl, hU, hij⟩
  · exact ⟨_, _, _, _, fun H => app_new (c := l.length) hr hl (by omega), fun H => app_new (c := m.length) hs hm (by omega), .inr ⟨n1, n2, _, _, _, _, rfl, by simp, rfl, by simp, by simp⟩⟩
  · have i1 := (List.getElem?_eq_some_iff.1 hT).1
    have j1 := (List.getElem?_eq_some_iff.1 hU).1
    have hU2 : (T.set i (v + 1))[j]? = some w := by rw [List.getElem?_set, if_neg hij]; exact hU
    refine ⟨_, _, _, _, fun H => app_old hT h1 hr hl, fun H => app_old hU2 h2 hs hm, .inr ⟨n1, n2, i, v + 1, j, w + 1, rfl, ?_, rfl, ?_, hij⟩⟩
    · rw [List.getElem?_set, if_neg (fun e => hij e.symm), List.getElem?_set, if_pos rfl, if_pos i1]
    · rw [List.getElem?_set, if_pos rfl, if_pos (by rw [List.length_set]; exact j1)]
structure Ok (c : Cl) : Prop where
  rows : c.m.length ≤ 16
  cols : ∀ r ∈ c.m, 1 ≤ r.length ∧ r.length ≤ 16
theorem Good.ok {ar : Int → Nat} {c : Cl} (h : Good ar c) : Ok c := ⟨by rw [h.wm.len]; exact h.r1.2, fun r hr => by rw [h.wm.row r hr]; exact h.c1⟩
theorem ok_tot {c : Cl} (h : Ok c) (j : Nat) : (c.m.take j).flatten.length ≤ 256 := by
  have : ∀ (m : List (List Int)), (∀ r ∈ m, r.length ≤ 16) → m.flatten.length ≤ 16 * m.length := by
    intro m
    induction m with
    | nil => simp
    | cons r m ih =>
      intro h
      have h1 := h r (by simp)
      have h2 := ih fun r hr => h r (by simp [hr])
      simp only [List.flatten_cons, List.length_append, List.length_cons]
      omega
  have h1 := this c.m fun r hr => (h.cols r hr).2
  have h2 := flt_take_le (rows := c.m) j
  have := h.rows
  omega
theorem take_min {α : Type} {l : List α} {j n : Nat} (h : j ≤ n) (h2 : l.length ≤ j ∨ j = n) : l.take j = l.take n := by
  rcases h2 with h2 | rfl
  · rw [List.take_of_length_le h2, List.take_of_length_le (by omega)]
  · rfl
theorem cmpL_r (l : List Int) : cmpL l [] = 0 := by cases l <;> rfl
theorem cmpL_l (l : List Int) : cmpL [] l = 0 := by cases l <;> rfl
theorem order_ret {c d : Cl} {a b : AV} (h : ClIs c a) (k : ClIs d b) (hc : Ok c) (hd : Ok d) : Out md pfs 24 [a, b] (· = .int (ordR c d)) fun _ => False := by
  obtain ⟨al, t, rfl, h1, h2, h3, h4, h5⟩ := h.of
  obtain ⟨bl, u, rfl, k1, k2, k3, k4, k5⟩ := k.of
  have hal := rows_all h1
  have hbl := rows_all k1
  have hla := h1.len
  have hlb := k1.len
  refine out_of pf24_is (Nat.le_of_ble_eq_true rfl) ?_
  simp only [pf24, ↓wpre, wset, wcore, wext, ne_eq, if_true, if_false, exists_eq_left', true_implies, false_implies, exists_const, exists_eq_right, binA, intA, loadA, storeA, pickC, setAt, mapO, argsE, X.isC, resA, oneA, unA, boundA, eqiA, eqsA, fillA, fillE, ASt.fz, strA, simprocAttr]
  refine W_loopE (fun j => al.length - j) (fun j E H T => E 2 = .ptr 0 0 ∧ H[0]? = some (.cells false [.int c.f, .int c.t, .sl al t]) ∧ E 3 = .ptr 1 0 ∧ H[1]? = some (.cells false [.int d.f, .int d.t, .sl bl u]) ∧ E 7 = .int (j : Nat) ∧ j ≤ al.length ∧ j ≤ bl.length ∧ ∃ t5 t6, E 5 = .sl (ints (c.f :: c.t :: (c.m.take j).flatten)) t5 ∧ E 6 = .sl (ints (d.f :: d.t :: (d.m.take j).flatten)) t6 ∧ ApC2 T (c.f :: c.t :: (c.m.take j).flatten) t5 (d.f :: d.t :: (d.m.take j).flatten) t6) ?_ 0 ⟨rfl, rfl, rfl, rfl, rfl, Nat.zero_le _, Nat.zero_le _, _, _, rfl, rfl, .inl ⟨rfl, rfl⟩⟩
  rintro j E H T ⟨e2, h0, e3, h1', e7, hj, hj2, t5, t6, e5, e6, hA⟩
  have ta := ok_tot hc j
  have tb := ok_tot hd j
  by_cases hlt : j < al.length ∧ j < bl.length
  · have q1 := dlt hlt.1
    have q2 := dlt hlt.2
    obtain ⟨x, tx, g1, g2, g3, g4, g5, g6⟩ := row_get h1 hlt.1
    obtain ⟨y, ty, f1, f2, f3, f4, f5, f6⟩ := row_get k1 hlt.2
    have hx := hc.cols x g2
    have hy := hd.cols y f2
    obtain ⟨t', u', T', T'', ap1, ap2, hA'⟩ := app_rows (r := x) (s := y) hA (by omega) (by omega) (by simp only [List.length_cons]; omega) (by simp only [List.length_cons]; omega)
    simp only [↓wpre, wset, wcore, wext, ne_eq, if_true, if_false, exists_eq_left', true_implies, false_implies, exists_const, exists_eq_right, binA, intA, loadA, storeA, pickC, setAt, mapO, argsE, X.isC, resA, oneA, unA, boundA, eqiA, eqsA, fillA, fillE, ASt.fz, strA, simprocAttr, List.length_append, List.append_assoc, app_get_len, app_get_add, app_set_len, app_set_add, e2, h0, e3, h1', e7, e5, e6, q1, q2, hal, hbl, g3, f3, ap1, ap2]
    refine EQ_in ⟨j + 1, by omega, e2, h0, e3, h1', next_ixv (by omega), by omega, by omega, t', u', ?_, ?_, ?_⟩
    · rw [flt_take g1]; rfl
    · rw [flt_take f1]; rfl
    · rw [flt_take g1, flt_take f1]; exact hA'
  · have hx : c.m.take j = c.m.take d.m.length := take_min (by omega) (by omega)
    have hy : d.m.take j = d.m.take c.m.length := take_min (by omega) (by omega)
    have hq : ∀ {P : Prop}, (decide ((j : Int) < al.length) = false → P) → (decide ((j : Int) < al.length) = true → decide ((j : Int) < bl.length) = false → P) → P := fun p1 p2 => by
      rcases Nat.lt_or_ge j al.length with hl | hl
      · exact p2 (dlt hl) (dltf (by omega))
      · exact p1 (dltf hl)
    generalize hX : c.f :: c.t :: (c.m.take j).flatten = xs at *
    generalize hY : d.f :: d.t :: (d.m.take j).flatten = ys at *
    have hXl : xs.length ≤ 258 := by rw [← hX]; simp only [List.length_cons]; omega
    have hYl : ys.length ≤ 258 := by rw [← hY]; simp only [List.length_cons]; omega
    have hXY : ordR c d = cmpL xs ys := by unfold ordR; rw [← hX, ← hY, hx, hy]
    refine hq (fun q1 => ?_) (fun q1 q2 => ?_)
    · simp only [↓wpre, wset, wcore, wext, ne_eq, if_true, if_false, exists_eq_left', true_implies, false_implies, exists_const, exists_eq_right, binA, intA, loadA, storeA, pickC, setAt, mapO, argsE, X.isC, resA, oneA, unA, boundA, eqiA, eqsA, fillA, fillE, ASt.fz, strA, simprocAttr, List.length_append, List.append_assoc, app_get_len, app_get_add, app_set_len, app_set_add, e2, h0, e3, h1', e7, e5, e6, q1]
      refine W_loopE (fun i => xs.length - i) (fun i E H T => E 5 = .sl (ints xs) t5 ∧ E 6 = .sl (ints ys) t6 ∧ E 8 = .int (i : Nat) ∧ i ≤ xs.length ∧ i ≤ ys.length ∧ cmpL xs ys = cmpL (xs.drop i) (ys.drop i)) ?_ 0 ⟨e5, e6, rfl, Nat.zero_le _, Nat.zero_le _, by simp⟩
      rintro i E H T ⟨e5, e6, e8, hi, hi2, hcm⟩
      have a1 := ints_all xs
      have a2 := ints_all ys
      rcases Nat.lt_or_ge i xs.length with k1 | k1
      · have r1 := dlt k1
        obtain ⟨m, m1, m2, m3⟩ := ints_get k1
        rcases Nat.lt_or_ge i ys.length with k2 | k2
        · have r2 := dlt k2
          obtain ⟨n, n1, n2, n3⟩ := ints_get k2
          rw [m2, n2, cmpL] at hcm
          by_cases l1 : m < n
          · have s1 : decide (m < n) = true := decide_eq_true l1
            rw [if_pos l1] at hcm
            simp only [↓wpre, wset, wcore, wext, ne_eq, if_true, if_false, exists_eq_left', true_implies, false_implies, exists_const, exists_eq_right, binA, intA, loadA, storeA, pickC, setAt, mapO, argsE, X.isC, resA, oneA, unA, boundA, eqiA, eqsA, fillA, fillE, ASt.fz, strA, simprocAttr, e5, e6, e8, ints_len, r1, r2, m3, n3, a1, a2, s1, hXY, hcm]
          · have s1 : decide (m < n) = false := decide_eq_false l1
            rw [if_neg l1] at hcm
            by_cases l2 : m > n
            · have s2 : decide (m > n) = true := decide_eq_true l2
              rw [if_pos l2] at hcm
              simp only [↓wpre, wset, wcore, wext, ne_eq, if_true, if_false, exists_eq_left', true_implies, false_implies, exists_const, exists_eq_right, binA, intA, loadA, storeA, pickC, setAt, mapO, argsE, X.isC, resA, oneA, unA, boundA, eqiA, eqsA, fillA, fillE, ASt.fz, strA, simprocAttr, e5, e6, e8, ints_len, r1, r2, m3, n3, a1, a2, s1, s2, hXY, hcm]
            · have s2 : decide (m > n) = false := decide_eq_false l2
              rw [if_neg l2] at hcm
              simp only [↓wpre, wset, wcore, wext, ne_eq, if_true, if_false, exists_eq_left', true_implies, false_implies, exists_const, exists_eq_right, binA, intA, loadA, storeA, pickC, setAt, mapO, argsE, X.isC, resA, oneA, unA, boundA, eqiA, eqsA, fillA, fillE, ASt.fz, strA, simprocAttr, e5, e6, e8, ints_len, r1, r2, m3, n3, a1, a2, s1, s2]
              exact EQ_in ⟨i + 1, by omega, e5, e6, next_ixv (by unfold lenB; omega), by omega, by omega, hcm⟩
        · have r2 := dltf k2
          rw [List.drop_eq_nil_of_le k2, cmpL_r] at hcm
          simp only [↓wpre, wset, wcore, wext, ne_eq, if_true, if_false, exists_eq_left', true_implies, false_implies, exists_const, exists_eq_right, binA, intA, loadA, storeA, pickC, setAt, mapO, argsE, X.isC, resA, oneA, unA, boundA, eqiA, eqsA, fillA, fillE, ASt.fz, strA, simprocAttr, e5, e6, e8, ints_len, r1, r2, hXY, hcm]
      · have r1 := dltf k1
        rw [List.drop_eq_nil_of_le k1, cmpL_l] at hcm
        simp only [↓wpre, wset, wcore, wext, ne_eq, if_true, if_false, exists_eq_left', true_implies, false_implies, exists_const, exists_eq_right, binA, intA, loadA, storeA, pickC, setAt, mapO, argsE, X.isC, resA, oneA, unA, boundA, eqiA, eqsA, fillA, fillE, ASt.fz, strA, simprocAttr, e5, e6, e8, ints_len, r1, hXY, hcm]
    · simp only [↓wpre, wset, wcore, wext, ne_eq, if_true, if_false, exists_eq_left', true_implies, false_implies, exists_const, exists_eq_right, binA, intA, loadA, storeA, pickC, setAt, mapO, argsE, X.isC, resA, oneA, unA, boundA, eqiA, eqsA, fillA, fillE, ASt.fz, strA, simprocAttr, List.length_append, List.append_assoc, app_get_len, app_get_add, app_set_len, app_set_add, e2, h0, e3, h1', e7, e5, e6, q1, q2]
      refine W_loopE (fun i => xs.length - i) (fun i E H T => E 5 = .sl (ints xs) t5 ∧ E 6 = .sl (ints ys) t6 ∧ E 8 = .int (i : Nat) ∧ i ≤ xs.length ∧ i ≤ ys.length ∧ cmpL xs ys = cmpL (xs.drop i) (ys.drop i)) ?_ 0 ⟨e5, e6, rfl, Nat.zero_le _, Nat.zero_le _, by simp⟩
      rintro i E H T ⟨e5, e6, e8, hi, hi2, hcm⟩
      have a1 := ints_all xs
      have a2 := ints_all ys
      rcases Nat.lt_or_ge i xs.length with k1 | k1
      · have r1 := dlt k1
        obtain ⟨m, m1, m2, m3⟩ := ints_get k1
        rcases Nat.lt_or_ge i ys.length with k2 | k2
        · have r2 := dlt k2
          obtain ⟨n, n1, n2, n3⟩ := ints_get k2
          rw [m2, n2, cmpL] at hcm
          by_cases l1 : m < n
          · have s1 : decide (m < n) = true := decide_eq_true l1
            rw [if_pos l1] at hcm
            simp only [↓wpre, wset, wcore, wext, ne_eq, if_true, if_false, exists_eq_left', true_implies, false_implies, exists_const, exists_eq_right, binA, intA, loadA, storeA, pickC, setAt, mapO, argsE, X.isC, resA, oneA, unA, boundA, eqiA, eqsA, fillA, fillE, ASt.fz, strA, simprocAttr, e5, e6, e8, ints_len, r1, r2, m3, n3, a1, a2, s1, hXY, hcm]
          · have s1 : decide (m < n) = false := decide_eq_false l1
            rw [if_neg l1] at hcm
            by_cases l2 : m > n
            · have s2 : decide (m > n) = true := decide_eq_true l2
              rw [if_pos l2] at hcm
              simp only [↓wpre, wset, wcore, wext, ne_eq, if_true, if_false, exists_eq_left', true_implies, false_implies, exists_const, exists_eq_right, binA, intA, loadA, storeA, pickC, setAt, mapO, argsE, X.isC, resA, oneA, unA, boundA, eqiA, eqsA, fillA, fillE, ASt.fz, strA, simprocAttr, e5, e6, e8, ints_len, r1, r2, m3, n3, a1, a2, s1, s2, hXY, hcm]
            · have s2 : decide (m > n) = false := decide_eq_false l2
              rw [if_neg l2] at hcm
              simp only [↓wpre, wset, wcore, wext, ne_eq, if_true, if_false, exists_eq_left', true_implies, false_implies, exists_const, exists_eq_right, binA, intA, loadA, storeA, pickC, setAt, mapO, argsE, X.isC, resA, oneA, unA, boundA, eqiA, eqsA, fillA, fillE, ASt.fz, strA, simprocAttr, e5, e6, e8, ints_len, r1, r2, m3, n3, a1, a2, s1, s2]
              exact EQ_in ⟨i + 1, by omega, e5, e6, next_ixv (by unfold lenB; omega), by omega, by omega, hcm⟩
        · have r2 := dltf k2
          rw [List.drop_eq_nil_of_le k2, cmpL_r] at hcm
          simp only [↓wpre, wset, wcore, wext, ne_eq, if_true, if_false, exists_eq_left', true_implies, false_implies, exists_const, exists_eq_right, binA, intA, loadA, storeA, pickC, setAt, mapO, argsE, X.isC, resA, oneA, unA, boundA, eqiA, eqsA, fillA, fillE, ASt.fz, strA, simprocAttr, e5, e6, e8, ints_len, r1, r2, hXY, hcm]
      · have r1 := dltf k1
        rw [List.drop_eq_nil_of_le k1, cmpL_l] at hcm
        simp only [↓wpre, wset, wcore, wext, ne_eq, if_true, if_false, exists_eq_left', true_implies, false_implies, exists_const, exists_eq_right, binA, intA, loadA, storeA, pickC, setAt, mapO, argsE, X.isC, resA, oneA, unA, boundA, eqiA, eqsA, fillA, fillE, ASt.fz, strA, simprocAttr, e5, e6, e8, ints_len, r1, hXY, hcm]
end Go.Proofs.Eng
