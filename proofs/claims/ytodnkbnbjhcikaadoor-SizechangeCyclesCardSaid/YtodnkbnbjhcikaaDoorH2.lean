/- Lists of calls, decreases, equal lists of numbers. No conditions beyond those in the theorems. -/
import Derived.Test.YtodnkbnbjhcikaaDoorH1
set_option linter.all false
set_option linter.deprecated false
set_option linter.unnecessarySimpa false
set_option linter.unusedVariables false
set_option linter.unusedSimpArgs false
set_option linter.defProp false
namespace Go.Proofs.Eng
open Go Go.Proofs
set_option maxRecDepth 100000
set_option maxHeartbeats 16000000
theorem get2_row {m : List (List Int)} {j k : Nat} {x : List Int} (h : m[j]? = some x) : get2 m j k = x.getD k 0 := by
  unfold get2
  rw [List.getD_eq_getElem?_getD (l := m), h]; rfl
theorem getD_at {l : List Int} {k : Nat} {x : Int} (h : l[k]? = some x) : l.getD k 0 = x := by rw [List.getD_eq_getElem?_getD, h]; rfl
theorem getD_no {l : List Int} {k : Nat} (h : l.length ≤ k) : l.getD k 0 = 0 := by rw [List.getD_eq_getElem?_getD, List.getElem?_eq_none h]; rfl
theorem decB_hit {c : Cl} {j : Nat} (hj : j < c.m.length) (h : get2 c.m j j = 2) : decB c = true := by
  unfold decB
  rw [List.any_eq_true]
  exact ⟨j, List.mem_range.2 hj, by simpa using h⟩
theorem decB_no {c : Cl} (h : ∀ i, i < c.m.length → get2 c.m i i ≠ 2) : decB c = false := by
  unfold decB
  rw [List.any_eq_false]
  intro i hi
  simpa using h i (List.mem_range.1 hi)
theorem decR_ret {c : Cl} {a : AV} (h : ClIs c a) : Out md pfs 25 [a] (· = .bool (decB c)) fun _ => False := by
  obtain ⟨al, t, rfl, h1, h2, h3, h4, h5⟩ := h.of
  have hal := rows_all h1
  have hla := h1.len
  refine out_of pf25_is (Nat.le_of_ble_eq_true rfl) ?_
  simp only [pf25, ↓wpre, wset, wcore, wext, ne_eq, if_true, if_false, exists_eq_left', true_implies, false_implies, exists_const, exists_eq_right, binA, intA, loadA, storeA, pickC, setAt, mapO, argsE, X.isC, resA, oneA, unA, boundA, eqiA, eqsA, fillA, fillE, ASt.fz, strA, simprocAttr]
  refine W_loopE (fun j => al.length - j) (fun j E H T => E 1 = .ptr 0 0 ∧ H[0]? = some (.cells false [.int c.f, .int c.t, .sl al t]) ∧ E 2 = .bool false ∧ E 3 = .int (j : Nat) ∧ j ≤ al.length ∧ ∀ i, i < j → get2 c.m i i ≠ 2) ?_ 0 ⟨rfl, rfl, rfl, rfl, Nat.zero_le _, by omega⟩
  rintro j E H T ⟨e1, h0, e2, e3, hj, hr⟩
  rcases Nat.lt_or_ge j al.length with hlt | hge
  · have q1 := dlt hlt
    obtain ⟨x, tx, g1, g2, g3, g4, g5, g6⟩ := row_get h1 hlt
    have hxa := ints_all x
    have hg := get2_row (k := j) g1
    have hnx : ∀ {P : Prop}, get2 c.m j j ≠ 2 → (∀ i, i < j + 1 → get2 c.m i i ≠ 2) := fun h i hi => by
      rcases Nat.lt_or_ge i j with h' | h'
      · exact hr i h'
      · obtain rfl : i = j := by omega
        exact h
    rcases Nat.lt_or_ge j x.length with hx | hx
    · have q2 := dlt hx
      obtain ⟨n, n1, n2, n3⟩ := ints_get hx
      rw [getD_at n1] at hg
      by_cases h2 : n = 2
      · have q3 : (n == 2) = true := by simp [h2]
        have dd := decB_hit (c := c) (j := j) (by omega) (by rw [hg, h2])
        simp only [↓wpre, wset, wcore, wext, ne_eq, if_true, if_false, exists_eq_left', true_implies, false_implies, exists_const, exists_eq_right, binA, intA, loadA, storeA, pickC, setAt, mapO, argsE, X.isC, resA, oneA, unA, boundA, eqiA, eqsA, fillA, fillE, ASt.fz, strA, simprocAttr, e1, h0, e2, e3, q1, q2, g3, hal, hxa, ints_len, n3, q3, dd]
      · have q3 : (n == 2) = false := by simp [h2]
        simp only [↓wpre, wset, wcore, wext, ne_eq, if_true, if_false, exists_eq_left', true_implies, false_implies, exists_const, exists_eq_right, binA, intA, loadA, storeA, pickC, setAt, mapO, argsE, X.isC, resA, oneA, unA, boundA, eqiA, eqsA, fillA, fillE, ASt.fz, strA, simprocAttr, e1, h0, e2, e3, q1, q2, g3, hal, hxa, ints_len, n3, q3]
        exact EQ_in ⟨j + 1, by omega, e1, h0, e2, next_ixv (by omega), by omega, hnx (P := True) (by rw [hg]; exact h2)⟩
    · have q2 := dltf hx
      rw [getD_no hx] at hg
      simp only [↓wpre, wset, wcore, wext, ne_eq, if_true, if_false, exists_eq_left', true_implies, false_implies, exists_const, exists_eq_right, binA, intA, loadA, storeA, pickC, setAt, mapO, argsE, X.isC, resA, oneA, unA, boundA, eqiA, eqsA, fillA, fillE, ASt.fz, strA, simprocAttr, e1, h0, e2, e3, q1, q2, g3, hal, ints_len]
      exact EQ_in ⟨j + 1, by omega, e1, h0, e2, next_ixv (by omega), by omega, hnx (P := True) (by rw [hg]; omega)⟩
  · have q1 := dltf hge
    have dd := decB_no (c := c) fun i hi => hr i (by omega)
    simp only [↓wpre, wset, wcore, wext, ne_eq, if_true, if_false, exists_eq_left', true_implies, false_implies, exists_const, exists_eq_right, binA, intA, loadA, storeA, pickC, setAt, mapO, argsE, X.isC, resA, oneA, unA, boundA, eqiA, eqsA, fillA, fillE, ASt.fz, strA, simprocAttr, e1, h0, e2, e3, q1, dd]
theorem decP_ret {c : Cl} {a : AV} (h : ClIs c a) : Out md pfs 34 [a] (· = .bool (decB c)) fun _ => False := by
  obtain ⟨al, t, rfl, h1, h2, h3, h4, h5⟩ := h.of
  have hal := rows_all h1
  have hla := h1.len
  refine out_of pf34_is (Nat.le_of_ble_eq_true rfl) ?_
  simp only [pf34, ↓wpre, wset, wcore, wext, ne_eq, if_true, if_false, exists_eq_left', true_implies, false_implies, exists_const, exists_eq_right, binA, intA, loadA, storeA, pickC, setAt, mapO, argsE, X.isC, resA, oneA, unA, boundA, eqiA, eqsA, fillA, fillE, ASt.fz, strA, simprocAttr]
  refine W_loopE (fun j => al.length - j) (fun j E H T => E 6 = .sl al t ∧ E 7 = .int al.length ∧ E 2 = .bool false ∧ E 8 = .int (j : Nat) ∧ j ≤ al.length ∧ ∀ i, i < j → get2 c.m i i ≠ 2) ?_ 0 ⟨rfl, rfl, rfl, rfl, Nat.zero_le _, by omega⟩
  rintro j E H T ⟨e6, e7, e2, e8, hj, hr⟩
  rcases Nat.lt_or_ge j al.length with hlt | hge
  · have q1 := dlt hlt
    obtain ⟨x, tx, g1, g2, g3, g4, g5, g6⟩ := row_get h1 hlt
    have hxa := ints_all x
    have hg := get2_row (k := j) g1
    have hnx : ∀ {P : Prop}, get2 c.m j j ≠ 2 → (∀ i, i < j + 1 → get2 c.m i i ≠ 2) := fun h i hi => by
      rcases Nat.lt_or_ge i j with h' | h'
      · exact hr i h'
      · obtain rfl : i = j := by omega
        exact h
    rcases Nat.lt_or_ge j x.length with hx | hx
    · have q2 := dlt hx
      obtain ⟨n, n1, n2, n3⟩ := ints_get hx
      rw [getD_at n1] at hg
      by_cases h2 : n = 2
      · have q3 : (n == 2) = true := by simp [h2]
        have dd := decB_hit (c := c) (j := j) (by omega) (by rw [hg, h2])
        simp only [↓wpre, wset, wcore, wext, ne_eq, if_true, if_false, exists_eq_left', true_implies, false_implies, exists_const, exists_eq_right, binA, intA, loadA, storeA, pickC, setAt, mapO, argsE, X.isC, resA, oneA, unA, boundA, eqiA, eqsA, fillA, fillE, ASt.fz, strA, simprocAttr, e6, e7, e2, e8, q1, q2, g3, hal, hxa, ints_len, n3, q3, dd]
      · have q3 : (n == 2) = false := by simp [h2]
        simp only [↓wpre, wset, wcore, wext, ne_eq, if_true, if_false, exists_eq_left', true_implies, false_implies, exists_const, exists_eq_right, binA, intA, loadA, storeA, pickC, setAt, mapO, argsE, X.isC, resA, oneA, unA, boundA, eqiA, eqsA, fillA, fillE, ASt.fz, strA, simprocAttr, e6, e7, e2, e8, q1, q2, g3, hal, hxa, ints_len, n3, q3]
        exact EQ_in ⟨j + 1, by omega, e6, e7, e2, next_ixv (by omega), by omega, hnx (P := True) (by rw [hg]; exact h2)⟩
    · have q2 := dltf hx
      rw [getD_no hx] at hg
      simp only [↓wpre, wset, wcore, wext, ne_eq, if_true, if_false, exists_eq_left', true_implies, false_implies, exists_const, exists_eq_right, binA, intA, loadA, storeA, pickC, setAt, mapO, argsE, X.isC, resA, oneA, unA, boundA, eqiA, eqsA, fillA, fillE, ASt.fz, strA, simprocAttr, e6, e7, e2, e8, q1, q2, g3, hal, ints_len]
      exact EQ_in ⟨j + 1, by omega, e6, e7, e2, next_ixv (by omega), by omega, hnx (P := True) (by rw [hg]; omega)⟩
  · have q1 := dltf hge
    have dd := decB_no (c := c) fun i hi => hr i (by omega)
    simp only [↓wpre, wset, wcore, wext, ne_eq, if_true, if_false, exists_eq_left', true_implies, false_implies, exists_const, exists_eq_right, binA, intA, loadA, storeA, pickC, setAt, mapO, argsE, X.isC, resA, oneA, unA, boundA, eqiA, eqsA, fillA, fillE, ASt.fz, strA, simprocAttr, e6, e7, e2, e8, q1, dd]
theorem eq_ret {l m : List Int} {t u : Tl} (hl : l.length ≤ lenB) : Out md pfs 35 [.sl (ints l) t, .sl (ints m) u] (· = .bool (decide (l = m))) fun _ => False := by
  have hal := ints_all l
  have hbl := ints_all m
  refine out_of pf35_is (Nat.le_of_ble_eq_true rfl) ?_
  by_cases hn : l.length = m.length
  case neg =>
    have d3 : ((l.length : Int) != m.length) = true := ibne (by omega)
    have dd : decide (l = m) = false := decide_eq_false fun e => hn (by rw [e])
    simp only [pf35, ↓wpre, wset, wcore, wext, ne_eq, if_true, if_false, exists_eq_left', true_implies, false_implies, exists_const, exists_eq_right, binA, intA, loadA, storeA, pickC, setAt, mapO, argsE, X.isC, resA, oneA, unA, boundA, eqiA, eqsA, fillA, fillE, ASt.fz, strA, simprocAttr, ints_len, d3, dd]
  have d3 : ((l.length : Int) != m.length) = false := ibne' (by omega)
  simp only [pf35, ↓wpre, wset, wcore, wext, ne_eq, if_true, if_false, exists_eq_left', true_implies, false_implies, exists_const, exists_eq_right, binA, intA, loadA, storeA, pickC, setAt, mapO, argsE, X.isC, resA, oneA, unA, boundA, eqiA, eqsA, fillA, fillE, ASt.fz, strA, simprocAttr, ints_len, d3]
  refine W_loopE (fun j => l.length - j) (fun j E H T => E 0 = .sl (ints l) t ∧ E 1 = .sl (ints m) u ∧ E 12 = .int l.length ∧ E 13 = .int (j : Nat) ∧ j ≤ l.length ∧ l.take j = m.take j) ?_ 0 ⟨rfl, rfl, rfl, rfl, Nat.zero_le _, by simp⟩
  rintro j E H T ⟨e0, e1, e12, e13, hj, hr⟩
  rcases Nat.lt_or_ge j l.length with hlt | hge
  · have q1 := dlt hlt
    obtain ⟨x, x1, x2, x3⟩ := ints_get hlt
    obtain ⟨y, y1, y2, y3⟩ := ints_get (show j < m.length by omega)
    by_cases hxy : x = y
    · have d4 := ibne' hxy
      simp only [↓wpre, wset, wcore, wext, ne_eq, if_true, if_false, exists_eq_left', true_implies, false_implies, exists_const, exists_eq_right, binA, intA, loadA, storeA, pickC, setAt, mapO, argsE, X.isC, resA, oneA, unA, boundA, eqiA, eqsA, fillA, fillE, ASt.fz, strA, simprocAttr, e0, e1, e12, e13, q1, hal, hbl, x3, y3, d4]
      exact EQ_in ⟨j + 1, by omega, e0, e1, e12, next_ixv (by omega), by omega, take_eq hr x1 (by rw [y1, hxy])⟩
    · have d4 := ibne hxy
      have dd : decide (l = m) = false := decide_eq_false (get_ne x1 y1 hxy)
      simp only [↓wpre, wset, wcore, wext, ne_eq, if_true, if_false, exists_eq_left', true_implies, false_implies, exists_const, exists_eq_right, binA, intA, loadA, storeA, pickC, setAt, mapO, argsE, X.isC, resA, oneA, unA, boundA, eqiA, eqsA, fillA, fillE, ASt.fz, strA, simprocAttr, e0, e1, e12, e13, q1, hal, hbl, x3, y3, d4, dd]
  · have q1 := dltf hge
    have dd : decide (l = m) = true := decide_eq_true (take_all hr (by omega) (by omega))
    simp only [↓wpre, wset, wcore, wext, ne_eq, if_true, if_false, exists_eq_left', true_implies, false_implies, exists_const, exists_eq_right, binA, intA, loadA, storeA, pickC, setAt, mapO, argsE, X.isC, resA, oneA, unA, boundA, eqiA, eqsA, fillA, fillE, ASt.fz, strA, simprocAttr, e0, e1, e12, e13, q1, dd]
end Go.Proofs.Eng
