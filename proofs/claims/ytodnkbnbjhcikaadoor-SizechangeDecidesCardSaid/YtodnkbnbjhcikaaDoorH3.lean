/- Correct calls: the reference's form, the program's formed. No conditions beyond those in the theorems. -/
import Derived.Test.YtodnkbnbjhcikaaDoorH2
set_option linter.all false
set_option linter.deprecated false
set_option linter.unnecessarySimpa false
set_option linter.unusedVariables false
set_option linter.unusedSimpArgs false
set_option linter.defProp false
namespace Go.Proofs.Eng
open Go Go.Proofs
set_option maxRecDepth 100000
set_option maxHeartbeats 16000000
theorem formB_iff {c : Cl} : formB c = true ↔ 0 ≤ c.f ∧ 0 ≤ c.t ∧ 1 ≤ c.m.length ∧ c.m.length ≤ 16 ∧ 1 ≤ colN c ∧ colN c ≤ 16 ∧ ∀ r ∈ c.m, rowB (colN c) r = true := by
  unfold formB
  simp only [Bool.and_eq_true, decide_eq_true_eq, List.all_eq_true, and_assoc]
theorem formB_no {c : Cl} (h : ¬ (0 ≤ c.f ∧ 0 ≤ c.t ∧ 1 ≤ c.m.length ∧ c.m.length ≤ 16 ∧ 1 ≤ colN c ∧ colN c ≤ 16 ∧ ∀ r ∈ c.m, rowB (colN c) r = true)) : formB c = false := by
  cases e : formB c with
  | false => rfl
  | true => exact absurd (formB_iff.1 e) h
theorem rowB_iff {n : Nat} {r : List Int} : rowB n r = true ↔ r.length = n ∧ ∀ x ∈ r, 0 ≤ x ∧ x ≤ 2 := by
  unfold rowB
  simp only [Bool.and_eq_true, beq_iff_eq, List.all_eq_true, decide_eq_true_eq]
theorem dneg {x : Int} (h : x < 0) : decide (x < 0) = true := decide_eq_true h
theorem dneg' {x : Int} (h : 0 ≤ x) : decide (x < 0) = false := decide_eq_false (by omega)
theorem dg2 {x : Int} (h : 2 < x) : decide (x > 2) = true := decide_eq_true h
theorem dg2' {x : Int} (h : x ≤ 2) : decide (x > 2) = false := decide_eq_false (by omega)
theorem dl1 {n : Nat} (h : n < 1) : decide ((n : Int) < 1) = true := decide_eq_true (by omega)
theorem dl1' {n : Nat} (h : 1 ≤ n) : decide ((n : Int) < 1) = false := decide_eq_false (by omega)
theorem dg16 {n : Nat} (h : 16 < n) : decide ((n : Int) > 16) = true := decide_eq_true (by omega)
theorem dg16' {n : Nat} (h : n ≤ 16) : decide ((n : Int) > 16) = false := decide_eq_false (by omega)
theorem head_is {c : Cl} {al : List AV} (h : LIs RowIs c.m al) (hl : 1 ≤ al.length) : ∃ x t, al[0]? = some (.sl (ints x) t) ∧ c.m[0]? = some x ∧ colN c = x.length ∧ x.length ≤ lenB := by
  obtain ⟨x, tx, g1, g2, g3, g4, g5, g6⟩ := row_get h (show 0 < al.length by omega)
  refine ⟨x, tx, g3, g1, ?_, g5⟩
  unfold colN
  cases hm : c.m with
  | nil => rw [hm] at g1; simp at g1
  | cons y l => rw [hm] at g1; simp at g1; subst g1; rfl
theorem form_ret {c : Cl} {a : AV} (h : ClIs c a) : Out md pfs 49 [a] (· = .int (if formB c then 0 else 3)) fun _ => False := by
  obtain ⟨al, t, rfl, h1, h2, h3, h4, h5⟩ := h.of
  have hal := rows_all h1
  have hla := h1.len
  refine out_of pf49_is (Nat.le_of_ble_eq_true rfl) ?_
  rcases Int.lt_or_le c.f 0 with hf | hf
  · have d1 := dneg hf
    have dd := formB_no (c := c) (fun h => by omega)
    simp only [pf49, ↓wpre, wset, wcore, wext, ne_eq, if_true, if_false, exists_eq_left', true_implies, false_implies, exists_const, exists_eq_right, binA, intA, loadA, storeA, pickC, setAt, mapO, argsE, X.isC, resA, oneA, unA, boundA, eqiA, eqsA, fillA, fillE, ASt.fz, strA, simprocAttr, d1, dd]
  have d1 := dneg' hf
  rcases Int.lt_or_le c.t 0 with ht | ht
  · have d2 := dneg ht
    have dd := formB_no (c := c) (fun h => by omega)
    simp only [pf49, ↓wpre, wset, wcore, wext, ne_eq, if_true, if_false, exists_eq_left', true_implies, false_implies, exists_const, exists_eq_right, binA, intA, loadA, storeA, pickC, setAt, mapO, argsE, X.isC, resA, oneA, unA, boundA, eqiA, eqsA, fillA, fillE, ASt.fz, strA, simprocAttr, d1, d2, dd]
  have d2 := dneg' ht
  rcases Nat.lt_or_ge al.length 1 with hl | hl
  · have d3 := dl1 hl
    have dd := formB_no (c := c) (fun h => by omega)
    simp only [pf49, ↓wpre, wset, wcore, wext, ne_eq, if_true, if_false, exists_eq_left', true_implies, false_implies, exists_const, exists_eq_right, binA, intA, loadA, storeA, pickC, setAt, mapO, argsE, X.isC, resA, oneA, unA, boundA, eqiA, eqsA, fillA, fillE, ASt.fz, strA, simprocAttr, d1, d2, d3, dd]
  have d3 := dl1' hl
  rcases Nat.lt_or_ge 16 al.length with hl2 | hl2
  · have d4 := dg16 hl2
    have dd := formB_no (c := c) (fun h => by omega)
    simp only [pf49, ↓wpre, wset, wcore, wext, ne_eq, if_true, if_false, exists_eq_left', true_implies, false_implies, exists_const, exists_eq_right, binA, intA, loadA, storeA, pickC, setAt, mapO, argsE, X.isC, resA, oneA, unA, boundA, eqiA, eqsA, fillA, fillE, ASt.fz, strA, simprocAttr, d1, d2, d3, d4, dd]
  have d4 := dg16' hl2
  obtain ⟨x0, tx0, y1, y2, y3, y4⟩ := head_is h1 hl
  rcases Nat.lt_or_ge x0.length 1 with hx | hx
  · have d5 := dl1 hx
    have dd := formB_no (c := c) (fun h => by omega)
    simp only [pf49, ↓wpre, wset, wcore, wext, ne_eq, if_true, if_false, exists_eq_left', true_implies, false_implies, exists_const, exists_eq_right, binA, intA, loadA, storeA, pickC, setAt, mapO, argsE, X.isC, resA, oneA, unA, boundA, eqiA, eqsA, fillA, fillE, ASt.fz, strA, simprocAttr, d1, d2, d3, d4, y1, hal, ints_len, d5, dd]
  have d5 := dl1' hx
  rcases Nat.lt_or_ge 16 x0.length with hx2 | hx2
  · have d6 := dg16 hx2
    have dd := formB_no (c := c) (fun h => by omega)
    simp only [pf49, ↓wpre, wset, wcore, wext, ne_eq, if_true, if_false, exists_eq_left', true_implies, false_implies, exists_const, exists_eq_right, binA, intA, loadA, storeA, pickC, setAt, mapO, argsE, X.isC, resA, oneA, unA, boundA, eqiA, eqsA, fillA, fillE, ASt.fz, strA, simprocAttr, d1, d2, d3, d4, y1, hal, ints_len, d5, d6, dd]
  have d6 := dg16' hx2
  simp only [pf49, ↓wpre, wset, wcore, wext, ne_eq, if_true, if_false, exists_eq_left', true_implies, false_implies, exists_const, exists_eq_right, binA, intA, loadA, storeA, pickC, setAt, mapO, argsE, X.isC, resA, oneA, unA, boundA, eqiA, eqsA, fillA, fillE, ASt.fz, strA, simprocAttr, d1, d2, d3, d4, y1, hal, ints_len, d5, d6]
  refine W_loopE (fun j => al.length - j) (fun j E H T => E 1 = .ptr 0 0 ∧ H[0]? = some (.cells false [.int c.f, .int c.t, .sl al t]) ∧ E 3 = .int x0.length ∧ E 4 = .int (j : Nat) ∧ j ≤ al.length ∧ ∀ r ∈ c.m.take j, rowB x0.length r = true) ?_ 0 ⟨rfl, rfl, rfl, rfl, Nat.zero_le _, by simp⟩
  rintro j E H T ⟨e1, h0, e3, e4, hj, hr⟩
  rcases Nat.lt_or_ge j al.length with hlt | hge
  · have q1 := dlt hlt
    obtain ⟨x, tx, g1, g2, g3, g4, g5, g6⟩ := row_get h1 hlt
    have xal := ints_all x
    by_cases hxl : x.length = x0.length
    case neg =>
      have q2 : ((x.length : Int) != x0.length) = true := ibne (by omega)
      have dd := formB_no (c := c) (fun h => hxl (by rw [← y3]; exact (rowB_iff.1 (h.2.2.2.2.2.2 x g2)).1))
      simp only [↓wpre, wset, wcore, wext, ne_eq, if_true, if_false, exists_eq_left', true_implies, false_implies, exists_const, exists_eq_right, binA, intA, loadA, storeA, pickC, setAt, mapO, argsE, X.isC, resA, oneA, unA, boundA, eqiA, eqsA, fillA, fillE, ASt.fz, strA, simprocAttr, e1, h0, e3, e4, q1, g3, hal, ints_len, q2, dd]
    have q2 : ((x.length : Int) != x0.length) = false := ibne' (by omega)
    simp only [↓wpre, wset, wcore, wext, ne_eq, if_true, if_false, exists_eq_left', true_implies, false_implies, exists_const, exists_eq_right, binA, intA, loadA, storeA, pickC, setAt, mapO, argsE, X.isC, resA, oneA, unA, boundA, eqiA, eqsA, fillA, fillE, ASt.fz, strA, simprocAttr, e1, h0, e3, e4, q1, g3, hal, ints_len, q2]
    refine W_loopE (fun k => x0.length - k) (fun k E H T => E 1 = .ptr 0 0 ∧ H[0]? = some (.cells false [.int c.f, .int c.t, .sl al t]) ∧ E 3 = .int x0.length ∧ E 4 = .int (j : Nat) ∧ E 5 = .int (k : Nat) ∧ k ≤ x0.length ∧ ∀ e ∈ x.take k, 0 ≤ e ∧ e ≤ 2) ?_ 0 ⟨e1, h0, e3, e4, rfl, Nat.zero_le _, by simp⟩
    clear e1 h0 e3 e4
    rintro k E H T ⟨e1, h0, e3, e4, e5, hk, hr2⟩
    rcases Nat.lt_or_ge k x0.length with hlt2 | hge2
    · have q3 := dlt hlt2
      obtain ⟨m, m1, m2, m3⟩ := ints_get (show k < x.length by omega)
      have hbad : ¬ (0 ≤ m ∧ m ≤ 2) → formB c = false := fun hm => formB_no fun h => hm ((rowB_iff.1 (h.2.2.2.2.2.2 x g2)).2 m (List.mem_of_getElem? m1))
      rcases Int.lt_or_le m 0 with hm | hm
      · have q4 := dneg hm
        have dd := hbad (by omega)
        simp only [↓wpre, wset, wcore, wext, ne_eq, if_true, if_false, exists_eq_left', true_implies, false_implies, exists_const, exists_eq_right, binA, intA, loadA, storeA, pickC, setAt, mapO, argsE, X.isC, resA, oneA, unA, boundA, eqiA, eqsA, fillA, fillE, ASt.fz, strA, simprocAttr, e1, h0, e3, e4, e5, q3, g3, hal, xal, m3, q4, dd]
      · have q4 := dneg' hm
        rcases Int.lt_or_le 2 m with hm2 | hm2
        · have q5 := dg2 hm2
          have dd := hbad (by omega)
          simp only [↓wpre, wset, wcore, wext, ne_eq, if_true, if_false, exists_eq_left', true_implies, false_implies, exists_const, exists_eq_right, binA, intA, loadA, storeA, pickC, setAt, mapO, argsE, X.isC, resA, oneA, unA, boundA, eqiA, eqsA, fillA, fillE, ASt.fz, strA, simprocAttr, e1, h0, e3, e4, e5, q3, g3, hal, xal, m3, q4, q5, dd]
        · have q5 := dg2' hm2
          simp only [↓wpre, wset, wcore, wext, ne_eq, if_true, if_false, exists_eq_left', true_implies, false_implies, exists_const, exists_eq_right, binA, intA, loadA, storeA, pickC, setAt, mapO, argsE, X.isC, resA, oneA, unA, boundA, eqiA, eqsA, fillA, fillE, ASt.fz, strA, simprocAttr, e1, h0, e3, e4, e5, q3, g3, hal, xal, m3, q4, q5]
          exact EQ_in ⟨k + 1, by omega, e1, h0, e3, e4, next_ixv (by omega), by omega, all_snoc hr2 m1 ⟨hm, hm2⟩⟩
    · have q3 := dltf hge2
      rw [List.take_of_length_le (by omega)] at hr2
      simp only [↓wpre, wset, wcore, wext, ne_eq, if_true, if_false, exists_eq_left', true_implies, false_implies, exists_const, exists_eq_right, binA, intA, loadA, storeA, pickC, setAt, mapO, argsE, X.isC, resA, oneA, unA, boundA, eqiA, eqsA, fillA, fillE, ASt.fz, strA, simprocAttr, e1, h0, e3, e4, e5, q3]
      exact EQ_in ⟨j + 1, by omega, e1, h0, e3, next_ixv (by omega), by omega, all_snoc hr g1 (rowB_iff.2 ⟨hxl, hr2⟩)⟩
  · have q1 := dltf hge
    rw [List.take_of_length_le (by omega)] at hr
    have dd : formB c = true := formB_iff.2 ⟨hf, ht, by omega, by omega, by omega, by omega, by rw [y3]; exact hr⟩
    simp only [↓wpre, wset, wcore, wext, ne_eq, if_true, if_false, exists_eq_left', true_implies, false_implies, exists_const, exists_eq_right, binA, intA, loadA, storeA, pickC, setAt, mapO, argsE, X.isC, resA, oneA, unA, boundA, eqiA, eqsA, fillA, fillE, ASt.fz, strA, simprocAttr, e1, h0, e3, e4, q1, dd]
end Go.Proofs.Eng
