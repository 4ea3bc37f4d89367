/- The reference's check of calls. No conditions beyond those in the theorems. -/
import Derived.Test.YtodnkbnbjhcikaaDoorH2
set_option linter.all false
set_option linter.deprecated false
set_option linter.unnecessarySimpa false
set_option linter.unusedVariables false
set_option linter.unusedSimpArgs false
set_option linter.defProp false
namespace Go.Proofs.Eng
open Go Go.Proofs
set_option maxRecDepth 100000
set_option maxHeartbeats 16000000
theorem formB_iff {c : Cl} : formB c = true ↔ 0 ≤ c.f ∧ 0 ≤ c.t ∧ 1 ≤ c.m.length ∧ c.m.length ≤ 16 ∧ 1 ≤ colN c ∧ colN c ≤ 16 ∧ ∀ r ∈ c.m, rowB (colN c) r = true := by
  unfold formB
  simp only [Bool.and_eq_true, decide_eq_true_eq, List.all_eq_true, and_assoc]
theorem formB_no {c : Cl} (h : ¬ (0 ≤ c.f ∧ 0 ≤ c.t ∧ 1 ≤ c.m.length ∧ c.m.length ≤ 16 ∧ 1 ≤ colN c ∧ colN c ≤ 16 ∧ ∀ r ∈ c.m, rowB (colN c) r = true)) : formB c = false := by
  cases e : formB c with
  | false => rfl
  | true => exact absurd (formB_iff.1 e) h
theorem rowB_iff {n : Nat} {r : List Int} : rowB n r = true ↔ r.length = n ∧ ∀ x ∈ r, 0 ≤ x ∧ x ≤ 2 := by
  unfold rowB
  simp only [Bool.and_eq_true, beq_iff_eq, List.all_eq_true, decide_eq_true_eq]
theorem dneg {x : Int} (h : x < 0) : decide (x < 0) = true := decide_eq_true h
theorem dneg' {x : Int} (h : 0 ≤ x) : decide (x < 0) = false := decide_eq_false (by omega)
theorem dg2 {x : Int} (h : 2 < x) : decide (x > 2) = true := decide_eq_true h
theorem dg2' {x : Int} (h : x ≤ 2) : decide (x > 2) = false := decide_eq_false (by omega)
theorem dl1 {n : Nat} (h : n < 1) : decide ((n : Int) < 1) = true := decide_eq_true (by omega)
theorem dl1' {n : Nat} (h : 1 ≤ n) : decide ((n : Int) < 1) = false := decide_eq_false (by omega)
theorem dg16 {n : Nat} (h : 16 < n) : decide ((n : Int) > 16) = true := decide_eq_true (by omega)
theorem dg16' {n : Nat} (h : n ≤ 16) : decide ((n : Int) > 16) = false := decide_eq_false (by omega)
theorem head_is {c : Cl} {al : List AV} (h : LIs RowIs c.m al) (hl : 1 ≤ al.length) : ∃ x t, al[0]? = some (.sl (ints x) t) ∧ c.m[0]? = some x ∧ colN c = x.length ∧ x.length ≤ lenB := by
  obtain ⟨x, tx, g1, g2, g3, g4, g5, g6⟩ := row_get h (show 0 < al.length by omega)
  refine ⟨x, tx, g3, g1, ?_, g5⟩
  unfold colN
  cases hm : c.m with
  | nil => rw [hm] at g1; simp at g1
  | cons y l => rw [hm] at g1; simp at g1; subst g1; rfl
theorem form_ret {c : Cl} {a : AV} (h : ClIs c a) : Out md pfs 49 [a] (· = .int (if formB c then 0 else 3)) fun _ => False := by
  obtain ⟨al, t, rfl, h1, h2, h3, h4, h5⟩ := h.of
  have hal := rows_all h1
  have hla := h1.len
  refine out_of pf49_is (Nat.le_of_ble_eq_true rfl) ?_
  rcases Int.lt_or_le c.f 0 with hf | hf
  · have d1 := dneg hf
    have dd := formB_no (c := c) (fun h => by omega)
    simp only [pf49, ↓wpre, wset, wcore, wext, ne_eq, if_true, if_false, exists_eq_left', true_implies, false_implies, exists_const, exists_eq_right, binA, intA, loadA, storeA, pickC, setAt, mapO, argsE, X.isC, resA, oneA, unA, boundA, eqiA, eqsA, fillA, fillE, ASt.fz, strA, simprocAttr, d1, dd]
  have d1 := dneg' hf
  rcases Int.lt_or_le c.t 0 with ht | ht
  · have d2 := dneg ht
    have dd := formB_no (c := c) (fun h => by omega)
    simp only [pf49, ↓wpre, wset, wcore, wext, ne_eq, if_true, if_false, exists_eq_left', true_implies, false_implies, exists_const, exists_eq_right, binA, intA, loadA, storeA, pickC, setAt, mapO, argsE, X.isC, resA, oneA, unA, boundA, eqiA, eqsA, fillA, fillE, ASt.fz, strA, simprocAttr, d1, d2, dd]
  have d2 := dneg' ht
  rcases Nat.lt_or_ge al.length 1 with hl | hl
  · have d3 := dl1 hl
    have dd := formB_no (c := c) (fun h => by omega)
    simp only [pf49, ↓wpre, wset, wcore, wext, ne_eq, if_true, if_false, exists_eq_left', true_implies, false_implies, exists_const, exists_eq_right, binA, intA, loadA, storeA, pickC, setAt, mapO, argsE, X.isC, resA, oneA, unA, boundA, eqiA, eqsA, fillA, fillE, ASt.fz, strA, simprocAttr, d1, d2, d3, dd]
  have d3 := dl1' hl
  rcases Nat.lt_or_ge 16 al.length with hl2 | hl2
  · have d4 := dg16 hl2
    have dd := formB_no (c := c) (fun h => by omega)
    simp only [pf49, ↓wpre, wset, wcore, wext, ne_eq, if_true, if_false, exists_eq_left', true_implies, false_implies, exists_const, exists_eq_right, binA, intA, loadA, storeA, pickC, setAt, mapO, argsE, X.isC, resA, oneA, unA, boundA, eqiA, eqsA, fillA, fillE, ASt.fz, strA, simprocAttr, d1, d2, d3, d4, dd]
  have d4 := dg16' hl2
  obtain ⟨x0, tx0, y1, y2, y3, y4⟩ := head_is h1 hl
  rcases Nat.lt_or_ge x0.length 1 with hx | hx
  · have d5 := dl1 hx
    have dd := formB_no (c := c) (fun h => by omega)
    simp only [pf49, ↓wpre, wset, wcore, wext, ne_eq, if_true, if_false, exists_eq_left', true_implies, false_implies, exists_const, exists_eq_right, binA, intA, loadA, storeA, pickC, setAt, mapO, argsE, X.isC, resA, oneA, unA, boundA, eqiA, eqsA, fillA, fillE, ASt.fz, strA, simprocAttr, d1, d2, d3, d4, y1, hal, ints_len, d5, dd]
  have d5 := dl1' hx
  rcases Nat.lt_or_ge 16 x0.length with hx2 | hx2
  · have d6 := dg16 hx2
    have dd := formB_no (c := c) (fun h => by omega)
    simp only [pf49, ↓wpre, wset, wcore, wext, ne_eq, if_true, if_false, exists_eq_left', true_implies, false_implies, exists_const, exists_eq_right, binA, intA, loadA, storeA, pickC, setAt, mapO, argsE, X.isC, resA, oneA, unA, boundA, eqiA, eqsA, fillA, fillE, ASt.fz, strA, simprocAttr, d1, d2, d3, d4, y1, hal, ints_len, d5, d6, dd]
  have d6 := dg16' hx2
  simp only [pf49, ↓wpre, wset, wcore, wext, ne_eq, if_true, if_false, exists_eq_left', true_implies, false_implies, exists_const, exists_eq_right, binA, intA, loadA, storeA, pickC, setAt, mapO, argsE, X.isC, resA, oneA, unA, boundA, eqiA, eqsA, fillA, fillE, ASt.fz, strA, simprocAttr, d1, d2, d3, d4, y1, hal, ints_len, d5, d6]
  refine W_loopE (fun j => al.length - j) (fun j E H T => E 1 = .ptr 0 0 ∧ H[0]? = some (.cells false [.int c.f, .int c.t, .sl al t]) ∧ E 3 = .int x0.length ∧ E 4 = .int (j : Nat) ∧ j ≤ al.length ∧ ∀ r ∈ c.m.take j, rowB x0.length r = true) ?_ 0 ⟨rfl, rfl, rfl, rfl, Nat.zero_le _, by simp⟩
  rintro j E H T ⟨e1, h0, e3, e4, hj, hr⟩
  rcases Nat.lt_or_ge j al.length with hlt | hge
  · have q1 := dlt hlt
    obtain ⟨x, tx, g1, g2, g3, g4, g5, g6⟩ := row_get h1 hlt
    have xal := ints_all x
    by_cases hxl : x.length = x0.length
    case neg =>
      have q2 : ((x.length : Int) != x0.length) = true := ibne (by omega)
      have dd := formB_no (c := c) (fun h => hxl (by rw [← y3]; exact (rowB_iff.1 (h.2.2.2.2.2.2 x g2)).1))
      simp only [↓wpre, wset, wcore, wext, ne_eq, if_true, if_false, exists_eq_left', true_implies, false_implies, exists_const, exists_eq_right, binA, intA, loadA, storeA, pickC, setAt, mapO, argsE, X.isC, resA, oneA, unA, boundA, eqiA, eqsA, fillA, fillE, ASt.fz, strA, simprocAttr, e1, h0, e3, e4, q1, g3, hal, ints_len, q2, dd]
    have q2 : ((x.length : Int) != x0.length) = false := ibne' (by omega)
    simp only [↓wpre, wset, wcore, wext, ne_eq, if_true, if_false, exists_eq_left', true_implies, false_implies, exists_const, exists_eq_right, binA, intA, loadA, storeA, pickC, setAt, mapO, argsE, X.isC, resA, oneA, unA, boundA, eqiA, eqsA, fillA, fillE, ASt.fz, strA, simprocAttr, e1, h0, e3, e4, q1, g3, hal, ints_len, q2]
    refine W_loopE (fun k => x0.length - k) (fun k E H T => E 1 = .ptr 0 0 ∧ H[0]? = some (.cells false [.int c.f, .int c.t, .sl al t]) ∧ E 3 = .int x0.length ∧ E 4 = .int (j : Nat) ∧ E 5 = .int (k : Nat) ∧ k ≤ x0.length ∧ ∀ e ∈ x.take k, 0 ≤ e ∧ e ≤ 2) ?_ 0 ⟨e1, h0, e3, e4, rfl, Nat.zero_le _, by simp⟩
    clear e1 h0 e3 e4
    rintro k E H T ⟨e1, h0, e3, e4, e5, hk, hr2⟩
    rcases Nat.lt_or_ge k x0.length with hlt2 | hge2
    · have q3 := dlt hlt2
      obtain ⟨m, m1, m2, m3⟩ := ints_get (show k < x.length by omega)
      have hbad : ¬ (0 ≤ m ∧ m ≤ 2) → formB c = false := fun hm => formB_no fun h => hm ((rowB_iff.1 (h.2.2.2.2.2.2 x g2)).2 m (List.mem_of_getElem? m1))
      rcases Int.lt_or_le m 0 with hm | hm
      · have q4 := dneg hm
        have dd := hbad (by omega)
        simp only [↓wpre, wset, wcore, wext, ne_eq, if_true, if_false, exists_eq_left', true_implies, false_implies, exists_const, exists_eq_right, binA, intA, loadA, storeA, pickC, setAt, mapO, argsE, X.isC, resA, oneA, unA, boundA, eqiA, eqsA, fillA, fillE, ASt.fz, strA, simprocAttr, e1, h0, e3, e4, e5, q3, g3, hal, xal, m3, q4, dd]
      · have q4 := dneg' hm
        rcases Int.lt_or_le 2 m with hm2 | hm2
        · have q5 := dg2 hm2
          have dd := hbad (by omega)
          simp only [↓wpre, wset, wcore, wext, ne_eq, if_true, if_false, exists_eq_left', true_implies, false_implies, exists_const, exists_eq_right, binA, intA, loadA, storeA, pickC, setAt, mapO, argsE, X.isC, resA, oneA, unA, boundA, eqiA, eqsA, fillA, fillE, ASt.fz, strA, simprocAttr, e1, h0, e3, e4, e5, q3, g3, hal, xal, m3, q4, q5, dd]
        · have q5 := dg2' hm2
          simp only [↓wpre, wset, wcore, wext, ne_eq, if_true, if_false, exists_eq_left', true_implies, false_implies, exists_const, exists_eq_right, binA, intA, loadA, storeA, pickC, setAt, mapO, argsE, X.isC, resA, oneA, unA, boundA, eqiA, eqsA, fillA, fillE, ASt.fz, strA, simprocAttr, e1, h0, e3, e4, e5, q3, g3, hal, xal, m3, q4, q5]
          exact EQ_in ⟨k + 1, by omega, e1, h0, e3, e4, next_ixv (by omega), by omega, all_snoc hr2 m1 ⟨hm, hm2⟩⟩
    · have q3 := dltf hge2
      rw [List.take_of_length_le (by omega)] at hr2
      simp only [↓wpre, wset, wcore, wext, ne_eq, if_true, if_false, exists_eq_left', true_implies, false_implies, exists_const, exists_eq_right, binA, intA, loadA, storeA, pickC, setAt, mapO, argsE, X.isC, resA, oneA, unA, boundA, eqiA, eqsA, fillA, fillE, ASt.fz, strA, simprocAttr, e1, h0, e3, e4, e5, q3]
      exact EQ_in ⟨j + 1, by omega, e1, h0, e3, next_ixv (by omega), by omega, all_snoc hr g1 (rowB_iff.2 ⟨hxl, hr2⟩)⟩
  · have q1 := dltf hge
    rw [List.take_of_length_le (by omega)] at hr
    have dd : formB c = true := formB_iff.2 ⟨hf, ht, by omega, by omega, by omega, by omega, by rw [y3]; exact hr⟩
    simp only [↓wpre, wset, wcore, wext, ne_eq, if_true, if_false, exists_eq_left', true_implies, false_implies, exists_const, exists_eq_right, binA, intA, loadA, storeA, pickC, setAt, mapO, argsE, X.isC, resA, oneA, unA, boundA, eqiA, eqsA, fillA, fillE, ASt.fz, strA, simprocAttr, e1, h0, e3, e4, q1, dd]
theorem any_step {α : Type} {l : List α} {j : Nat} {x : α} {P : α → Bool} (h : (l.take j).any P = false) (hx : l[j]? = some x) (hp : P x = false) : (l.take (j + 1)).any P = false := by
  rw [List.take_add_one, hx]; simp [List.any_append, h, hp]
theorem any_hit {α : Type} {l : List α} {j : Nat} {x : α} {P : α → Bool} (hx : l[j]? = some x) (hp : P x = true) : l.any P = true := List.any_eq_true.2 ⟨x, List.mem_of_getElem? hx, hp⟩
theorem dge0 {n : Nat} : decide ((n : Int) ≥ 0) = true := decide_eq_true (by omega)
theorem indexI_ret (f : FuncId) (hf : md f = .pure) (p : Int → Bool) {l : List Int} {t : Tl} (hl : l.length ≤ lenB) (hg : ∀ x ∈ l, Out md pfs f [.int x] (· = .bool (p x)) fun _ => False) :
    Out md pfs 65 [.sl (ints l) t, .fn f []] (fun v => ∃ r : Int, v = .int r ∧ decide (r ≥ 0) = l.any p) fun _ => False := by
  refine out_of pf65_is (Nat.le_of_ble_eq_true rfl) ?_
  simp only [pf65, ↓wpre, wset, wcore, wext, ne_eq, if_true, if_false, exists_eq_left', true_implies, false_implies, exists_const, exists_eq_right, binA, intA, loadA, storeA, pickC, setAt, mapO, argsE, X.isC, resA, oneA, unA, boundA, eqiA, eqsA, fillA, fillE, ASt.fz, strA, simprocAttr]
  refine W_loopE (fun j => l.length - j) (fun j E H T => E 0 = .sl (ints l) t ∧ E 1 = .fn f [] ∧ E 7 = .int l.length ∧ E 8 = .int j ∧ j ≤ l.length ∧ (l.take j).any p = false) ?_ 0 ⟨rfl, rfl, by rw [← ints_len l]; rfl, rfl, Nat.zero_le _, rfl⟩
  rintro j E H T ⟨e0, e1, e7, e8, hj, hn⟩
  rcases Nat.lt_or_ge j l.length with hlt | hge
  · obtain ⟨x, d0, d1, d4⟩ := ints_get hlt
    have hdec := dlt hlt
    obtain ⟨v, rfl, hc⟩ := (hg x (List.mem_of_getElem? d0)).call hf (by simp [pvs_cons, pvs_nil, pv_v])
    cases hp : p x
    · simp only [↓wpre, wset, wcore, wext, ne_eq, if_true, if_false, exists_eq_left', true_implies, false_implies, exists_const, exists_eq_right, binA, intA, loadA, storeA, pickC, setAt, mapO, argsE, X.isC, resA, oneA, unA, boundA, eqiA, eqsA, fillA, fillE, ASt.fz, strA, simprocAttr, e0, e1, e7, e8, hdec, d4, ints_all, ints_len, hc, hp]
      exact EQ_in ⟨j + 1, by omega, e0, e1, e7, next_ixv (by omega), by omega, any_step hn d0 hp⟩
    · simp only [↓wpre, wset, wcore, wext, ne_eq, if_true, if_false, exists_eq_left', true_implies, false_implies, exists_const, exists_eq_right, binA, intA, loadA, storeA, pickC, setAt, mapO, argsE, X.isC, resA, oneA, unA, boundA, eqiA, eqsA, fillA, fillE, ASt.fz, strA, simprocAttr, e0, e1, e7, e8, hdec, d4, ints_all, ints_len, hc, hp]
      exact ⟨_, rfl, by rw [dge0, any_hit d0 hp]⟩
  · have hdec := dltf hge
    simp only [↓wpre, wset, wcore, wext, ne_eq, if_true, if_false, exists_eq_left', true_implies, false_implies, exists_const, exists_eq_right, binA, intA, loadA, storeA, pickC, setAt, mapO, argsE, X.isC, resA, oneA, unA, boundA, eqiA, eqsA, fillA, fillE, ASt.fz, strA, simprocAttr, e0, e1, e7, e8, hdec, ints_len]
    rw [List.take_of_length_le (by omega)] at hn
    exact ⟨_, rfl, by rw [hn]; rfl⟩
theorem containsI_ret {p : Int → Bool} (f : FuncId) (hf : md f = .pure) {l : List Int} {t : Tl} (ht : t.pure = true) (hl : l.length ≤ lenB) (hg : ∀ x ∈ l, Out md pfs f [.int x] (· = .bool (p x)) fun _ => False) : Out md pfs 56 [.sl (ints l) t, .fn f []] (· = .bool (l.any p)) fun _ => False := by
  refine out_of pf56_is (Nat.le_of_ble_eq_true rfl) ?_
  obtain ⟨v, ⟨r, rfl, hr⟩, hc⟩ := (indexI_ret f hf p (t := t) hl hg).call rfl (by simp [pvs_cons, pvs_nil, pv_sl, pv_fn, ht, ints_pure])
  simp only [pf56, ↓wpre, wset, wcore, wext, ne_eq, if_true, if_false, exists_eq_left', true_implies, false_implies, exists_const, exists_eq_right, binA, intA, loadA, storeA, pickC, setAt, mapO, argsE, X.isC, resA, oneA, unA, boundA, eqiA, eqsA, fillA, fillE, ASt.fz, strA, simprocAttr, hc, hr]
theorem indexR_ret (f : FuncId) (caps : List AV) (hf : md f = .pure) (hcap : pureAVs caps = true) (p : List Int → Bool) {l : List (List Int)} {al : List AV} {t : Tl} (h : LIs RowIs l al) (hl : al.length ≤ lenB) (hg : ∀ x a, RowIs x a → Out md pfs f (a :: caps) (· = .bool (p x)) fun _ => False) :
    Out md pfs 64 [.sl al t, .fn f caps] (fun v => ∃ r : Int, v = .int r ∧ decide (r ≥ 0) = l.any p) fun _ => False := by
  have hall := rows_all h
  have hln := h.len
  refine out_of pf64_is (Nat.le_of_ble_eq_true rfl) ?_
  simp only [pf64, ↓wpre, wset, wcore, wext, ne_eq, if_true, if_false, exists_eq_left', true_implies, false_implies, exists_const, exists_eq_right, binA, intA, loadA, storeA, pickC, setAt, mapO, argsE, X.isC, resA, oneA, unA, boundA, eqiA, eqsA, fillA, fillE, ASt.fz, strA, simprocAttr]
  refine W_loopE (fun j => al.length - j) (fun j E H T => E 0 = .sl al t ∧ E 1 = .fn f caps ∧ E 7 = .int al.length ∧ E 8 = .int j ∧ j ≤ al.length ∧ (l.take j).any p = false) ?_ 0 ⟨rfl, rfl, rfl, rfl, Nat.zero_le _, rfl⟩
  rintro j E H T ⟨e0, e1, e7, e8, hj, hn⟩
  rcases Nat.lt_or_ge j al.length with hlt | hge
  · obtain ⟨x, tx, d0, d1, d4, d5, d6, d7⟩ := row_get h hlt
    have hdec := dlt hlt
    obtain ⟨v, rfl, hc⟩ := (hg x _ (RowIs.mk d5 d6 d7)).call hf (by simp [pvs_cons, pv_sl, Tl.fast.pure d5, ints_pure, hcap])
    cases hp : p x
    · simp only [↓wpre, wset, wcore, wext, ne_eq, if_true, if_false, exists_eq_left', true_implies, false_implies, exists_const, exists_eq_right, binA, intA, loadA, storeA, pickC, setAt, mapO, argsE, X.isC, resA, oneA, unA, boundA, eqiA, eqsA, fillA, fillE, ASt.fz, strA, simprocAttr, e0, e1, e7, e8, hdec, d4, hall, hc, hp]
      exact EQ_in ⟨j + 1, by omega, e0, e1, e7, next_ixv (by omega), by omega, any_step hn d0 hp⟩
    · simp only [↓wpre, wset, wcore, wext, ne_eq, if_true, if_false, exists_eq_left', true_implies, false_implies, exists_const, exists_eq_right, binA, intA, loadA, storeA, pickC, setAt, mapO, argsE, X.isC, resA, oneA, unA, boundA, eqiA, eqsA, fillA, fillE, ASt.fz, strA, simprocAttr, e0, e1, e7, e8, hdec, d4, hall, hc, hp]
      exact ⟨_, rfl, by rw [dge0, any_hit d0 hp]⟩
  · have hdec := dltf hge
    simp only [↓wpre, wset, wcore, wext, ne_eq, if_true, if_false, exists_eq_left', true_implies, false_implies, exists_const, exists_eq_right, binA, intA, loadA, storeA, pickC, setAt, mapO, argsE, X.isC, resA, oneA, unA, boundA, eqiA, eqsA, fillA, fillE, ASt.fz, strA, simprocAttr, e0, e1, e7, e8, hdec]
    rw [List.take_of_length_le (by omega)] at hn
    exact ⟨_, rfl, by rw [hn]; rfl⟩
theorem containsR_ret {p : List Int → Bool} (f : FuncId) (caps : List AV) (hf : md f = .pure) (hcap : pureAVs caps = true) {l : List (List Int)} {al : List AV} {t : Tl} (ht : t.pure = true) (h : LIs RowIs l al) (hl : al.length ≤ lenB) (hg : ∀ x a, RowIs x a → Out md pfs f (a :: caps) (· = .bool (p x)) fun _ => False) : Out md pfs 54 [.sl al t, .fn f caps] (· = .bool (l.any p)) fun _ => False := by
  refine out_of pf54_is (Nat.le_of_ble_eq_true rfl) ?_
  obtain ⟨v, ⟨r, rfl, hr⟩, hc⟩ := (indexR_ret f caps hf hcap p (t := t) h hl hg).call rfl (by simp [pvs_cons, pvs_nil, pv_sl, pv_fn, ht, rowsPure h, hcap])
  simp only [pf54, ↓wpre, wset, wcore, wext, ne_eq, if_true, if_false, exists_eq_left', true_implies, false_implies, exists_const, exists_eq_right, binA, intA, loadA, storeA, pickC, setAt, mapO, argsE, X.isC, resA, oneA, unA, boundA, eqiA, eqsA, fillA, fillE, ASt.fz, strA, simprocAttr, hc, hr]
theorem indexC_ret (f : FuncId) (hf : md f = .pure) (p : Cl → Bool) {l : List Cl} {al : List AV} {t : Tl} (h : LIs ClIs l al) (hl : al.length ≤ lenB) (hg : ∀ x a, ClIs x a → Out md pfs f [a] (· = .bool (p x)) fun _ => False) :
    Out md pfs 53 [.sl al t, .fn f []] (fun v => ∃ r : Int, v = .int r ∧ decide (r ≥ 0) = l.any p) fun _ => False := by
  have hall := h.all clAgg
  have hln := h.len
  refine out_of pf53_is (Nat.le_of_ble_eq_true rfl) ?_
  simp only [pf53, ↓wpre, wset, wcore, wext, ne_eq, if_true, if_false, exists_eq_left', true_implies, false_implies, exists_const, exists_eq_right, binA, intA, loadA, storeA, pickC, setAt, mapO, argsE, X.isC, resA, oneA, unA, boundA, eqiA, eqsA, fillA, fillE, ASt.fz, strA, simprocAttr]
  refine W_loopE (fun j => al.length - j) (fun j E H T => E 0 = .sl al t ∧ E 1 = .fn f [] ∧ E 7 = .int al.length ∧ E 8 = .int j ∧ j ≤ al.length ∧ (l.take j).any p = false) ?_ 0 ⟨rfl, rfl, rfl, rfl, Nat.zero_le _, rfl⟩
  rintro j E H T ⟨e0, e1, e7, e8, hj, hn⟩
  rcases Nat.lt_or_ge j al.length with hlt | hge
  · obtain ⟨x, a, d0, d1, d4, d5⟩ := cl_get h hlt
    have hdec := dlt hlt
    obtain ⟨v, rfl, hc⟩ := (hg x _ d5).call hf (by simp [pvs_cons, pvs_nil, d5.pure])
    obtain ⟨bl, u, rfl, _⟩ := d5.of
    cases hp : p x
    · simp only [↓wpre, wset, wcore, wext, ne_eq, if_true, if_false, exists_eq_left', true_implies, false_implies, exists_const, exists_eq_right, binA, intA, loadA, storeA, pickC, setAt, mapO, argsE, X.isC, resA, oneA, unA, boundA, eqiA, eqsA, fillA, fillE, ASt.fz, strA, simprocAttr, e0, e1, e7, e8, hdec, d4, hall, hc, hp]
      exact EQ_in ⟨j + 1, by omega, e0, e1, e7, next_ixv (by omega), by omega, any_step hn d0 hp⟩
    · simp only [↓wpre, wset, wcore, wext, ne_eq, if_true, if_false, exists_eq_left', true_implies, false_implies, exists_const, exists_eq_right, binA, intA, loadA, storeA, pickC, setAt, mapO, argsE, X.isC, resA, oneA, unA, boundA, eqiA, eqsA, fillA, fillE, ASt.fz, strA, simprocAttr, e0, e1, e7, e8, hdec, d4, hall, hc, hp]
      exact ⟨_, rfl, by rw [dge0, any_hit d0 hp]⟩
  · have hdec := dltf hge
    simp only [↓wpre, wset, wcore, wext, ne_eq, if_true, if_false, exists_eq_left', true_implies, false_implies, exists_const, exists_eq_right, binA, intA, loadA, storeA, pickC, setAt, mapO, argsE, X.isC, resA, oneA, unA, boundA, eqiA, eqsA, fillA, fillE, ASt.fz, strA, simprocAttr, e0, e1, e7, e8, hdec]
    rw [List.take_of_length_le (by omega)] at hn
    exact ⟨_, rfl, by rw [hn]; rfl⟩
theorem containsC_ret {p : Cl → Bool} (f : FuncId) (hf : md f = .pure) {l : List Cl} {al : List AV} {t : Tl} (ht : t.pure = true) (h : LIs ClIs l al) (hl : al.length ≤ lenB) (hg : ∀ x a, ClIs x a → Out md pfs f [a] (· = .bool (p x)) fun _ => False) : Out md pfs 40 [.sl al t, .fn f []] (· = .bool (l.any p)) fun _ => False := by
  refine out_of pf40_is (Nat.le_of_ble_eq_true rfl) ?_
  obtain ⟨v, ⟨r, rfl, hr⟩, hc⟩ := (indexC_ret f hf p (t := t) h hl hg).call rfl (by simp [pvs_cons, pvs_nil, pv_sl, pv_fn, ht, clsPure h])
  simp only [pf40, ↓wpre, wset, wcore, wext, ne_eq, if_true, if_false, exists_eq_left', true_implies, false_implies, exists_const, exists_eq_right, binA, intA, loadA, storeA, pickC, setAt, mapO, argsE, X.isC, resA, oneA, unA, boundA, eqiA, eqsA, fillA, fillE, ASt.fz, strA, simprocAttr, hc, hr]
theorem f57_ret {n : Int} : Out md pfs 57 [.int n] (· = .bool (!(decide (0 ≤ n) && decide (n ≤ 2)))) fun _ => False := by
  refine out_of pf57_is (Nat.le_of_ble_eq_true rfl) ?_
  rcases Int.lt_or_le n 0 with h | h
  · have d1 := dneg h
    have dd : (!(decide (0 ≤ n) && decide (n ≤ 2))) = true := by simp; omega
    simp only [pf57, ↓wpre, wset, wcore, wext, ne_eq, if_true, if_false, exists_eq_left', true_implies, false_implies, exists_const, exists_eq_right, binA, intA, loadA, storeA, pickC, setAt, mapO, argsE, X.isC, resA, oneA, unA, boundA, eqiA, eqsA, fillA, fillE, ASt.fz, strA, simprocAttr, d1, dd]
  · have d1 := dneg' h
    rcases Int.lt_or_le 2 n with k | k
    · have d2 := dg2 k
      have dd : (!(decide (0 ≤ n) && decide (n ≤ 2))) = true := by simp; omega
      simp only [pf57, ↓wpre, wset, wcore, wext, ne_eq, if_true, if_false, exists_eq_left', true_implies, false_implies, exists_const, exists_eq_right, binA, intA, loadA, storeA, pickC, setAt, mapO, argsE, X.isC, resA, oneA, unA, boundA, eqiA, eqsA, fillA, fillE, ASt.fz, strA, simprocAttr, d1, d2, dd]
    · have d2 := dg2' k
      have dd : (!(decide (0 ≤ n) && decide (n ≤ 2))) = false := by simp; omega
      simp only [pf57, ↓wpre, wset, wcore, wext, ne_eq, if_true, if_false, exists_eq_left', true_implies, false_implies, exists_const, exists_eq_right, binA, intA, loadA, storeA, pickC, setAt, mapO, argsE, X.isC, resA, oneA, unA, boundA, eqiA, eqsA, fillA, fillE, ASt.fz, strA, simprocAttr, d1, d2, dd]
theorem f55_ret {n : Nat} {r : List Int} {a : AV} (h : RowIs r a) : Out md pfs 55 [a, .ip [.int (n : Nat)] 0] (· = .bool (!rowB n r)) fun _ => False := by
  obtain ⟨t, rfl, h1, h2, h3⟩ := h.of
  refine out_of pf55_is (Nat.le_of_ble_eq_true rfl) ?_
  obtain ⟨_, rfl, hc⟩ := (containsI_ret (p := fun n => !(decide (0 ≤ n) && decide (n ≤ 2))) 57 rfl (t := t) (Tl.fast.pure h1) h2 (fun x _ => f57_ret)).call rfl (by simp [pvs_cons, pvs_nil, pv_sl, pv_fn, Tl.fast.pure h1, ints_pure])
  by_cases hn : r.length = n
  · have d1 : ((r.length : Int) != n) = false := ibne' (by omega)
    have dd : (!rowB n r) = r.any fun n => !(decide (0 ≤ n) && decide (n ≤ 2)) := by
      unfold rowB
      rw [show (r.length == n) = true by simpa using hn, Bool.true_and, List.any_eq_not_all_not]
      simp
    simp only [pf55, ↓wpre, wset, wcore, wext, ne_eq, if_true, if_false, exists_eq_left', true_implies, false_implies, exists_const, exists_eq_right, binA, intA, loadA, storeA, pickC, setAt, mapO, argsE, X.isC, resA, oneA, unA, boundA, eqiA, eqsA, fillA, fillE, ASt.fz, strA, simprocAttr, ints_len, d1, hc, dd]
  · have d1 : ((r.length : Int) != n) = true := ibne (by omega)
    have dd : (!rowB n r) = true := by
      unfold rowB
      rw [show (r.length == n) = false by simpa using hn]; rfl
    simp only [pf55, ↓wpre, wset, wcore, wext, ne_eq, if_true, if_false, exists_eq_left', true_implies, false_implies, exists_const, exists_eq_right, binA, intA, loadA, storeA, pickC, setAt, mapO, argsE, X.isC, resA, oneA, unA, boundA, eqiA, eqsA, fillA, fillE, ASt.fz, strA, simprocAttr, ints_len, d1, dd]
theorem dge1 {n : Nat} (h : 1 ≤ n) : decide ((n : Int) ≥ 1) = true := decide_eq_true (by omega)
theorem dge1' {n : Nat} (h : n < 1) : decide ((n : Int) ≥ 1) = false := decide_eq_false (by omega)
theorem dle16 {n : Nat} (h : n ≤ 16) : decide ((n : Int) ≤ 16) = true := decide_eq_true (by omega)
theorem dle16' {n : Nat} (h : 16 < n) : decide ((n : Int) ≤ 16) = false := decide_eq_false (by omega)
theorem formed_ret {c : Cl} {a : AV} (h : ClIs c a) : Out md pfs 42 [a] (· = .bool (formB c)) fun _ => False := by
  obtain ⟨al, t, rfl, h1, h2, h3, h4, h5⟩ := h.of
  have hal := rows_all h1
  have hla := h1.len
  refine out_of pf42_is (Nat.le_of_ble_eq_true rfl) ?_
  rcases Int.lt_or_le c.f 0 with hf | hf
  · have d1 := dneg hf
    have dd := formB_no (c := c) (fun h => by omega)
    simp only [pf42, ↓wpre, wset, wcore, wext, ne_eq, if_true, if_false, exists_eq_left', true_implies, false_implies, exists_const, exists_eq_right, binA, intA, loadA, storeA, pickC, setAt, mapO, argsE, X.isC, resA, oneA, unA, boundA, eqiA, eqsA, fillA, fillE, ASt.fz, strA, simprocAttr, d1, dd]
  have d1 := dneg' hf
  rcases Int.lt_or_le c.t 0 with ht | ht
  · have d2 := dneg ht
    have dd := formB_no (c := c) (fun h => by omega)
    simp only [pf42, ↓wpre, wset, wcore, wext, ne_eq, if_true, if_false, exists_eq_left', true_implies, false_implies, exists_const, exists_eq_right, binA, intA, loadA, storeA, pickC, setAt, mapO, argsE, X.isC, resA, oneA, unA, boundA, eqiA, eqsA, fillA, fillE, ASt.fz, strA, simprocAttr, d1, d2, dd]
  have d2 := dneg' ht
  rcases Nat.lt_or_ge al.length 1 with hl | hl
  · have d3 := dl1 hl
    have dd := formB_no (c := c) (fun h => by omega)
    simp only [pf42, ↓wpre, wset, wcore, wext, ne_eq, if_true, if_false, exists_eq_left', true_implies, false_implies, exists_const, exists_eq_right, binA, intA, loadA, storeA, pickC, setAt, mapO, argsE, X.isC, resA, oneA, unA, boundA, eqiA, eqsA, fillA, fillE, ASt.fz, strA, simprocAttr, d1, d2, d3, dd]
  have d3 := dl1' hl
  rcases Nat.lt_or_ge 16 al.length with hl2 | hl2
  · have d4 := dg16 hl2
    have dd := formB_no (c := c) (fun h => by omega)
    simp only [pf42, ↓wpre, wset, wcore, wext, ne_eq, if_true, if_false, exists_eq_left', true_implies, false_implies, exists_const, exists_eq_right, binA, intA, loadA, storeA, pickC, setAt, mapO, argsE, X.isC, resA, oneA, unA, boundA, eqiA, eqsA, fillA, fillE, ASt.fz, strA, simprocAttr, d1, d2, d3, d4, dd]
  have d4 := dg16' hl2
  obtain ⟨x0, tx0, y1, y2, y3, y4⟩ := head_is h1 hl
  rcases Nat.lt_or_ge x0.length 1 with hx | hx
  · have d5 := dge1' hx
    have dd := formB_no (c := c) (fun h => by omega)
    simp only [pf42, ↓wpre, wset, wcore, wext, ne_eq, if_true, if_false, exists_eq_left', true_implies, false_implies, exists_const, exists_eq_right, binA, intA, loadA, storeA, pickC, setAt, mapO, argsE, X.isC, resA, oneA, unA, boundA, eqiA, eqsA, fillA, fillE, ASt.fz, strA, simprocAttr, d1, d2, d3, d4, y1, hal, ints_len, d5, dd]
  have d5 := dge1 hx
  rcases Nat.lt_or_ge 16 x0.length with hx2 | hx2
  · have d6 := dle16' hx2
    have dd := formB_no (c := c) (fun h => by omega)
    simp only [pf42, ↓wpre, wset, wcore, wext, ne_eq, if_true, if_false, exists_eq_left', true_implies, false_implies, exists_const, exists_eq_right, binA, intA, loadA, storeA, pickC, setAt, mapO, argsE, X.isC, resA, oneA, unA, boundA, eqiA, eqsA, fillA, fillE, ASt.fz, strA, simprocAttr, d1, d2, d3, d4, y1, hal, ints_len, d5, d6, dd]
  have d6 := dle16 hx2
  have hco := containsR_ret (p := fun r => !rowB x0.length r) 55 [.ip [.int x0.length] 0] rfl (by simp [pvs_cons, pvs_nil, pv_ip, pv_v]) (t := t) (Tl.fast.pure h2) h1 h3 fun x a hx => f55_ret hx
  obtain ⟨_, rfl, hc⟩ := hco.callP rfl (s := ⟨[.cells false [.int c.f, .int c.t, .sl al t], .cells false [.int x0.length]], []⟩) (args := [.sl al t, .fn 55 [.ptr 1 0]]) (by
    have hpsl : pureAV (.sl al t) = true := by rw [pv_sl, Tl.fast.pure h2, rowsPure h1]; rfl
    simp only [mapO, purify20 hpsl, pz_fn, pz_ptr, List.getElem?_cons_succ, List.getElem?_cons_zero, List.length_cons, List.length_nil, Nat.zero_le, if_true, purify_pure (n := 17) pv_v, Option.map_some])
  have dd : formB c = !(c.m.any fun r => !rowB x0.length r) := by
    rw [List.any_eq_not_all_not]
    simp only [Bool.not_not]
    rw [Bool.eq_iff_iff, formB_iff, List.all_eq_true, y3]
    constructor
    · exact fun h => h.2.2.2.2.2.2
    · exact fun h => ⟨hf, ht, by omega, by omega, hx, hx2, h⟩
  simp only [pf42, ↓wpre, wset, wcore, wext, ne_eq, if_true, if_false, exists_eq_left', true_implies, false_implies, exists_const, exists_eq_right, binA, intA, loadA, storeA, pickC, setAt, mapO, argsE, X.isC, resA, oneA, unA, boundA, eqiA, eqsA, fillA, fillE, ASt.fz, strA, simprocAttr, d1, d2, d3, d4, y1, hal, ints_len, d5, d6, hc, dd]
theorem f41_ret {c : Cl} {a : AV} (h : ClIs c a) : Out md pfs 41 [a] (· = .bool (!formB c)) fun _ => False := by
  refine out_of pf41_is (Nat.le_of_ble_eq_true rfl) ?_
  obtain ⟨_, rfl, hc⟩ := (formed_ret h).call rfl (by simp [pvs_cons, pvs_nil, h.pure])
  obtain ⟨al, t, rfl, _⟩ := h.of
  simp only [pf41, ↓wpre, wset, wcore, wext, ne_eq, if_true, if_false, exists_eq_left', true_implies, false_implies, exists_const, exists_eq_right, binA, intA, loadA, storeA, pickC, setAt, mapO, argsE, X.isC, resA, oneA, unA, boundA, eqiA, eqsA, fillA, fillE, ASt.fz, strA, simprocAttr, hc]
def mapI (L : List (Int × Int)) : List (AV × AV) := L.map fun p => (.int p.1, .int p.2)
def lookI (k : Int) : List (Int × Int) → Option Int
  | [] => none
  | p :: L => if k = p.1 then some p.2 else lookI k L
def upI (k v : Int) : List (Int × Int) → List (Int × Int)
  | [] => [(k, v)]
  | p :: L => if k = p.1 then (k, v) :: L else p :: upI k v L
theorem look_I {k : Int} : ∀ L : List (Int × Int), lookA (.int k) (mapI L) = some ((lookI k L).map fun v => .int v)
  | [] => rfl
  | p :: L => by
    have ih := look_I (k := k) L
    simp only [mapI, List.map_cons, lookA, keyEq, if_true, lookI] at ih ⊢
    by_cases h : k = p.1
    · rw [if_pos h, show (k == p.1) = true by simpa using h]; rfl
    · rw [if_neg h, show (k == p.1) = false by simpa using h]; exact ih
theorem up_I {k v : Int} : ∀ L : List (Int × Int), upA (.int k) (.int v) (mapI L) = some (mapI (upI k v L))
  | [] => rfl
  | p :: L => by
    have ih := up_I (k := k) (v := v) L
    simp only [mapI, List.map_cons, upA, keyEq, if_true, upI] at ih ⊢
    by_cases h : k = p.1
    · rw [if_pos h, show (k == p.1) = true by simpa using h]; simp
    · rw [if_neg h, show (k == p.1) = false by simpa using h]; simp [ih]
theorem look_up {k v x : Int} : ∀ L : List (Int × Int), lookI x (upI k v L) = if x = k then some v else lookI x L
  | [] => by simp only [upI, lookI]
  | p :: L => by
    have ih := look_up (k := k) (v := v) (x := x) L
    simp only [upI]
    by_cases h : k = p.1
    · rw [if_pos h]
      simp only [lookI]
      by_cases hx : x = k
      · rw [if_pos hx, if_pos hx]
      · rw [if_neg hx, if_neg hx, if_neg (by omega)]
    · rw [if_neg h]
      simp only [lookI, ih]
      by_cases hx : x = p.1
      · rw [if_pos hx, if_neg (by omega), if_pos hx]
      · rw [if_neg hx, if_neg hx]
structure KnI (F : Int → Option Int) (ps : List (Int × Int)) : Prop where
  cons : consB ps = true
  is : ∀ p ∈ ps, F p.1 = some p.2
  mem : ∀ x v, F x = some v → (x, v) ∈ ps
theorem knI_nil : KnI (fun _ => none) [] := ⟨rfl, fun _ h => by simp at h, fun _ _ h => by cases h⟩
theorem KnI.step {F : Int → Option Int} {ps : List (Int × Int)} (h : KnI F ps) {p : Int × Int} (hp : ∀ n, F p.1 = some n → n = p.2) {F' : Int → Option Int} (hF : ∀ x, F' x = if x = p.1 then some p.2 else F x) : KnI F' (ps ++ [p]) := by
  refine ⟨?_, fun q hq => ?_, fun x v hx => ?_⟩
  · rw [consB_snoc h.cons, List.all_eq_true]
    intro q hq
    by_cases e : q.1 = p.1
    · have := hp q.2 (by rw [← e]; exact h.is q hq)
      simp [this]
    · simp [e]
  · rw [hF]
    rcases List.mem_append.1 hq with hq | hq
    · by_cases e : q.1 = p.1
      · rw [if_pos e, hp q.2 (by rw [← e]; exact h.is q hq)]
      · rw [if_neg e]; exact h.is q hq
    · simp at hq; subst hq; simp
  · rw [hF] at hx
    by_cases e : x = p.1
    · rw [if_pos e] at hx; cases hx; subst e; simp
    · rw [if_neg e] at hx; exact List.mem_append_left _ (h.mem x v hx)
theorem KnI.bad {F : Int → Option Int} {ps qs : List (Int × Int)} (h : KnI F ps) {p : Int × Int} {n : Int} (hp : F p.1 = some n) (hn : n ≠ p.2) : consB (ps ++ p :: qs) = false := by
  cases e : consB (ps ++ p :: qs) with
  | false => rfl
  | true => exact absurd (consB_iff.1 e (p.1, n) (List.mem_append_left _ (h.mem _ _ hp)) p (by simp) rfl) hn
theorem prs_take {l : List Cl} {j : Nat} {c : Cl} (h : l[j]? = some c) : prs (l.take (j + 1)) = prs (l.take j) ++ prsC c := by
  rw [List.take_add_one, h]; simp [prs]
theorem prs_split {l : List Cl} {j : Nat} {c : Cl} (h : l[j]? = some c) : prs l = prs (l.take j) ++ (prsC c ++ prs (l.drop (j + 1))) := by
  conv => lhs; rw [← List.take_append_drop j l, drop_cons h]
  simp [prs]
theorem check_form {l : List Cl} (h : l.any (fun c => !formB c) = true) : checkR l = 3 := by
  unfold checkR
  rw [if_neg]
  intro h2
  rw [List.any_eq_true] at h
  obtain ⟨c, hc, h⟩ := h
  rw [List.all_eq_true] at h2
  rw [h2 c hc] at h; cases h
theorem check_two {l : List Cl} (h : l.any (fun c => !formB c) = false) : checkR l = if consB (prs l) = true then 0 else 1 := by
  unfold checkR
  rw [if_pos]
  rw [List.all_eq_true]
  intro c hc
  have := List.any_eq_false.1 h c hc
  simpa using this
theorem check_ret {l : List Cl} {al : List AV} {t : Tl} (h : LIs ClIs l al) (ht : t.pure = true) (hl : al.length ≤ lenB) : Out md pfs 29 [.sl al t] (· = .int (checkR l)) fun _ => False := by
  have hall := h.all clAgg
  have hln := h.len
  refine out_of pf29_is (Nat.le_of_ble_eq_true rfl) ?_
  obtain ⟨_, rfl, hc⟩ := (containsC_ret (p := fun c => !formB c) 41 rfl (t := t) ht h hl fun x a hx => f41_ret hx).call rfl (by simp [pvs_cons, pvs_nil, pv_sl, pv_fn, ht, clsPure h])
  cases hany : l.any fun c => !formB c
  case true =>
    have dd := check_form hany
    simp only [pf29, ↓wpre, wset, wcore, wext, ne_eq, if_true, if_false, exists_eq_left', true_implies, false_implies, exists_const, exists_eq_right, binA, intA, loadA, storeA, pickC, setAt, mapO, argsE, X.isC, resA, oneA, unA, boundA, eqiA, eqsA, fillA, fillE, ASt.fz, strA, simprocAttr, hc, hany, dd]
  have dd := check_two hany
  simp only [pf29, ↓wpre, wset, wcore, wext, ne_eq, if_true, if_false, exists_eq_left', true_implies, false_implies, exists_const, exists_eq_right, binA, intA, loadA, storeA, pickC, setAt, mapO, argsE, X.isC, resA, oneA, unA, boundA, eqiA, eqsA, fillA, fillE, ASt.fz, strA, simprocAttr, hc, hany]
  refine W_loopE (fun j => al.length - j) (fun j E H T => E 3 = .mp 0 ∧ E 13 = .sl al t ∧ E 14 = .int al.length ∧ E 15 = .int (j : Nat) ∧ j ≤ al.length ∧ ∃ L, H[0]? = some (.map (mapI L)) ∧ KnI (fun x => lookI x L) (prs (l.take j))) ?_ 0 ⟨rfl, rfl, rfl, rfl, Nat.zero_le _, [], rfl, knI_nil⟩
  rintro j E H T ⟨e3, e13, e14, e15, hj, L, h0, hK⟩
  rcases Nat.lt_or_ge j al.length with hlt | hge
  · have q1 := dlt hlt
    obtain ⟨c, a, g1, g2, g3, g4⟩ := cl_get h hlt
    have hcf : formB c = true := by
      have := List.any_eq_false.1 hany c g2
      simpa using this
    obtain ⟨bl, u, rfl, k1, k2, k3, k4, k5⟩ := g4.of
    have hbl := rows_all k1
    have hlb := k1.len
    have hff := formB_iff.1 hcf
    obtain ⟨x0, tx0, y1, y2, y3, y4⟩ := head_is k1 (by omega)
    have l0 := lt_of_get h0
    have hl1 := look_I (k := c.f) L
    have p1 : prsC c = [(c.f, ((colN c : Nat) : Int)), (c.t, ((c.m.length : Nat) : Int))] := rfl
    have hsplit := prs_split g1
    by_cases hbad : ∃ n, lookI c.f L = some n ∧ n ≠ (x0.length : Int)
    · obtain ⟨n, hn1, hn2⟩ := hbad
      rw [hn1] at hl1
      have q2 : (n != (x0.length : Int)) = true := ibne hn2
      have hno := hK.bad (qs := (c.t, (c.m.length : Int)) :: prs (l.drop (j + 1))) (p := (c.f, (colN c : Nat))) (n := n) hn1 (by rw [y3]; exact hn2)
      rw [hsplit, p1] at dd
      simp only [List.cons_append, List.nil_append] at dd
      rw [if_neg (by rw [hno]; simp)] at dd
      simp only [↓wpre, wset, wcore, wext, ne_eq, if_true, if_false, exists_eq_left', true_implies, false_implies, exists_const, exists_eq_right, binA, intA, loadA, storeA, pickC, setAt, mapO, argsE, X.isC, resA, oneA, unA, boundA, eqiA, eqsA, fillA, fillE, ASt.fz, strA, simprocAttr, List.length_append, List.append_assoc, app_get_len, app_get_add, app_set_len, app_set_add, e3, e13, e14, e15, q1, g3, hall, app_get_of h0, hl1, keyOK, Option.map_some, y1, hbl, ints_len, q2, dd]
    · have hok1 : ∀ n, lookI c.f L = some n → n = (x0.length : Int) := fun n hn => Classical.byContradiction fun h => hbad ⟨n, hn, h⟩
      have hK1 := hK.step (p := (c.f, ((colN c : Nat) : Int))) (fun n hn => by rw [y3]; exact hok1 n hn) (F' := fun x => lookI x (upI c.f (x0.length : Int) L)) (fun x => by rw [y3]; exact look_up L)
      have up1 := up_I (k := c.f) (v := (x0.length : Int)) L
      generalize upI c.f (x0.length : Int) L = L1 at hK1 up1
      have hl2 := look_I (k := c.t) L1
      have up2 := up_I (k := c.t) (v := (bl.length : Int)) L1
      have j0 : ∀ B : AObj, ((H ++ [B]).set 0 (.map (mapI L1)))[0]? = some (.map (mapI L1)) := fun B => by
        rw [List.getElem?_set, if_pos rfl, if_pos (by simp)]
      have j3 : ∀ B : AObj, ((H ++ [B]).set 0 (.map (mapI L1)))[H.length]? = some B := fun B => by
        rw [List.getElem?_set, if_neg (by omega), List.getElem?_append_right (Nat.le_refl _), Nat.sub_self]; rfl
      rw [p1] at hsplit
      simp only [List.cons_append, List.nil_append] at hsplit
      by_cases hbad2 : ∃ n, lookI c.t L1 = some n ∧ n ≠ (bl.length : Int)
      · obtain ⟨n, hn1, hn2⟩ := hbad2
        rw [hn1] at hl2
        have q3 : (n != (bl.length : Int)) = true := ibne hn2
        have hno := hK1.bad (qs := prs (l.drop (j + 1))) (p := (c.t, ((c.m.length : Nat) : Int))) (n := n) hn1 (by rw [← hlb]; exact hn2)
        rw [List.append_assoc, List.cons_append, List.nil_append] at hno
        rw [hsplit, if_neg (by rw [hno]; simp)] at dd
        cases hc1 : lookI c.f L with
        | none =>
          rw [hc1] at hl1
          simp only [↓wpre, wset, wcore, wext, ne_eq, if_true, if_false, exists_eq_left', true_implies, false_implies, exists_const, exists_eq_right, binA, intA, loadA, storeA, pickC, setAt, mapO, argsE, X.isC, resA, oneA, unA, boundA, eqiA, eqsA, fillA, fillE, ASt.fz, strA, simprocAttr, List.length_append, List.append_assoc, app_get_len, app_get_add, app_set_len, app_set_add, e3, e13, e14, e15, q1, g3, hall, app_get_of h0, hl1, keyOK, Option.map_some, Option.map_none, y1, hbl, ints_len, dd, up1, j0, j3, hl2, q3]
        | some m =>
          rw [hc1] at hl1
          have q2 : (m != (x0.length : Int)) = false := ibne' (hok1 m hc1)
          simp only [↓wpre, wset, wcore, wext, ne_eq, if_true, if_false, exists_eq_left', true_implies, false_implies, exists_const, exists_eq_right, binA, intA, loadA, storeA, pickC, setAt, mapO, argsE, X.isC, resA, oneA, unA, boundA, eqiA, eqsA, fillA, fillE, ASt.fz, strA, simprocAttr, List.length_append, List.append_assoc, app_get_len, app_get_add, app_set_len, app_set_add, e3, e13, e14, e15, q1, g3, hall, app_get_of h0, hl1, keyOK, Option.map_some, Option.map_none, y1, hbl, ints_len, dd, up1, j0, j3, hl2, q2, q3]
      · have hok2 : ∀ n, lookI c.t L1 = some n → n = (bl.length : Int) := fun n hn => Classical.byContradiction fun h => hbad2 ⟨n, hn, h⟩
        have hK2 := hK1.step (p := (c.t, ((c.m.length : Nat) : Int))) (fun n hn => by rw [← hlb]; exact hok2 n hn) (F' := fun x => lookI x (upI c.t (bl.length : Int) L1)) (fun x => by rw [← hlb]; exact look_up L1)
        generalize upI c.t (bl.length : Int) L1 = L2 at hK2 up2
        have hpt : prs (l.take (j + 1)) = prs (l.take j) ++ [(c.f, ((colN c : Nat) : Int))] ++ [(c.t, ((c.m.length : Nat) : Int))] := by rw [prs_take g1, p1]; simp
        rw [← hpt] at hK2
        have j4 : ∀ B : AObj, (((H ++ [B]).set 0 (.map (mapI L1))).set 0 (.map (mapI L2)))[0]? = some (.map (mapI L2)) := fun B => by
          rw [List.getElem?_set, if_pos rfl, if_pos (by simp)]
        cases hc1 : lookI c.f L with
        | none =>
          rw [hc1] at hl1
          cases hc2 : lookI c.t L1 with
          | none =>
            rw [hc2] at hl2
            simp only [↓wpre, wset, wcore, wext, ne_eq, if_true, if_false, exists_eq_left', true_implies, false_implies, exists_const, exists_eq_right, binA, intA, loadA, storeA, pickC, setAt, mapO, argsE, X.isC, resA, oneA, unA, boundA, eqiA, eqsA, fillA, fillE, ASt.fz, strA, simprocAttr, List.length_append, List.append_assoc, app_get_len, app_get_add, app_set_len, app_set_add, e3, e13, e14, e15, q1, g3, hall, app_get_of h0, hl1, keyOK, Option.map_some, Option.map_none, y1, hbl, ints_len, up1, up2, j0, j3, hl2]
            exact EQ_in ⟨j + 1, by omega, e3, e13, e14, next_ixv (by omega), by omega, L2, j4 _, hK2⟩
          | some m2 =>
            rw [hc2] at hl2
            have q3 : (m2 != (bl.length : Int)) = false := ibne' (hok2 m2 hc2)
            simp only [↓wpre, wset, wcore, wext, ne_eq, if_true, if_false, exists_eq_left', true_implies, false_implies, exists_const, exists_eq_right, binA, intA, loadA, storeA, pickC, setAt, mapO, argsE, X.isC, resA, oneA, unA, boundA, eqiA, eqsA, fillA, fillE, ASt.fz, strA, simprocAttr, List.length_append, List.append_assoc, app_get_len, app_get_add, app_set_len, app_set_add, e3, e13, e14, e15, q1, g3, hall, app_get_of h0, hl1, keyOK, Option.map_some, Option.map_none, y1, hbl, ints_len, up1, up2, j0, j3, hl2, q3]
            exact EQ_in ⟨j + 1, by omega, e3, e13, e14, next_ixv (by omega), by omega, L2, j4 _, hK2⟩
        | some m =>
          rw [hc1] at hl1
          have q2 : (m != (x0.length : Int)) = false := ibne' (hok1 m hc1)
          cases hc2 : lookI c.t L1 with
          | none =>
            rw [hc2] at hl2
            simp only [↓wpre, wset, wcore, wext, ne_eq, if_true, if_false, exists_eq_left', true_implies, false_implies, exists_const, exists_eq_right, binA, intA, loadA, storeA, pickC, setAt, mapO, argsE, X.isC, resA, oneA, unA, boundA, eqiA, eqsA, fillA, fillE, ASt.fz, strA, simprocAttr, List.length_append, List.append_assoc, app_get_len, app_get_add, app_set_len, app_set_add, e3, e13, e14, e15, q1, g3, hall, app_get_of h0, hl1, keyOK, Option.map_some, Option.map_none, y1, hbl, ints_len, up1, up2, j0, j3, hl2, q2]
            exact EQ_in ⟨j + 1, by omega, e3, e13, e14, next_ixv (by omega), by omega, L2, j4 _, hK2⟩
          | some m2 =>
            rw [hc2] at hl2
            have q3 : (m2 != (bl.length : Int)) = false := ibne' (hok2 m2 hc2)
            simp only [↓wpre, wset, wcore, wext, ne_eq, if_true, if_false, exists_eq_left', true_implies, false_implies, exists_const, exists_eq_right, binA, intA, loadA, storeA, pickC, setAt, mapO, argsE, X.isC, resA, oneA, unA, boundA, eqiA, eqsA, fillA, fillE, ASt.fz, strA, simprocAttr, List.length_append, List.append_assoc, app_get_len, app_get_add, app_set_len, app_set_add, e3, e13, e14, e15, q1, g3, hall, app_get_of h0, hl1, keyOK, Option.map_some, Option.map_none, y1, hbl, ints_len, up1, up2, j0, j3, hl2, q2, q3]
            exact EQ_in ⟨j + 1, by omega, e3, e13, e14, next_ixv (by omega), by omega, L2, j4 _, hK2⟩
  · have q1 := dltf hge
    rw [List.take_of_length_le (by omega)] at hK
    rw [if_pos hK.cons] at dd
    simp only [↓wpre, wset, wcore, wext, ne_eq, if_true, if_false, exists_eq_left', true_implies, false_implies, exists_const, exists_eq_right, binA, intA, loadA, storeA, pickC, setAt, mapO, argsE, X.isC, resA, oneA, unA, boundA, eqiA, eqsA, fillA, fillE, ASt.fz, strA, simprocAttr, e3, e13, e14, e15, q1, dd]
structure KnL (L ps : List (Int × Int)) : Prop where
  cons : consB ps = true
  mem : ∀ p, p ∈ L ↔ p ∈ ps
theorem KnL.old {L ps : List (Int × Int)} (h : KnL L ps) {p : Int × Int} (hp : p ∈ L) : KnL L (ps ++ [p]) := by
  refine ⟨?_, fun q => ?_⟩
  · rw [consB_snoc h.cons, List.all_eq_true]
    intro q hq
    by_cases e : q.1 = p.1
    · have := consB_iff.1 h.cons q hq p ((h.mem p).1 hp) e
      simp [this]
    · simp [e]
  · rw [List.mem_append, ← h.mem]
    simp only [List.mem_singleton]
    constructor
    · exact .inl
    · rintro (h' | rfl)
      · exact h'
      · exact hp
theorem KnL.new {L ps : List (Int × Int)} (h : KnL L ps) {p : Int × Int} (hp : ∀ q ∈ L, q.1 ≠ p.1) : KnL (L ++ [p]) (ps ++ [p]) := by
  refine ⟨?_, fun q => ?_⟩
  · rw [consB_snoc h.cons, List.all_eq_true]
    intro q hq
    have := hp q ((h.mem q).2 hq)
    simp [this]
  · rw [List.mem_append, List.mem_append, h.mem]
theorem KnL.bad {L ps qs : List (Int × Int)} (h : KnL L ps) {p q : Int × Int} (hq : q ∈ L) (h1 : q.1 = p.1) (h2 : q.2 ≠ p.2) : consB (ps ++ p :: qs) = false := by
  cases e : consB (ps ++ p :: qs) with
  | false => rfl
  | true => exact absurd (consB_iff.1 e q (List.mem_append_left _ ((h.mem q).1 hq)) p (by simp) h1) h2
theorem KnL.nil : KnL [] [] := ⟨rfl, fun _ => Iff.rfl⟩
def App2 (T : List Nat) (l : List AV) (t : Tl) (m : List AV) (u : Tl) : Prop := (l = [] ∧ t = .nil ∧ m = [] ∧ u = .nil) ∨ (l ≠ [] ∧ m ≠ [] ∧ ∃ i v j w, t = .tl i v ∧ T[i]? = some v ∧ u = .tl j w ∧ T[j]? = some w ∧ i ≠ j)
theorem app_two {T : List Nat} {l m : List Int} {t u : Tl} {x y : Int} (h : App2 T (ints l) t (ints m) u) (hl : l.length < 8796093022208) (hm : m.length < 8796093022208) :
    ∃ t' u' T' T'', (∀ H, appA ⟨H, T⟩ 1 none (ints l) t [.int x] = some (.sl (ints (l ++ [x])) t', ⟨H, T'⟩)) ∧ (∀ H, appA ⟨H, T'⟩ 1 none (ints m) u [.int y] = some (.sl (ints (m ++ [y])) u', ⟨H, T''⟩)) ∧ App2 T'' (ints (l ++ [x])) t' (ints (m ++ [y])) u' := by
  have hn1 : l.length + 1 ≤ 8796093022208 := by omega
  have hn2 : m.length + 1 ≤ 8796093022208 := by omega
  have ha := ints_all l
  have hb := ints_all m
  rcases h with ⟨h1, rfl, h2, rfl⟩ | ⟨h1, h2, i, v, j, w, rfl, hT, rfl, hU, hij⟩
  · obtain rfl : l = [] := by cases l with | nil => rfl | cons _ _ => simp [ints] at h1
    obtain rfl : m = [] := by cases m with | nil => rfl | cons _ _ => simp [ints] at h2
    refine ⟨.tl T.length 0, .tl (T ++ [0]).length 0, T ++ [0], T ++ [0] ++ [0], fun H => ?_, fun H => ?_, .inr ⟨by simp [ints], by simp [ints], _, _, _, _, rfl, by simp, rfl, by simp, by simp⟩⟩
    · simp [appA, ints, AV.cells, oneCell]
    · simp [appA, ints, AV.cells, oneCell]
  · have i1 := (List.getElem?_eq_some_iff.1 hT).1
    have j1 := (List.getElem?_eq_some_iff.1 hU).1
    refine ⟨.tl i (v + 1), .tl j (w + 1), T.set i (v + 1), (T.set i (v + 1)).set j (w + 1), fun H => ?_, fun H => ?_, .inr ⟨by simp [ints], by simp [ints], i, v + 1, j, w + 1, rfl, ?_, rfl, ?_, hij⟩⟩
    · rw [ints_app]
      simp only [appA, List.length_cons, List.length_nil, ints_len, hT, ha]
      simp [hn1, ints, AV.cells, oneCell]
      exact fun e => h1 (by rw [e]; rfl)
    · have hU2 : (T.set i (v + 1))[j]? = some w := by rw [List.getElem?_set, if_neg hij]; exact hU
      rw [ints_app]
      simp only [appA, List.length_cons, List.length_nil, ints_len, hU2, hb]
      simp [hn2, ints, AV.cells, oneCell]
      exact fun e => h2 (by rw [e]; rfl)
    · rw [List.getElem?_set, if_neg (fun e => hij e.symm), List.getElem?_set, if_pos rfl, if_pos i1]
    · rw [List.getElem?_set, if_pos rfl, if_pos (by rw [List.length_set]; exact j1)]
theorem any_snoc {α : Type} {l : List α} {j : Nat} {x : α} {P : α → Bool} (hx : l[j]? = some x) : (l.take (j + 1)).any P = ((l.take j).any P || P x) := by
  rw [List.take_add_one, hx]; simp [List.any_append]
theorem two_all {a b : Int} : ([AV.int a, AV.int b].all fun x => x.cells.length == 1) = true := rfl
theorem dl2 {k : Nat} (h : k < 2) : decide ((k : Int) < 2) = true := decide_eq_true (by omega)
theorem dl2' {k : Nat} (h : 2 ≤ k) : decide ((k : Int) < 2) = false := decide_eq_false (by omega)
theorem rcheck_big {l : List Cl} {al : List AV} {t : Tl} (h : LIs ClIs l al) (hl : 2 * al.length < 8796093022208) : Out md pfs 31 [.sl al t] (· = .int (checkR l)) fun _ => False := by
  have hall := h.all clAgg
  have hln := h.len
  have hlb : al.length < lenB := by unfold lenB; omega
  refine out_of pf31_is (Nat.le_of_ble_eq_true rfl) ?_
  simp only [pf31, ↓wpre, wset, wcore, wext, ne_eq, if_true, if_false, exists_eq_left', true_implies, false_implies, exists_const, exists_eq_right, binA, intA, loadA, storeA, pickC, setAt, mapO, argsE, X.isC, resA, oneA, unA, boundA, eqiA, eqsA, fillA, fillE, ASt.fz, strA, simprocAttr]
  refine W_loopE (fun j => al.length - j) (fun j E H T => E 0 = .sl al t ∧ E 3 = .int (j : Nat) ∧ j ≤ al.length ∧ (l.take j).any (fun c => !formB c) = false) ?_ 0 ⟨rfl, rfl, Nat.zero_le _, rfl⟩
  rintro j E H T ⟨e0, e3, hj, hany⟩
  rcases Nat.lt_or_ge j al.length with hlt | hge
  · have q1 := dlt hlt
    obtain ⟨c, a, g1, g2, g3, g4⟩ := cl_get h hlt
    obtain ⟨_, rfl, cc⟩ := (form_ret g4).call rfl (by simp [pvs_cons, pvs_nil, g4.pure])
    obtain ⟨bl, u, rfl, _⟩ := g4.of
    cases hf : formB c
    · rw [hf] at cc
      have dd := check_form (any_hit (P := fun c => !formB c) g1 (by simp [hf]))
      have q2 : ((3 : Int) != 0) = true := rfl
      simp only [Bool.false_eq_true, if_false] at cc
      simp only [↓wpre, wset, wcore, wext, ne_eq, if_true, if_false, exists_eq_left', true_implies, false_implies, exists_const, exists_eq_right, binA, intA, loadA, storeA, pickC, setAt, mapO, argsE, X.isC, resA, oneA, unA, boundA, eqiA, eqsA, fillA, fillE, ASt.fz, strA, simprocAttr, e0, e3, q1, hall, g3, cc, q2, dd]
    · rw [hf] at cc
      have q2 : ((0 : Int) != 0) = false := rfl
      simp only [if_true] at cc
      simp only [↓wpre, wset, wcore, wext, ne_eq, if_true, if_false, exists_eq_left', true_implies, false_implies, exists_const, exists_eq_right, binA, intA, loadA, storeA, pickC, setAt, mapO, argsE, X.isC, resA, oneA, unA, boundA, eqiA, eqsA, fillA, fillE, ASt.fz, strA, simprocAttr, e0, e3, q1, hall, g3, cc, q2]
      exact EQ_in ⟨j + 1, by omega, e0, next_ixv (by omega), by omega, any_step hany g1 (by simp [hf])⟩
  have q1 := dltf hge
  rw [List.take_of_length_le (by omega)] at hany
  have dd := check_two hany
  simp only [↓wpre, wset, wcore, wext, ne_eq, if_true, if_false, exists_eq_left', true_implies, false_implies, exists_const, exists_eq_right, binA, intA, loadA, storeA, pickC, setAt, mapO, argsE, X.isC, resA, oneA, unA, boundA, eqiA, eqsA, fillA, fillE, ASt.fz, strA, simprocAttr, e0, e3, q1]
  clear q1 hge hj e3
  refine W_loopE (fun j => al.length - j) (fun j E H T => E 0 = .sl al t ∧ E 7 = .int (j : Nat) ∧ j ≤ al.length ∧ ∃ L t5 t6, E 5 = .sl (ints (L.map (·.1))) t5 ∧ E 6 = .sl (ints (L.map (·.2))) t6 ∧ App2 T (ints (L.map (·.1))) t5 (ints (L.map (·.2))) t6 ∧ L.length ≤ 2 * j ∧ KnL L (prs (l.take j))) ?_ 0 ⟨e0, rfl, Nat.zero_le _, [], .nil, .nil, rfl, rfl, .inl ⟨rfl, rfl, rfl, rfl⟩, Nat.zero_le _, .nil⟩
  clear e0 E H T j
  rintro j E H T ⟨e0, e7, hj, L, t5, t6, e5, e6, hA, hLj, hK⟩
  rcases Nat.lt_or_ge j al.length with hlt | hge
  · have q1 := dlt hlt
    obtain ⟨c, a, g1, g2, g3, g4⟩ := cl_get h hlt
    have hcf : formB c = true := by
      have := List.any_eq_false.1 hany c g2
      simpa using this
    obtain ⟨bl, u, rfl, k1, k2, k3, k4, k5⟩ := g4.of
    have hbl := rows_all k1
    have hlb := k1.len
    have hff := formB_iff.1 hcf
    obtain ⟨x0, tx0, y1, y2, y3, y4⟩ := head_is k1 (by omega)
    have p1 : prsC c = [(c.f, ((colN c : Nat) : Int)), (c.t, ((c.m.length : Nat) : Int))] := rfl
    have hsplit := prs_split g1
    simp only [↓wpre, wset, wcore, wext, ne_eq, if_true, if_false, exists_eq_left', true_implies, false_implies, exists_const, exists_eq_right, binA, intA, loadA, storeA, pickC, setAt, mapO, argsE, X.isC, resA, oneA, unA, boundA, eqiA, eqsA, fillA, fillE, ASt.fz, strA, simprocAttr, e0, e7, e5, e6, q1, hall, g3, y1, hbl, ints_len]
    refine W_loopE (fun k => 2 - k) (fun k E H T => E 0 = .sl al t ∧ E 7 = .int (j : Nat) ∧ E 10 = .int (k : Nat) ∧ k ≤ 2 ∧ E 8 = .sl [.int c.f, .int c.t] (.cap 2) ∧ E 9 = .sl [.int x0.length, .int bl.length] (.cap 2) ∧ ∃ L t5 t6, E 5 = .sl (ints (L.map (·.1))) t5 ∧ E 6 = .sl (ints (L.map (·.2))) t6 ∧ App2 T (ints (L.map (·.1))) t5 (ints (L.map (·.2))) t6 ∧ L.length ≤ 2 * j + k ∧ KnL L (prs (l.take j) ++ (prsC c).take k)) ?_ 0 ⟨e0, e7, rfl, Nat.zero_le _, rfl, rfl, L, t5, t6, e5, e6, hA, hLj, by simpa using hK⟩
    clear e0 e7 e5 e6 hA hLj hK E H T L t5 t6
    rintro k E H T ⟨e0, e7, e10, hk, e8, e9, L, t5, t6, e5, e6, hA, hLj, hK⟩
    rcases Nat.lt_or_ge k 2 with hk2 | hk2
    · have q2 := dl2 hk2
      obtain ⟨p, hp, n1, n2, hpp⟩ : ∃ p : Int × Int, (prsC c)[k]? = some p ∧ [AV.int c.f, AV.int c.t][k]? = some (.int p.1) ∧ [AV.int x0.length, AV.int bl.length][k]? = some (.int p.2) ∧ prsC c = (prsC c).take k ++ p :: (prsC c).drop (k + 1) := by
        match k, hk2 with
        | 0, _ => exact ⟨_, rfl, rfl, by rw [← y3]; rfl, rfl⟩
        | 1, _ => exact ⟨_, rfl, rfl, by rw [hlb]; rfl, rfl⟩
      simp only [↓wpre, wset, wcore, wext, ne_eq, if_true, if_false, exists_eq_left', true_implies, false_implies, exists_const, exists_eq_right, binA, intA, loadA, storeA, pickC, setAt, mapO, argsE, X.isC, resA, oneA, unA, boundA, eqiA, eqsA, fillA, fillE, ASt.fz, strA, simprocAttr, e0, e7, e5, e6, e8, e9, e10, q2]
      refine W_loopE (fun i => L.length - i) (fun i E H T => E 0 = .sl al t ∧ E 7 = .int (j : Nat) ∧ E 10 = .int (k : Nat) ∧ E 8 = .sl [.int c.f, .int c.t] (.cap 2) ∧ E 9 = .sl [.int x0.length, .int bl.length] (.cap 2) ∧ E 5 = .sl (ints (L.map (·.1))) t5 ∧ E 6 = .sl (ints (L.map (·.2))) t6 ∧ App2 T (ints (L.map (·.1))) t5 (ints (L.map (·.2))) t6 ∧ E 12 = .int (i : Nat) ∧ i ≤ L.length ∧ E 11 = .bool ((L.take i).any fun q => q.1 == p.1) ∧ ∀ q ∈ L.take i, q.1 = p.1 → q.2 = p.2) ?_ 0 ⟨e0, e7, e10, e8, e9, e5, e6, hA, rfl, Nat.zero_le _, rfl, by simp⟩
      clear e0 e7 e5 e6 e8 e9 e10 hA E H T
      rintro i E H T ⟨e0, e7, e10, e8, e9, e5, e6, hA, e12, hi, e11, hq⟩
      have m1 : (L.map (·.1)).length = L.length := by simp
      have m2 : (L.map (·.2)).length = L.length := by simp
      rcases Nat.lt_or_ge i L.length with hiL | hiL
      · have q3 := dlt hiL
        have hg : L[i]? = some L[i] := List.getElem?_eq_getElem hiL
        generalize L[i] = q at hg
        have b1 : (ints (L.map (·.1)))[i]? = some (.int q.1) := by simp [ints, hg]
        have b2 : (ints (L.map (·.2)))[i]? = some (.int q.2) := by simp [ints, hg]
        have a1 := ints_all (L.map (·.1))
        have a2 := ints_all (L.map (·.2))
        by_cases hqp : q.1 = p.1
        · have q4 := ibne' hqp
          by_cases hq2 : q.2 = p.2
          · have q5 := ibne' hq2
            simp only [↓wpre, wset, wcore, wext, ne_eq, if_true, if_false, exists_eq_left', true_implies, false_implies, exists_const, exists_eq_right, binA, intA, loadA, storeA, pickC, setAt, mapO, argsE, X.isC, resA, oneA, unA, boundA, eqiA, eqsA, fillA, fillE, ASt.fz, strA, simprocAttr, e0, e7, e5, e6, e8, e9, e10, e11, e12, ints_len, m1, m2, q3, b1, b2, n1, n2, a1, a2, two_all, q4, q5]
            exact EQ_in ⟨i + 1, by omega, e0, e7, e10, e8, e9, e5, e6, hA, next_ixv (by unfold lenB; omega), by omega, by rw [any_snoc hg, show (q.1 == p.1) = true by simp [hqp], Bool.or_true]; rfl, all_snoc hq hg fun _ => hq2⟩
          · have q5 := ibne hq2
            have hno := hK.bad (qs := (prsC c).drop (k + 1) ++ prs (l.drop (j + 1))) (List.mem_of_getElem? hg) hqp hq2
            have he : prs l = prs (l.take j) ++ (prsC c).take k ++ p :: ((prsC c).drop (k + 1) ++ prs (l.drop (j + 1))) := by
              rw [hsplit]
              conv => lhs; rw [hpp]
              simp
            rw [he, if_neg (by rw [hno]; simp)] at dd
            simp only [↓wpre, wset, wcore, wext, ne_eq, if_true, if_false, exists_eq_left', true_implies, false_implies, exists_const, exists_eq_right, binA, intA, loadA, storeA, pickC, setAt, mapO, argsE, X.isC, resA, oneA, unA, boundA, eqiA, eqsA, fillA, fillE, ASt.fz, strA, simprocAttr, e0, e7, e5, e6, e8, e9, e10, e11, e12, ints_len, m1, m2, q3, b1, b2, n1, n2, a1, a2, two_all, q4, q5, dd]
        · have q4 := ibne hqp
          simp only [↓wpre, wset, wcore, wext, ne_eq, if_true, if_false, exists_eq_left', true_implies, false_implies, exists_const, exists_eq_right, binA, intA, loadA, storeA, pickC, setAt, mapO, argsE, X.isC, resA, oneA, unA, boundA, eqiA, eqsA, fillA, fillE, ASt.fz, strA, simprocAttr, e0, e7, e5, e6, e8, e9, e10, e11, e12, ints_len, m1, m2, q3, b1, b2, n1, n2, a1, a2, two_all, q4]
          exact EQ_in ⟨i + 1, by omega, e0, e7, e10, e8, e9, e5, e6, hA, next_ixv (by unfold lenB; omega), by omega, e11.trans (by rw [any_snoc hg, show (q.1 == p.1) = false by simp [hqp], Bool.or_false]), all_snoc hq hg fun h => absurd h hqp⟩
      · have q3 := dltf hiL
        rw [List.take_of_length_le (by omega)] at hq e11
        have hpt : prs (l.take j) ++ (prsC c).take (k + 1) = prs (l.take j) ++ (prsC c).take k ++ [p] := by
          rw [List.take_add_one, hp]; simp
        cases hkn : L.any fun q => q.1 == p.1
        · rw [hkn] at e11
          obtain ⟨t', u', T', T'', ap1, ap2, hA'⟩ := app_two (x := p.1) (y := p.2) hA (by simp; omega) (by simp; omega)
          rw [show L.map (·.1) ++ [p.1] = (L ++ [p]).map (·.1) by simp] at ap1 hA'
          rw [show L.map (·.2) ++ [p.2] = (L ++ [p]).map (·.2) by simp] at ap2 hA'
          simp only [↓wpre, wset, wcore, wext, ne_eq, if_true, if_false, exists_eq_left', true_implies, false_implies, exists_const, exists_eq_right, binA, intA, loadA, storeA, pickC, setAt, mapO, argsE, X.isC, resA, oneA, unA, boundA, eqiA, eqsA, fillA, fillE, ASt.fz, strA, simprocAttr, e0, e7, e5, e6, e8, e9, e10, e11, e12, ints_len, m1, m2, q3, n1, n2, two_all, ap1, ap2]
          refine EQ_in ⟨k + 1, by omega, e0, e7, next_ixv (by unfold lenB; omega), by omega, e8, e9, L ++ [p], _, _, rfl, rfl, hA', by simp; omega, ?_⟩
          rw [hpt]
          refine hK.new fun q hq' => ?_
          have := List.any_eq_false.1 hkn q hq'
          simpa using this
        · rw [hkn] at e11
          simp only [↓wpre, wset, wcore, wext, ne_eq, if_true, if_false, exists_eq_left', true_implies, false_implies, exists_const, exists_eq_right, binA, intA, loadA, storeA, pickC, setAt, mapO, argsE, X.isC, resA, oneA, unA, boundA, eqiA, eqsA, fillA, fillE, ASt.fz, strA, simprocAttr, e0, e7, e5, e6, e8, e9, e10, e11, e12, ints_len, m1, m2, q3]
          refine EQ_in ⟨k + 1, by omega, e0, e7, next_ixv (by unfold lenB; omega), by omega, e8, e9, L, _, _, e5, e6, hA, by omega, ?_⟩
          rw [hpt]
          refine hK.old ?_
          obtain ⟨q, hq1, hq2⟩ := List.any_eq_true.1 hkn
          simp only [beq_iff_eq] at hq2
          have := hq q hq1 hq2
          have e : q = p := Prod.ext hq2 this
          rw [← e]; exact hq1
    · have q2 := dl2' hk2
      obtain rfl : k = 2 := by omega
      simp only [↓wpre, wset, wcore, wext, ne_eq, if_true, if_false, exists_eq_left', true_implies, false_implies, exists_const, exists_eq_right, binA, intA, loadA, storeA, pickC, setAt, mapO, argsE, X.isC, resA, oneA, unA, boundA, eqiA, eqsA, fillA, fillE, ASt.fz, strA, simprocAttr, e0, e7, e5, e6, e8, e9, e10, q2]
      refine EQ_in ⟨j + 1, by omega, e0, next_ixv (by unfold lenB; omega), by omega, L, _, _, e5, e6, hA, by omega, ?_⟩
      rw [prs_take g1]
      exact hK
  · have q1 := dltf hge
    rw [List.take_of_length_le (by omega)] at hK
    rw [if_pos hK.cons] at dd
    simp only [↓wpre, wset, wcore, wext, ne_eq, if_true, if_false, exists_eq_left', true_implies, false_implies, exists_const, exists_eq_right, binA, intA, loadA, storeA, pickC, setAt, mapO, argsE, X.isC, resA, oneA, unA, boundA, eqiA, eqsA, fillA, fillE, ASt.fz, strA, simprocAttr, e0, e7, e5, e6, q1, dd]
end Go.Proofs.Eng
