/- Correct calls: the program's formed. No conditions beyond those in the theorems. -/
import Derived.Test.YtodnkbnbjhcikaaDoorH3
set_option linter.all false
set_option linter.deprecated false
set_option linter.unnecessarySimpa false
set_option linter.unusedVariables false
set_option linter.unusedSimpArgs false
set_option linter.defProp false
namespace Go.Proofs.Eng
open Go Go.Proofs
set_option maxRecDepth 100000
set_option maxHeartbeats 16000000
theorem any_step {α : Type} {l : List α} {j : Nat} {x : α} {P : α → Bool} (h : (l.take j).any P = false) (hx : l[j]? = some x) (hp : P x = false) : (l.take (j + 1)).any P = false := by
  rw [List.take_add_one, hx]; simp [List.any_append, h, hp]
theorem any_hit {α : Type} {l : List α} {j : Nat} {x : α} {P : α → Bool} (hx : l[j]? = some x) (hp : P x = true) : l.any P = true := List.any_eq_true.2 ⟨x, List.mem_of_getElem? hx, hp⟩
theorem dge0 {n : Nat} : decide ((n : Int) ≥ 0) = true := decide_eq_true (by omega)
theorem indexI_ret (f : FuncId) (hf : md f = .pure) (p : Int → Bool) {l : List Int} {t : Tl} (hl : l.length ≤ lenB) (hg : ∀ x ∈ l, Out md pfs f [.int x] (· = .bool (p x)) fun _ => False) :
    Out md pfs 65 [.sl (ints l) t, .fn f []] (fun v => ∃ r : Int, v = .int r ∧ decide (r ≥ 0) = l.any p) fun _ => False := by
  refine out_of pf65_is (Nat.le_of_ble_eq_true rfl) ?_
  simp only [pf65, ↓wpre, wset, wcore, wext, ne_eq, if_true, if_false, exists_eq_left', true_implies, false_implies, exists_const, exists_eq_right, binA, intA, loadA, storeA, pickC, setAt, mapO, argsE, X.isC, resA, oneA, unA, boundA, eqiA, eqsA, fillA, fillE, ASt.fz, strA, simprocAttr]
  refine W_loopE (fun j => l.length - j) (fun j E H T => E 0 = .sl (ints l) t ∧ E 1 = .fn f [] ∧ E 7 = .int l.length ∧ E 8 = .int j ∧ j ≤ l.length ∧ (l.take j).any p = false) ?_ 0 ⟨rfl, rfl, by rw [← ints_len l]; rfl, rfl, Nat.zero_le _, rfl⟩
  rintro j E H T ⟨e0, e1, e7, e8, hj, hn⟩
  rcases Nat.lt_or_ge j l.length with hlt | hge
  · obtain ⟨x, d0, d1, d4⟩ := ints_get hlt
    have hdec := dlt hlt
    obtain ⟨v, rfl, hc⟩ := (hg x (List.mem_of_getElem? d0)).call hf (by simp [pvs_cons, pvs_nil, pv_v])
    cases hp : p x
    · simp only [↓wpre, wset, wcore, wext, ne_eq, if_true, if_false, exists_eq_left', true_implies, false_implies, exists_const, exists_eq_right, binA, intA, loadA, storeA, pickC, setAt, mapO, argsE, X.isC, resA, oneA, unA, boundA, eqiA, eqsA, fillA, fillE, ASt.fz, strA, simprocAttr, e0, e1, e7, e8, hdec, d4, ints_all, ints_len, hc, hp]
      exact EQ_in ⟨j + 1, by omega, e0, e1, e7, next_ixv (by omega), by omega, any_step hn d0 hp⟩
    · simp only [↓wpre, wset, wcore, wext, ne_eq, if_true, if_false, exists_eq_left', true_implies, false_implies, exists_const, exists_eq_right, binA, intA, loadA, storeA, pickC, setAt, mapO, argsE, X.isC, resA, oneA, unA, boundA, eqiA, eqsA, fillA, fillE, ASt.fz, strA, simprocAttr, e0, e1, e7, e8, hdec, d4, ints_all, ints_len, hc, hp]
      exact ⟨_, rfl, by rw [dge0, any_hit d0 hp]⟩
  · have hdec := dltf hge
    simp only [↓wpre, wset, wcore, wext, ne_eq, if_true, if_false, exists_eq_left', true_implies, false_implies, exists_const, exists_eq_right, binA, intA, loadA, storeA, pickC, setAt, mapO, argsE, X.isC, resA, oneA, unA, boundA, eqiA, eqsA, fillA, fillE, ASt.fz, strA, simprocAttr, e0, e1, e7, e8, hdec, ints_len]
    rw [List.take_of_length_le (by omega)] at hn
    exact ⟨_, rfl, by rw [hn]; rfl⟩
theorem containsI_ret {p : Int → Bool} (f : FuncId) (hf : md f = .pure) {l : List Int} {t : Tl} (ht : t.pure = true) (hl : l.length ≤ lenB) (hg : ∀ x ∈ l, Out md pfs f [.int x] (· = .bool (p x)) fun _ => False) : Out md pfs 56 [.sl (ints l) t, .fn f []] (· = .bool (l.any p)) fun _ => False := by
  refine out_of pf56_is (Nat.le_of_ble_eq_true rfl) ?_
  obtain ⟨v, ⟨r, rfl, hr⟩, hc⟩ := (indexI_ret f hf p (t := t) hl hg).call rfl (by simp [pvs_cons, pvs_nil, pv_sl, pv_fn, ht, ints_pure])
  simp only [pf56, ↓wpre, wset, wcore, wext, ne_eq, if_true, if_false, exists_eq_left', true_implies, false_implies, exists_const, exists_eq_right, binA, intA, loadA, storeA, pickC, setAt, mapO, argsE, X.isC, resA, oneA, unA, boundA, eqiA, eqsA, fillA, fillE, ASt.fz, strA, simprocAttr, hc, hr]
theorem indexR_ret (f : FuncId) (caps : List AV) (hf : md f = .pure) (hcap : pureAVs caps = true) (p : List Int → Bool) {l : List (List Int)} {al : List AV} {t : Tl} (h : LIs RowIs l al) (hl : al.length ≤ lenB) (hg : ∀ x a, RowIs x a → Out md pfs f (a :: caps) (· = .bool (p x)) fun _ => False) :
    Out md pfs 64 [.sl al t, .fn f caps] (fun v => ∃ r : Int, v = .int r ∧ decide (r ≥ 0) = l.any p) fun _ => False := by
  have hall := rows_all h
  have hln := h.len
  refine out_of pf64_is (Nat.le_of_ble_eq_true rfl) ?_
  simp only [pf64, ↓wpre, wset, wcore, wext, ne_eq, if_true, if_false, exists_eq_left', true_implies, false_implies, exists_const, exists_eq_right, binA, intA, loadA, storeA, pickC, setAt, mapO, argsE, X.isC, resA, oneA, unA, boundA, eqiA, eqsA, fillA, fillE, ASt.fz, strA, simprocAttr]
  refine W_loopE (fun j => al.length - j) (fun j E H T => E 0 = .sl al t ∧ E 1 = .fn f caps ∧ E 7 = .int al.length ∧ E 8 = .int j ∧ j ≤ al.length ∧ (l.take j).any p = false) ?_ 0 ⟨rfl, rfl, rfl, rfl, Nat.zero_le _, rfl⟩
  rintro j E H T ⟨e0, e1, e7, e8, hj, hn⟩
  rcases Nat.lt_or_ge j al.length with hlt | hge
  · obtain ⟨x, tx, d0, d1, d4, d5, d6, d7⟩ := row_get h hlt
    have hdec := dlt hlt
    obtain ⟨v, rfl, hc⟩ := (hg x _ (RowIs.mk d5 d6 d7)).call hf (by simp [pvs_cons, pv_sl, Tl.fast.pure d5, ints_pure, hcap])
    cases hp : p x
    · simp only [↓wpre, wset, wcore, wext, ne_eq, if_true, if_false, exists_eq_left', true_implies, false_implies, exists_const, exists_eq_right, binA, intA, loadA, storeA, pickC, setAt, mapO, argsE, X.isC, resA, oneA, unA, boundA, eqiA, eqsA, fillA, fillE, ASt.fz, strA, simprocAttr, e0, e1, e7, e8, hdec, d4, hall, hc, hp]
      exact EQ_in ⟨j + 1, by omega, e0, e1, e7, next_ixv (by omega), by omega, any_step hn d0 hp⟩
    · simp only [↓wpre, wset, wcore, wext, ne_eq, if_true, if_false, exists_eq_left', true_implies, false_implies, exists_const, exists_eq_right, binA, intA, loadA, storeA, pickC, setAt, mapO, argsE, X.isC, resA, oneA, unA, boundA, eqiA, eqsA, fillA, fillE, ASt.fz, strA, simprocAttr, e0, e1, e7, e8, hdec, d4, hall, hc, hp]
      exact ⟨_, rfl, by rw [dge0, any_hit d0 hp]⟩
  · have hdec := dltf hge
    simp only [↓wpre, wset, wcore, wext, ne_eq, if_true, if_false, exists_eq_left', true_implies, false_implies, exists_const, exists_eq_right, binA, intA, loadA, storeA, pickC, setAt, mapO, argsE, X.isC, resA, oneA, unA, boundA, eqiA, eqsA, fillA, fillE, ASt.fz, strA, simprocAttr, e0, e1, e7, e8, hdec]
    rw [List.take_of_length_le (by omega)] at hn
    exact ⟨_, rfl, by rw [hn]; rfl⟩
theorem containsR_ret {p : List Int → Bool} (f : FuncId) (caps : List AV) (hf : md f = .pure) (hcap : pureAVs caps = true) {l : List (List Int)} {al : List AV} {t : Tl} (ht : t.pure = true) (h : LIs RowIs l al) (hl : al.length ≤ lenB) (hg : ∀ x a, RowIs x a → Out md pfs f (a :: caps) (· = .bool (p x)) fun _ => False) : Out md pfs 54 [.sl al t, .fn f caps] (· = .bool (l.any p)) fun _ => False := by
  refine out_of pf54_is (Nat.le_of_ble_eq_true rfl) ?_
  obtain ⟨v, ⟨r, rfl, hr⟩, hc⟩ := (indexR_ret f caps hf hcap p (t := t) h hl hg).call rfl (by simp [pvs_cons, pvs_nil, pv_sl, pv_fn, ht, rowsPure h, hcap])
  simp only [pf54, ↓wpre, wset, wcore, wext, ne_eq, if_true, if_false, exists_eq_left', true_implies, false_implies, exists_const, exists_eq_right, binA, intA, loadA, storeA, pickC, setAt, mapO, argsE, X.isC, resA, oneA, unA, boundA, eqiA, eqsA, fillA, fillE, ASt.fz, strA, simprocAttr, hc, hr]
theorem indexC_ret (f : FuncId) (hf : md f = .pure) (p : Cl → Bool) {l : List Cl} {al : List AV} {t : Tl} (h : LIs ClIs l al) (hl : al.length ≤ lenB) (hg : ∀ x a, ClIs x a → Out md pfs f [a] (· = .bool (p x)) fun _ => False) :
    Out md pfs 53 [.sl al t, .fn f []] (fun v => ∃ r : Int, v = .int r ∧ decide (r ≥ 0) = l.any p) fun _ => False := by
  have hall := h.all clAgg
  have hln := h.len
  refine out_of pf53_is (Nat.le_of_ble_eq_true rfl) ?_
  simp only [pf53, ↓wpre, wset, wcore, wext, ne_eq, if_true, if_false, exists_eq_left', true_implies, false_implies, exists_const, exists_eq_right, binA, intA, loadA, storeA, pickC, setAt, mapO, argsE, X.isC, resA, oneA, unA, boundA, eqiA, eqsA, fillA, fillE, ASt.fz, strA, simprocAttr]
  refine W_loopE (fun j => al.length - j) (fun j E H T => E 0 = .sl al t ∧ E 1 = .fn f [] ∧ E 7 = .int al.length ∧ E 8 = .int j ∧ j ≤ al.length ∧ (l.take j).any p = false) ?_ 0 ⟨rfl, rfl, rfl, rfl, Nat.zero_le _, rfl⟩
  rintro j E H T ⟨e0, e1, e7, e8, hj, hn⟩
  rcases Nat.lt_or_ge j al.length with hlt | hge
  · obtain ⟨x, a, d0, d1, d4, d5⟩ := cl_get h hlt
    have hdec := dlt hlt
    obtain ⟨v, rfl, hc⟩ := (hg x _ d5).call hf (by simp [pvs_cons, pvs_nil, d5.pure])
    obtain ⟨bl, u, rfl, _⟩ := d5.of
    cases hp : p x
    · simp only [↓wpre, wset, wcore, wext, ne_eq, if_true, if_false, exists_eq_left', true_implies, false_implies, exists_const, exists_eq_right, binA, intA, loadA, storeA, pickC, setAt, mapO, argsE, X.isC, resA, oneA, unA, boundA, eqiA, eqsA, fillA, fillE, ASt.fz, strA, simprocAttr, e0, e1, e7, e8, hdec, d4, hall, hc, hp]
      exact EQ_in ⟨j + 1, by omega, e0, e1, e7, next_ixv (by omega), by omega, any_step hn d0 hp⟩
    · simp only [↓wpre, wset, wcore, wext, ne_eq, if_true, if_false, exists_eq_left', true_implies, false_implies, exists_const, exists_eq_right, binA, intA, loadA, storeA, pickC, setAt, mapO, argsE, X.isC, resA, oneA, unA, boundA, eqiA, eqsA, fillA, fillE, ASt.fz, strA, simprocAttr, e0, e1, e7, e8, hdec, d4, hall, hc, hp]
      exact ⟨_, rfl, by rw [dge0, any_hit d0 hp]⟩
  · have hdec := dltf hge
    simp only [↓wpre, wset, wcore, wext, ne_eq, if_true, if_false, exists_eq_left', true_implies, false_implies, exists_const, exists_eq_right, binA, intA, loadA, storeA, pickC, setAt, mapO, argsE, X.isC, resA, oneA, unA, boundA, eqiA, eqsA, fillA, fillE, ASt.fz, strA, simprocAttr, e0, e1, e7, e8, hdec]
    rw [List.take_of_length_le (by omega)] at hn
    exact ⟨_, rfl, by rw [hn]; rfl⟩
theorem containsC_ret {p : Cl → Bool} (f : FuncId) (hf : md f = .pure) {l : List Cl} {al : List AV} {t : Tl} (ht : t.pure = true) (h : LIs ClIs l al) (hl : al.length ≤ lenB) (hg : ∀ x a, ClIs x a → Out md pfs f [a] (· = .bool (p x)) fun _ => False) : Out md pfs 40 [.sl al t, .fn f []] (· = .bool (l.any p)) fun _ => False := by
  refine out_of pf40_is (Nat.le_of_ble_eq_true rfl) ?_
  obtain ⟨v, ⟨r, rfl, hr⟩, hc⟩ := (indexC_ret f hf p (t := t) h hl hg).call rfl (by simp [pvs_cons, pvs_nil, pv_sl, pv_fn, ht, clsPure h])
  simp only [pf40, ↓wpre, wset, wcore, wext, ne_eq, if_true, if_false, exists_eq_left', true_implies, false_implies, exists_const, exists_eq_right, binA, intA, loadA, storeA, pickC, setAt, mapO, argsE, X.isC, resA, oneA, unA, boundA, eqiA, eqsA, fillA, fillE, ASt.fz, strA, simprocAttr, hc, hr]
theorem f57_ret {n : Int} : Out md pfs 57 [.int n] (· = .bool (!(decide (0 ≤ n) && decide (n ≤ 2)))) fun _ => False := by
  refine out_of pf57_is (Nat.le_of_ble_eq_true rfl) ?_
  rcases Int.lt_or_le n 0 with h | h
  · have d1 := dneg h
    have dd : (!(decide (0 ≤ n) && decide (n ≤ 2))) = true := by simp; omega
    simp only [pf57, ↓wpre, wset, wcore, wext, ne_eq, if_true, if_false, exists_eq_left', true_implies, false_implies, exists_const, exists_eq_right, binA, intA, loadA, storeA, pickC, setAt, mapO, argsE, X.isC, resA, oneA, unA, boundA, eqiA, eqsA, fillA, fillE, ASt.fz, strA, simprocAttr, d1, dd]
  · have d1 := dneg' h
    rcases Int.lt_or_le 2 n with k | k
    · have d2 := dg2 k
      have dd : (!(decide (0 ≤ n) && decide (n ≤ 2))) = true := by simp; omega
      simp only [pf57, ↓wpre, wset, wcore, wext, ne_eq, if_true, if_false, exists_eq_left', true_implies, false_implies, exists_const, exists_eq_right, binA, intA, loadA, storeA, pickC, setAt, mapO, argsE, X.isC, resA, oneA, unA, boundA, eqiA, eqsA, fillA, fillE, ASt.fz, strA, simprocAttr, d1, d2, dd]
    · have d2 := dg2' k
      have dd : (!(decide (0 ≤ n) && decide (n ≤ 2))) = false := by simp; omega
      simp only [pf57, ↓wpre, wset, wcore, wext, ne_eq, if_true, if_false, exists_eq_left', true_implies, false_implies, exists_const, exists_eq_right, binA, intA, loadA, storeA, pickC, setAt, mapO, argsE, X.isC, resA, oneA, unA, boundA, eqiA, eqsA, fillA, fillE, ASt.fz, strA, simprocAttr, d1, d2, dd]
theorem f55_ret {n : Nat} {r : List Int} {a : AV} (h : RowIs r a) : Out md pfs 55 [a, .ip [.int (n : Nat)] 0] (· = .bool (!rowB n r)) fun _ => False := by
  obtain ⟨t, rfl, h1, h2, h3⟩ := h.of
  refine out_of pf55_is (Nat.le_of_ble_eq_true rfl) ?_
  obtain ⟨_, rfl, hc⟩ := (containsI_ret (p := fun n => !(decide (0 ≤ n) && decide (n ≤ 2))) 57 rfl (t := t) (Tl.fast.pure h1) h2 (fun x _ => f57_ret)).call rfl (by simp [pvs_cons, pvs_nil, pv_sl, pv_fn, Tl.fast.pure h1, ints_pure])
  by_cases hn : r.length = n
  · have d1 : ((r.length : Int) != n) = false := ibne' (by omega)
    have dd : (!rowB n r) = r.any fun n => !(decide (0 ≤ n) && decide (n ≤ 2)) := by
      unfold rowB
      rw [show (r.length == n) = true by simpa using hn, Bool.true_and, List.any_eq_not_all_not]
      simp
    simp only [pf55, ↓wpre, wset, wcore, wext, ne_eq, if_true, if_false, exists_eq_left', true_implies, false_implies, exists_const, exists_eq_right, binA, intA, loadA, storeA, pickC, setAt, mapO, argsE, X.isC, resA, oneA, unA, boundA, eqiA, eqsA, fillA, fillE, ASt.fz, strA, simprocAttr, ints_len, d1, hc, dd]
  · have d1 : ((r.length : Int) != n) = true := ibne (by omega)
    have dd : (!rowB n r) = true := by
      unfold rowB
      rw [show (r.length == n) = false by simpa using hn]; rfl
    simp only [pf55, ↓wpre, wset, wcore, wext, ne_eq, if_true, if_false, exists_eq_left', true_implies, false_implies, exists_const, exists_eq_right, binA, intA, loadA, storeA, pickC, setAt, mapO, argsE, X.isC, resA, oneA, unA, boundA, eqiA, eqsA, fillA, fillE, ASt.fz, strA, simprocAttr, ints_len, d1, dd]
end Go.Proofs.Eng
