/- A6: what functions of the program return. No conditions beyond those in the theorems. -/
import Derived.Test.YtfopdknkbnhlkaaA2
set_option linter.all false
set_option linter.deprecated false
set_option linter.unnecessarySimpa false
set_option linter.unusedVariables false
set_option linter.unusedSimpArgs false
set_option linter.defProp false
namespace Go.Proofs.Eng
open Go Go.Proofs
set_option maxRecDepth 100000
theorem index5_ret {α : Type} {R : α → AV → Prop} (hR : AggR R 5) (f : FuncId) (caps : List AV) (hf : md f = .pure) (hcaps : pureAVs caps = true) (p : α → Bool) {l : List α} {al : List AV} {t : Tl} (h : LIs R l al) (hl : al.length ≤ lenB) (hg : ∀ x ∈ l, ∀ a, R x a → Out md pfs f (a :: caps) (· = .bool (p x)) fun _ => False) :
    Out md pfs 86 [.sl al t, .fn f caps] (fun v => ∃ r : Int, v = .int r ∧ ((r = -1 ∧ l.any p = false) ∨ ∃ (j : Nat) (x : α), r = j ∧ l[j]? = some x ∧ p x = true ∧ (l.take j).any p = false)) fun _ => False := by
  refine out_of pf86_is (Nat.le_of_ble_eq_true rfl) ?_
  simp only [pf86, ↓wpre, wset, wcore, ne_eq, if_true, if_false, exists_eq_left', true_implies, false_implies, exists_const, exists_eq_right, binA, intA, loadA, storeA, pickC, setAt, mapO, argsE, X.isC, resA, oneA, unA, boundA, eqiA, eqsA, fillA, fillE, ASt.fz, strA, Nat.reduceEqDiff, Nat.reduceLT, ↓reduceIte, reduceCtorEq, Nat.reduceAdd, Nat.reduceLeDiff, Int.reduceBEq, Int.reduceBNe, Int.reduceLT, Int.reduceLE, Int.reduceGT, Int.reduceGE, Nat.reduceDiv, Nat.reduceMul]
  refine W_loopE (fun j => al.length - j) (fun j E H T => E 0 = .sl al t ∧ E 1 = .fn f caps ∧ E 7 = .int al.length ∧ E 8 = .int j ∧ j ≤ al.length ∧ (l.take j).any p = false) ?_ 0 ?_
  · rintro j E H T ⟨e0, e1, e7, e8, hj, hn⟩
    rcases Nat.lt_or_ge j al.length with hlt | hge
    · obtain ⟨x, c, d0, d1, d3, d4, d5, d6, d7, d8⟩ := h.get hR hlt
      have hdec : decide ((j : Int) < al.length) = true := by simpa using hlt
      have hall := h.all hR
      obtain ⟨v, rfl, hc⟩ := (hg x d3 _ d8).call hf (by simp [pvs_cons, hR.pure d8, hcaps])
      cases hp : p x
      · simp only [↓wpre, wset, wcore, ne_eq, if_true, if_false, exists_eq_left', true_implies, false_implies, exists_const, exists_eq_right, binA, intA, loadA, storeA, pickC, setAt, mapO, argsE, X.isC, resA, oneA, unA, boundA, eqiA, eqsA, fillA, fillE, ASt.fz, strA, Nat.reduceEqDiff, Nat.reduceLT, ↓reduceIte, reduceCtorEq, Nat.reduceAdd, Nat.reduceLeDiff, Int.reduceBEq, Int.reduceBNe, Int.reduceLT, Int.reduceLE, Int.reduceGT, Int.reduceGE, Nat.reduceDiv, Nat.reduceMul, e0, e1, e7, e8, hdec, d4, d5, d6, hall, hc, hp]
        exact EQ_in ⟨j + 1, by omega, e0, e1, e7, next_ixv (by omega), by omega, by rw [List.take_add_one, d0]; simp [List.any_append, hn, hp]⟩
      · simp only [↓wpre, wset, wcore, ne_eq, if_true, if_false, exists_eq_left', true_implies, false_implies, exists_const, exists_eq_right, binA, intA, loadA, storeA, pickC, setAt, mapO, argsE, X.isC, resA, oneA, unA, boundA, eqiA, eqsA, fillA, fillE, ASt.fz, strA, Nat.reduceEqDiff, Nat.reduceLT, ↓reduceIte, reduceCtorEq, Nat.reduceAdd, Nat.reduceLeDiff, Int.reduceBEq, Int.reduceBNe, Int.reduceLT, Int.reduceLE, Int.reduceGT, Int.reduceGE, Nat.reduceDiv, Nat.reduceMul, e0, e1, e7, e8, hdec, d4, d5, d6, hall, hc, hp]
        exact ⟨_, rfl, .inr ⟨j, x, rfl, d0, hp, hn⟩⟩
    · have hdec : decide ((j : Int) < al.length) = false := by simpa using hge
      simp only [↓wpre, wset, wcore, ne_eq, if_true, if_false, exists_eq_left', true_implies, false_implies, exists_const, exists_eq_right, binA, intA, loadA, storeA, pickC, setAt, mapO, argsE, X.isC, resA, oneA, unA, boundA, eqiA, eqsA, fillA, fillE, ASt.fz, strA, Nat.reduceEqDiff, Nat.reduceLT, ↓reduceIte, reduceCtorEq, Nat.reduceAdd, Nat.reduceLeDiff, Int.reduceBEq, Int.reduceBNe, Int.reduceLT, Int.reduceLE, Int.reduceGT, Int.reduceGE, Nat.reduceDiv, Nat.reduceMul, e0, e1, e7, e8, hdec]
      rw [List.take_of_length_le (by rw [← h.len]; omega)] at hn
      exact ⟨_, rfl, .inl ⟨rfl, hn⟩⟩
  · exact ⟨rfl, rfl, rfl, rfl, Nat.zero_le _, rfl⟩
theorem index6_ret {α : Type} {R : α → AV → Prop} (hR : AggR R 6) (f : FuncId) (caps : List AV) (hf : md f = .pure) (hcaps : pureAVs caps = true) (p : α → Bool) {l : List α} {al : List AV} {t : Tl} (h : LIs R l al) (hl : al.length ≤ lenB) (hg : ∀ x ∈ l, ∀ a, R x a → Out md pfs f (a :: caps) (· = .bool (p x)) fun _ => False) :
    Out md pfs 87 [.sl al t, .fn f caps] (fun v => ∃ r : Int, v = .int r ∧ ((r = -1 ∧ l.any p = false) ∨ ∃ (j : Nat) (x : α), r = j ∧ l[j]? = some x ∧ p x = true ∧ (l.take j).any p = false)) fun _ => False := by
  refine out_of pf87_is (Nat.le_of_ble_eq_true rfl) ?_
  simp only [pf87, ↓wpre, wset, wcore, ne_eq, if_true, if_false, exists_eq_left', true_implies, false_implies, exists_const, exists_eq_right, binA, intA, loadA, storeA, pickC, setAt, mapO, argsE, X.isC, resA, oneA, unA, boundA, eqiA, eqsA, fillA, fillE, ASt.fz, strA, Nat.reduceEqDiff, Nat.reduceLT, ↓reduceIte, reduceCtorEq, Nat.reduceAdd, Nat.reduceLeDiff, Int.reduceBEq, Int.reduceBNe, Int.reduceLT, Int.reduceLE, Int.reduceGT, Int.reduceGE, Nat.reduceDiv, Nat.reduceMul]
  refine W_loopE (fun j => al.length - j) (fun j E H T => E 0 = .sl al t ∧ E 1 = .fn f caps ∧ E 7 = .int al.length ∧ E 8 = .int j ∧ j ≤ al.length ∧ (l.take j).any p = false) ?_ 0 ?_
  · rintro j E H T ⟨e0, e1, e7, e8, hj, hn⟩
    rcases Nat.lt_or_ge j al.length with hlt | hge
    · obtain ⟨x, c, d0, d1, d3, d4, d5, d6, d7, d8⟩ := h.get hR hlt
      have hdec : decide ((j : Int) < al.length) = true := by simpa using hlt
      have hall := h.all hR
      obtain ⟨v, rfl, hc⟩ := (hg x d3 _ d8).call hf (by simp [pvs_cons, hR.pure d8, hcaps])
      cases hp : p x
      · simp only [↓wpre, wset, wcore, ne_eq, if_true, if_false, exists_eq_left', true_implies, false_implies, exists_const, exists_eq_right, binA, intA, loadA, storeA, pickC, setAt, mapO, argsE, X.isC, resA, oneA, unA, boundA, eqiA, eqsA, fillA, fillE, ASt.fz, strA, Nat.reduceEqDiff, Nat.reduceLT, ↓reduceIte, reduceCtorEq, Nat.reduceAdd, Nat.reduceLeDiff, Int.reduceBEq, Int.reduceBNe, Int.reduceLT, Int.reduceLE, Int.reduceGT, Int.reduceGE, Nat.reduceDiv, Nat.reduceMul, e0, e1, e7, e8, hdec, d4, d5, d6, hall, hc, hp]
        exact EQ_in ⟨j + 1, by omega, e0, e1, e7, next_ixv (by omega), by omega, by rw [List.take_add_one, d0]; simp [List.any_append, hn, hp]⟩
      · simp only [↓wpre, wset, wcore, ne_eq, if_true, if_false, exists_eq_left', true_implies, false_implies, exists_const, exists_eq_right, binA, intA, loadA, storeA, pickC, setAt, mapO, argsE, X.isC, resA, oneA, unA, boundA, eqiA, eqsA, fillA, fillE, ASt.fz, strA, Nat.reduceEqDiff, Nat.reduceLT, ↓reduceIte, reduceCtorEq, Nat.reduceAdd, Nat.reduceLeDiff, Int.reduceBEq, Int.reduceBNe, Int.reduceLT, Int.reduceLE, Int.reduceGT, Int.reduceGE, Nat.reduceDiv, Nat.reduceMul, e0, e1, e7, e8, hdec, d4, d5, d6, hall, hc, hp]
        exact ⟨_, rfl, .inr ⟨j, x, rfl, d0, hp, hn⟩⟩
    · have hdec : decide ((j : Int) < al.length) = false := by simpa using hge
      simp only [↓wpre, wset, wcore, ne_eq, if_true, if_false, exists_eq_left', true_implies, false_implies, exists_const, exists_eq_right, binA, intA, loadA, storeA, pickC, setAt, mapO, argsE, X.isC, resA, oneA, unA, boundA, eqiA, eqsA, fillA, fillE, ASt.fz, strA, Nat.reduceEqDiff, Nat.reduceLT, ↓reduceIte, reduceCtorEq, Nat.reduceAdd, Nat.reduceLeDiff, Int.reduceBEq, Int.reduceBNe, Int.reduceLT, Int.reduceLE, Int.reduceGT, Int.reduceGE, Nat.reduceDiv, Nat.reduceMul, e0, e1, e7, e8, hdec]
      rw [List.take_of_length_le (by rw [← h.len]; omega)] at hn
      exact ⟨_, rfl, .inl ⟨rfl, hn⟩⟩
  · exact ⟨rfl, rfl, rfl, rfl, Nat.zero_le _, rfl⟩
theorem indexInt_ret (f : FuncId) (hf : md f = .pure) (p : Int → Bool) {l : List Int} {t : Tl} (hl : l.length ≤ lenB) (hg : ∀ x ∈ l, Out md pfs f [.int x] (· = .bool (p x)) fun _ => False) :
    Out md pfs 90 [.sl (ints l) t, .fn f []] (fun v => ∃ r : Int, v = .int r ∧ ((r = -1 ∧ l.any p = false) ∨ ∃ (j : Nat) (x : Int), r = j ∧ l[j]? = some x ∧ p x = true ∧ (l.take j).any p = false)) fun _ => False := by
  refine out_of pf90_is (Nat.le_of_ble_eq_true rfl) ?_
  simp only [pf90, ↓wpre, wset, wcore, ne_eq, if_true, if_false, exists_eq_left', true_implies, false_implies, exists_const, exists_eq_right, binA, intA, loadA, storeA, pickC, setAt, mapO, argsE, X.isC, resA, oneA, unA, boundA, eqiA, eqsA, fillA, fillE, ASt.fz, strA, Nat.reduceEqDiff, Nat.reduceLT, ↓reduceIte, reduceCtorEq, Nat.reduceAdd, Nat.reduceLeDiff, Int.reduceBEq, Int.reduceBNe, Int.reduceLT, Int.reduceLE, Int.reduceGT, Int.reduceGE, Nat.reduceDiv, Nat.reduceMul]
  refine W_loopE (fun j => l.length - j) (fun j E H T => E 0 = .sl (ints l) t ∧ E 1 = .fn f [] ∧ E 7 = .int l.length ∧ E 8 = .int j ∧ j ≤ l.length ∧ (l.take j).any p = false) ?_ 0 ?_
  · rintro j E H T ⟨e0, e1, e7, e8, hj, hn⟩
    rcases Nat.lt_or_ge j l.length with hlt | hge
    · obtain ⟨x, d0, d1, d4⟩ := ints_get hlt
      have hdec : decide ((j : Int) < l.length) = true := by simpa using hlt
      obtain ⟨v, rfl, hc⟩ := (hg x (List.mem_of_getElem? d0)).call hf (by simp [pvs_cons, pvs_nil, pv_v])
      cases hp : p x
      · simp only [↓wpre, wset, wcore, ne_eq, if_true, if_false, exists_eq_left', true_implies, false_implies, exists_const, exists_eq_right, binA, intA, loadA, storeA, pickC, setAt, mapO, argsE, X.isC, resA, oneA, unA, boundA, eqiA, eqsA, fillA, fillE, ASt.fz, strA, Nat.reduceEqDiff, Nat.reduceLT, ↓reduceIte, reduceCtorEq, Nat.reduceAdd, Nat.reduceLeDiff, Int.reduceBEq, Int.reduceBNe, Int.reduceLT, Int.reduceLE, Int.reduceGT, Int.reduceGE, Nat.reduceDiv, Nat.reduceMul, e0, e1, e7, e8, hdec, d4, ints_all, ints_len, hc, hp]
        exact EQ_in ⟨j + 1, by omega, e0, e1, e7, next_ixv (by omega), by omega, by rw [List.take_add_one, d0]; simp [List.any_append, hn, hp]⟩
      · simp only [↓wpre, wset, wcore, ne_eq, if_true, if_false, exists_eq_left', true_implies, false_implies, exists_const, exists_eq_right, binA, intA, loadA, storeA, pickC, setAt, mapO, argsE, X.isC, resA, oneA, unA, boundA, eqiA, eqsA, fillA, fillE, ASt.fz, strA, Nat.reduceEqDiff, Nat.reduceLT, ↓reduceIte, reduceCtorEq, Nat.reduceAdd, Nat.reduceLeDiff, Int.reduceBEq, Int.reduceBNe, Int.reduceLT, Int.reduceLE, Int.reduceGT, Int.reduceGE, Nat.reduceDiv, Nat.reduceMul, e0, e1, e7, e8, hdec, d4, ints_all, ints_len, hc, hp]
        exact ⟨_, rfl, .inr ⟨j, x, rfl, d0, hp, hn⟩⟩
    · have hdec : decide ((j : Int) < l.length) = false := by simpa using hge
      simp only [↓wpre, wset, wcore, ne_eq, if_true, if_false, exists_eq_left', true_implies, false_implies, exists_const, exists_eq_right, binA, intA, loadA, storeA, pickC, setAt, mapO, argsE, X.isC, resA, oneA, unA, boundA, eqiA, eqsA, fillA, fillE, ASt.fz, strA, Nat.reduceEqDiff, Nat.reduceLT, ↓reduceIte, reduceCtorEq, Nat.reduceAdd, Nat.reduceLeDiff, Int.reduceBEq, Int.reduceBNe, Int.reduceLT, Int.reduceLE, Int.reduceGT, Int.reduceGE, Nat.reduceDiv, Nat.reduceMul, e0, e1, e7, e8, hdec, ints_len]
      rw [List.take_of_length_le (by omega)] at hn
      exact ⟨_, rfl, .inl ⟨rfl, hn⟩⟩
  · exact ⟨rfl, rfl, by rw [← ints_len l]; rfl, rfl, Nat.zero_le _, rfl⟩
theorem contains_ret {p : Ex → Bool} (f : FuncId) (hf : md f = .pure) {l : List Ex} {al : List AV} {t : Tl} (h : LIs Ex.Is l al) (ht : t.pure = true) (hl : al.length ≤ lenB) (hg : ∀ x ∈ l, ∀ a, x.Is a → Out md pfs f [a] (· = .bool (p x)) fun _ => False) : Out md pfs 77 [.sl al t, .fn f []] (· = .bool (l.any p)) fun _ => False := by
  refine out_of pf77_is (Nat.le_of_ble_eq_true rfl) ?_
  obtain ⟨v, ⟨r, rfl, hr⟩, hc⟩ := (index5_ret exAgg f [] hf (by simp [pvs_nil]) p (t := t) h hl hg).call rfl (by simp [pvs_cons, pvs_nil, pv_sl, pv_fn, ht, exsPure h])
  have hd : decide (r ≥ 0) = l.any p := by
    rcases hr with ⟨rfl, h2⟩ | ⟨j, x, rfl, h2, h3, _⟩
    · rw [h2]; rfl
    · have : l.any p = true := List.any_eq_true.2 ⟨x, List.mem_of_getElem? h2, h3⟩
      rw [this]; simp
  simp only [pf77, ↓wpre, wset, wcore, ne_eq, if_true, if_false, exists_eq_left', true_implies, false_implies, exists_const, exists_eq_right, binA, intA, loadA, storeA, pickC, setAt, mapO, argsE, X.isC, resA, oneA, unA, boundA, eqiA, eqsA, fillA, fillE, ASt.fz, strA, Nat.reduceEqDiff, Nat.reduceLT, ↓reduceIte, reduceCtorEq, Nat.reduceAdd, Nat.reduceLeDiff, Int.reduceBEq, Int.reduceBNe, Int.reduceLT, Int.reduceLE, Int.reduceGT, Int.reduceGE, Nat.reduceDiv, Nat.reduceMul, hc, hd]
theorem containsInt_ret {p : Int → Bool} (f : FuncId) (hf : md f = .pure) {l : List Int} {t : Tl} (ht : t.pure = true) (hl : l.length ≤ lenB) (hg : ∀ x ∈ l, Out md pfs f [.int x] (· = .bool (p x)) fun _ => False) : Out md pfs 84 [.sl (ints l) t, .fn f []] (· = .bool (l.any p)) fun _ => False := by
  refine out_of pf84_is (Nat.le_of_ble_eq_true rfl) ?_
  obtain ⟨v, ⟨r, rfl, hr⟩, hc⟩ := (indexInt_ret f hf p (t := t) hl hg).call rfl (by simp [pvs_cons, pvs_nil, pv_sl, pv_fn, ht, ints_pure])
  have hd : decide (r ≥ 0) = l.any p := by
    rcases hr with ⟨rfl, h2⟩ | ⟨j, x, rfl, h2, h3, _⟩
    · rw [h2]; rfl
    · have : l.any p = true := List.any_eq_true.2 ⟨x, List.mem_of_getElem? h2, h3⟩
      rw [this]; simp
  simp only [pf84, ↓wpre, wset, wcore, ne_eq, if_true, if_false, exists_eq_left', true_implies, false_implies, exists_const, exists_eq_right, binA, intA, loadA, storeA, pickC, setAt, mapO, argsE, X.isC, resA, oneA, unA, boundA, eqiA, eqsA, fillA, fillE, ASt.fz, strA, Nat.reduceEqDiff, Nat.reduceLT, ↓reduceIte, reduceCtorEq, Nat.reduceAdd, Nat.reduceLeDiff, Int.reduceBEq, Int.reduceBNe, Int.reduceLT, Int.reduceLE, Int.reduceGT, Int.reduceGE, Nat.reduceDiv, Nat.reduceMul, hc, hd]
mutual
def Ex.val : Ex → Bool
  | .mk k _ _ _ kids => if k = 1 ∨ k = 6 then true else if k = 3 ∨ k = 8 then valL kids else false
def valL : List Ex → Bool
  | [] => true
  | e :: es => e.val && valL es
end
theorem valL_any : ∀ l : List Ex, valL l = !l.any fun e => !e.val
  | [] => rfl
  | e :: es => by simp [valL, valL_any es]
theorem valL_all : ∀ l : List Ex, valL l = l.all Ex.val
  | [] => rfl
  | e :: es => by simp [valL, valL_all es]
theorem isValue_ret (e : Ex) : ∀ {a}, e.Is a → Out md pfs 49 [a] (· = .bool e.val) fun _ => False := by
  induction e using Ex.ind with
  | h k i n s kids ih =>
  intro a h
  obtain ⟨t1, t2, kas, rfl, h1, h2, h3, h4, h5, h6⟩ := h.opn
  refine out_of pf49_is (Nat.le_of_ble_eq_true rfl) ?_
  have hw : ∀ x ∈ kids, ∀ a, x.Is a → Out md pfs 78 [a] (· = .bool (!x.val)) fun _ => False := by
    intro x hx a ha
    refine out_of pf78_is (Nat.le_of_ble_eq_true rfl) ?_
    obtain ⟨v, rfl, hc⟩ := (ih x hx ha).call rfl (by simp [pvs_cons, pvs_nil, exPure _ ha])
    obtain ⟨c, rfl, hl, ho⟩ := exAgg.cells ha
    have hl' : c.take 5 = c := List.take_of_length_le (by omega)
    simp only [pf78, ↓wpre, wset, wcore, ne_eq, if_true, if_false, exists_eq_left', true_implies, false_implies, exists_const, exists_eq_right, binA, intA, loadA, storeA, pickC, setAt, mapO, argsE, X.isC, resA, oneA, unA, boundA, eqiA, eqsA, fillA, fillE, ASt.fz, strA, Nat.reduceEqDiff, Nat.reduceLT, ↓reduceIte, reduceCtorEq, Nat.reduceAdd, Nat.reduceLeDiff, Int.reduceBEq, Int.reduceBNe, Int.reduceLT, Int.reduceLE, Int.reduceGT, Int.reduceGE, Nat.reduceDiv, Nat.reduceMul, hc, hl, hl', ho]
  obtain ⟨v, rfl, hc⟩ := (contains_ret 78 rfl h6 h2 h5 hw).call rfl (by simp [pvs_cons, pvs_nil, pv_sl, pv_fn, h2, exsPure h6])
  cases k1 : (k == 1)
  · cases k6 : (k == 6)
    · cases k3 : (k == 3)
      · cases k8 : (k == 8)
        · simp only [pf49, ↓wpre, wset, wcore, ne_eq, if_true, if_false, exists_eq_left', true_implies, false_implies, exists_const, exists_eq_right, binA, intA, loadA, storeA, pickC, setAt, mapO, argsE, X.isC, resA, oneA, unA, boundA, eqiA, eqsA, fillA, fillE, ASt.fz, strA, Nat.reduceEqDiff, Nat.reduceLT, ↓reduceIte, reduceCtorEq, Nat.reduceAdd, Nat.reduceLeDiff, Int.reduceBEq, Int.reduceBNe, Int.reduceLT, Int.reduceLE, Int.reduceGT, Int.reduceGE, Nat.reduceDiv, Nat.reduceMul, k1, k6, k3, k8]
          simp at k1 k6 k3 k8
          simp [Ex.val, k1, k6, k3, k8]
        · simp only [pf49, ↓wpre, wset, wcore, ne_eq, if_true, if_false, exists_eq_left', true_implies, false_implies, exists_const, exists_eq_right, binA, intA, loadA, storeA, pickC, setAt, mapO, argsE, X.isC, resA, oneA, unA, boundA, eqiA, eqsA, fillA, fillE, ASt.fz, strA, Nat.reduceEqDiff, Nat.reduceLT, ↓reduceIte, reduceCtorEq, Nat.reduceAdd, Nat.reduceLeDiff, Int.reduceBEq, Int.reduceBNe, Int.reduceLT, Int.reduceLE, Int.reduceGT, Int.reduceGE, Nat.reduceDiv, Nat.reduceMul, k1, k6, k3, k8, hc]
          simp at k1 k6 k3 k8
          simp [Ex.val, k8, valL_any]
      · simp only [pf49, ↓wpre, wset, wcore, ne_eq, if_true, if_false, exists_eq_left', true_implies, false_implies, exists_const, exists_eq_right, binA, intA, loadA, storeA, pickC, setAt, mapO, argsE, X.isC, resA, oneA, unA, boundA, eqiA, eqsA, fillA, fillE, ASt.fz, strA, Nat.reduceEqDiff, Nat.reduceLT, ↓reduceIte, reduceCtorEq, Nat.reduceAdd, Nat.reduceLeDiff, Int.reduceBEq, Int.reduceBNe, Int.reduceLT, Int.reduceLE, Int.reduceGT, Int.reduceGE, Nat.reduceDiv, Nat.reduceMul, k1, k6, k3, hc]
        simp at k1 k6 k3
        simp [Ex.val, k3, valL_any]
    · simp only [pf49, ↓wpre, wset, wcore, ne_eq, if_true, if_false, exists_eq_left', true_implies, false_implies, exists_const, exists_eq_right, binA, intA, loadA, storeA, pickC, setAt, mapO, argsE, X.isC, resA, oneA, unA, boundA, eqiA, eqsA, fillA, fillE, ASt.fz, strA, Nat.reduceEqDiff, Nat.reduceLT, ↓reduceIte, reduceCtorEq, Nat.reduceAdd, Nat.reduceLeDiff, Int.reduceBEq, Int.reduceBNe, Int.reduceLT, Int.reduceLE, Int.reduceGT, Int.reduceGE, Nat.reduceDiv, Nat.reduceMul, k1, k6]
      simp at k1 k6
      simp [Ex.val, k6]
  · simp only [pf49, ↓wpre, wset, wcore, ne_eq, if_true, if_false, exists_eq_left', true_implies, false_implies, exists_const, exists_eq_right, binA, intA, loadA, storeA, pickC, setAt, mapO, argsE, X.isC, resA, oneA, unA, boundA, eqiA, eqsA, fillA, fillE, ASt.fz, strA, Nat.reduceEqDiff, Nat.reduceLT, ↓reduceIte, reduceCtorEq, Nat.reduceAdd, Nat.reduceLeDiff, Int.reduceBEq, Int.reduceBNe, Int.reduceLT, Int.reduceLE, Int.reduceGT, Int.reduceGE, Nat.reduceDiv, Nat.reduceMul, k1]
    simp at k1
    simp [Ex.val, k1]
theorem value_ret (e : Ex) : ∀ {a}, e.Is a → Out md pfs 52 [a] (· = .bool e.val) fun _ => False := by
  induction e using Ex.ind with
  | h k i n s kids ih =>
  intro a h
  obtain ⟨t1, t2, kas, rfl, h1, h2, h3, h4, h5, h6⟩ := h.opn
  refine out_of pf52_is (Nat.le_of_ble_eq_true rfl) ?_
  cases k1 : (k == 1)
  · cases k6 : (k == 6)
    · by_cases hk : k = 3 ∨ k = 8
      · have hv : Ex.val (.mk k i n s kids) = valL kids := by rcases hk with rfl | rfl <;> simp [Ex.val]
        rcases hk with rfl | rfl
        all_goals
          simp only [pf52, ↓wpre, wset, wcore, ne_eq, if_true, if_false, exists_eq_left', true_implies, false_implies, exists_const, exists_eq_right, binA, intA, loadA, storeA, pickC, setAt, mapO, argsE, X.isC, resA, oneA, unA, boundA, eqiA, eqsA, fillA, fillE, ASt.fz, strA, Nat.reduceEqDiff, Nat.reduceLT, ↓reduceIte, reduceCtorEq, Nat.reduceAdd, Nat.reduceLeDiff, Int.reduceBEq, Int.reduceBNe, Int.reduceLT, Int.reduceLE, Int.reduceGT, Int.reduceGE, Nat.reduceDiv, Nat.reduceMul]
          refine W_loopE (fun j => kas.length - j) (fun j E H T => E 1 = .ptr 0 0 ∧ E 3 = .int j ∧ H = [.cells false [.int _, .int i, .str n, .sl (ints s) t1, .sl kas t2]] ∧ j ≤ kas.length ∧ valL (kids.drop j) = valL kids) ?_ 0 ⟨rfl, rfl, rfl, Nat.zero_le _, rfl⟩
          rintro j E H T ⟨e1, e3, rfl, hj, hn⟩
          rcases Nat.lt_or_ge j kas.length with hlt | hge
          · obtain ⟨x, c, d0, d1, d3, d4, d5, d6, d7, d8⟩ := h6.get exAgg hlt
            have hdec : decide ((j : Int) < kas.length) = true := by simpa using hlt
            have hall := h6.all exAgg
            obtain ⟨v, rfl, hc⟩ := (ih x d3 d8).call rfl (by simp [pvs_cons, pvs_nil, exPure _ d8])
            rw [d1, valL] at hn
            cases hp : x.val
            · simp only [↓wpre, wset, wcore, ne_eq, if_true, if_false, exists_eq_left', true_implies, false_implies, exists_const, exists_eq_right, binA, intA, loadA, storeA, pickC, setAt, mapO, argsE, X.isC, resA, oneA, unA, boundA, eqiA, eqsA, fillA, fillE, ASt.fz, strA, Nat.reduceEqDiff, Nat.reduceLT, ↓reduceIte, reduceCtorEq, Nat.reduceAdd, Nat.reduceLeDiff, Int.reduceBEq, Int.reduceBNe, Int.reduceLT, Int.reduceLE, Int.reduceGT, Int.reduceGE, Nat.reduceDiv, Nat.reduceMul, e1, e3, hdec, d4, d5, d6, hall, hc, hp]
              rw [hv, ← hn, hp]; rfl
            · simp only [↓wpre, wset, wcore, ne_eq, if_true, if_false, exists_eq_left', true_implies, false_implies, exists_const, exists_eq_right, binA, intA, loadA, storeA, pickC, setAt, mapO, argsE, X.isC, resA, oneA, unA, boundA, eqiA, eqsA, fillA, fillE, ASt.fz, strA, Nat.reduceEqDiff, Nat.reduceLT, ↓reduceIte, reduceCtorEq, Nat.reduceAdd, Nat.reduceLeDiff, Int.reduceBEq, Int.reduceBNe, Int.reduceLT, Int.reduceLE, Int.reduceGT, Int.reduceGE, Nat.reduceDiv, Nat.reduceMul, e1, e3, hdec, d4, d5, d6, hall, hc, hp]
              exact EQ_in ⟨j + 1, by omega, e1, next_ixv (by omega), rfl, by omega, by rw [← hn, hp]; simp⟩
          · have hdec : decide ((j : Int) < kas.length) = false := by simpa using hge
            simp only [↓wpre, wset, wcore, ne_eq, if_true, if_false, exists_eq_left', true_implies, false_implies, exists_const, exists_eq_right, binA, intA, loadA, storeA, pickC, setAt, mapO, argsE, X.isC, resA, oneA, unA, boundA, eqiA, eqsA, fillA, fillE, ASt.fz, strA, Nat.reduceEqDiff, Nat.reduceLT, ↓reduceIte, reduceCtorEq, Nat.reduceAdd, Nat.reduceLeDiff, Int.reduceBEq, Int.reduceBNe, Int.reduceLT, Int.reduceLE, Int.reduceGT, Int.reduceGE, Nat.reduceDiv, Nat.reduceMul, e1, e3, hdec]
            rw [List.drop_eq_nil_of_le (by rw [← h6.len]; omega)] at hn
            rw [hv, ← hn]; rfl
      · have k3 : (k == 3) = false := by simp; omega
        have k8 : (k == 8) = false := by simp; omega
        simp only [pf52, ↓wpre, wset, wcore, ne_eq, if_true, if_false, exists_eq_left', true_implies, false_implies, exists_const, exists_eq_right, binA, intA, loadA, storeA, pickC, setAt, mapO, argsE, X.isC, resA, oneA, unA, boundA, eqiA, eqsA, fillA, fillE, ASt.fz, strA, Nat.reduceEqDiff, Nat.reduceLT, ↓reduceIte, reduceCtorEq, Nat.reduceAdd, Nat.reduceLeDiff, Int.reduceBEq, Int.reduceBNe, Int.reduceLT, Int.reduceLE, Int.reduceGT, Int.reduceGE, Nat.reduceDiv, Nat.reduceMul, k1, k6, k3, k8]
        simp at k1 k6 k3 k8
        simp [Ex.val, k1, k6, k3, k8]
    · simp only [pf52, ↓wpre, wset, wcore, ne_eq, if_true, if_false, exists_eq_left', true_implies, false_implies, exists_const, exists_eq_right, binA, intA, loadA, storeA, pickC, setAt, mapO, argsE, X.isC, resA, oneA, unA, boundA, eqiA, eqsA, fillA, fillE, ASt.fz, strA, Nat.reduceEqDiff, Nat.reduceLT, ↓reduceIte, reduceCtorEq, Nat.reduceAdd, Nat.reduceLeDiff, Int.reduceBEq, Int.reduceBNe, Int.reduceLT, Int.reduceLE, Int.reduceGT, Int.reduceGE, Nat.reduceDiv, Nat.reduceMul, k1, k6]
      simp at k1 k6
      simp [Ex.val, k6]
  · simp only [pf52, ↓wpre, wset, wcore, ne_eq, if_true, if_false, exists_eq_left', true_implies, false_implies, exists_const, exists_eq_right, binA, intA, loadA, storeA, pickC, setAt, mapO, argsE, X.isC, resA, oneA, unA, boundA, eqiA, eqsA, fillA, fillE, ASt.fz, strA, Nat.reduceEqDiff, Nat.reduceLT, ↓reduceIte, reduceCtorEq, Nat.reduceAdd, Nat.reduceLeDiff, Int.reduceBEq, Int.reduceBNe, Int.reduceLT, Int.reduceLE, Int.reduceGT, Int.reduceGE, Nat.reduceDiv, Nat.reduceMul, k1]
    simp at k1
    simp [Ex.val, k1]
mutual
def Ex.size : Ex → Int
  | .mk _ _ _ _ kids => Ex.sizes 1 kids
def Ex.sizes : Int → List Ex → Int
  | acc, [] => acc
  | acc, e :: es => Ex.sizes (IntKind.i64.wrap (acc + e.size)) es
end
mutual
def Ex.deep : Ex → Int
  | .mk _ _ _ _ kids => IntKind.i64.wrap (Ex.deeps 0 kids + 1)
def Ex.deeps : Int → List Ex → Int
  | acc, [] => acc
  | acc, e :: es => Ex.deeps (if e.deep > acc then e.deep else acc) es
end
theorem size_ret (e : Ex) : ∀ {a}, e.Is a → Out md pfs 57 [a] (· = .int e.size) fun _ => False := by
  induction e using Ex.ind with
  | h k i n s kids ih =>
  intro a h
  obtain ⟨t1, t2, kas, rfl, h1, h2, h3, h4, h5, h6⟩ := h.opn
  refine out_of pf57_is (Nat.le_of_ble_eq_true rfl) ?_
  simp only [pf57, ↓wpre, wset, wcore, ne_eq, if_true, if_false, exists_eq_left', true_implies, false_implies, exists_const, exists_eq_right, binA, intA, loadA, storeA, pickC, setAt, mapO, argsE, X.isC, resA, oneA, unA, boundA, eqiA, eqsA, fillA, fillE, ASt.fz, strA, Nat.reduceEqDiff, Nat.reduceLT, ↓reduceIte, reduceCtorEq, Nat.reduceAdd, Nat.reduceLeDiff, Int.reduceBEq, Int.reduceBNe, Int.reduceLT, Int.reduceLE, Int.reduceGT, Int.reduceGE, Nat.reduceDiv, Nat.reduceMul]
  refine W_loopE (fun j => kas.length - j) (fun j E H T => ∃ G acc, H = .cells false [.int k, .int i, .str n, .sl (ints s) t1, .sl kas t2] :: G ∧ E 7 = .sl kas t2 ∧ E 8 = .int kas.length ∧ E 9 = .int j ∧ E 3 = .int acc ∧ j ≤ kas.length ∧ Ex.sizes acc (kids.drop j) = Ex.sizes 1 kids) ?_ 0 ⟨_, 1, rfl, rfl, rfl, rfl, rfl, Nat.zero_le _, rfl⟩
  rintro j E H T ⟨G, acc, rfl, e7, e8, e9, e3, hj, hn⟩
  rcases Nat.lt_or_ge j kas.length with hlt | hge
  · obtain ⟨x, c, d0, d1, d3, d4, d5, d6, d7, d8⟩ := h6.get exAgg hlt
    have hdec : decide ((j : Int) < kas.length) = true := by simpa using hlt
    have hall := h6.all exAgg
    obtain ⟨v, rfl, hc⟩ := (ih x d3 d8).call rfl (by simp [pvs_cons, pvs_nil, exPure _ d8])
    rw [d1, Ex.sizes] at hn
    simp only [↓wpre, wset, wcore, ne_eq, if_true, if_false, exists_eq_left', true_implies, false_implies, exists_const, exists_eq_right, binA, intA, loadA, storeA, pickC, setAt, mapO, argsE, X.isC, resA, oneA, unA, boundA, eqiA, eqsA, fillA, fillE, ASt.fz, strA, Nat.reduceEqDiff, Nat.reduceLT, ↓reduceIte, reduceCtorEq, Nat.reduceAdd, Nat.reduceLeDiff, Int.reduceBEq, Int.reduceBNe, Int.reduceLT, Int.reduceLE, Int.reduceGT, Int.reduceGE, Nat.reduceDiv, Nat.reduceMul, e3, e7, e8, e9, hdec, d4, d5, d6, d7, hall, hc]
    exact EQ_in ⟨j + 1, by omega, _, _, rfl, e7, e8, next_ixv (by omega), rfl, by omega, hn⟩
  · have hdec : decide ((j : Int) < kas.length) = false := by simpa using hge
    simp only [↓wpre, wset, wcore, ne_eq, if_true, if_false, exists_eq_left', true_implies, false_implies, exists_const, exists_eq_right, binA, intA, loadA, storeA, pickC, setAt, mapO, argsE, X.isC, resA, oneA, unA, boundA, eqiA, eqsA, fillA, fillE, ASt.fz, strA, Nat.reduceEqDiff, Nat.reduceLT, ↓reduceIte, reduceCtorEq, Nat.reduceAdd, Nat.reduceLeDiff, Int.reduceBEq, Int.reduceBNe, Int.reduceLT, Int.reduceLE, Int.reduceGT, Int.reduceGE, Nat.reduceDiv, Nat.reduceMul, e3, e7, e8, e9, hdec]
    rw [List.drop_eq_nil_of_le (by rw [← h6.len]; omega)] at hn
    simp only [Ex.size, ← hn]; rfl
theorem rsize_ret (e : Ex) : ∀ {a}, e.Is a → Out md pfs 24 [a] (· = .int e.size) fun _ => False := by
  induction e using Ex.ind with
  | h k i n s kids ih =>
  intro a h
  obtain ⟨t1, t2, kas, rfl, h1, h2, h3, h4, h5, h6⟩ := h.opn
  refine out_of pf24_is (Nat.le_of_ble_eq_true rfl) ?_
  simp only [pf24, ↓wpre, wset, wcore, ne_eq, if_true, if_false, exists_eq_left', true_implies, false_implies, exists_const, exists_eq_right, binA, intA, loadA, storeA, pickC, setAt, mapO, argsE, X.isC, resA, oneA, unA, boundA, eqiA, eqsA, fillA, fillE, ASt.fz, strA, Nat.reduceEqDiff, Nat.reduceLT, ↓reduceIte, reduceCtorEq, Nat.reduceAdd, Nat.reduceLeDiff, Int.reduceBEq, Int.reduceBNe, Int.reduceLT, Int.reduceLE, Int.reduceGT, Int.reduceGE, Nat.reduceDiv, Nat.reduceMul]
  refine W_loopE (fun j => kas.length - j) (fun j E H T => ∃ acc, H = [.cells false [.int k, .int i, .str n, .sl (ints s) t1, .sl kas t2]] ∧ E 1 = .ptr 0 0 ∧ E 4 = .int j ∧ E 3 = .int acc ∧ j ≤ kas.length ∧ Ex.sizes acc (kids.drop j) = Ex.sizes 1 kids) ?_ 0 ⟨1, rfl, rfl, rfl, rfl, Nat.zero_le _, rfl⟩
  rintro j E H T ⟨acc, rfl, e1, e4, e3, hj, hn⟩
  rcases Nat.lt_or_ge j kas.length with hlt | hge
  · obtain ⟨x, c, d0, d1, d3, d4, d5, d6, d7, d8⟩ := h6.get exAgg hlt
    have hdec : decide ((j : Int) < kas.length) = true := by simpa using hlt
    have hall := h6.all exAgg
    obtain ⟨v, rfl, hc⟩ := (ih x d3 d8).call rfl (by simp [pvs_cons, pvs_nil, exPure _ d8])
    rw [d1, Ex.sizes] at hn
    simp only [↓wpre, wset, wcore, ne_eq, if_true, if_false, exists_eq_left', true_implies, false_implies, exists_const, exists_eq_right, binA, intA, loadA, storeA, pickC, setAt, mapO, argsE, X.isC, resA, oneA, unA, boundA, eqiA, eqsA, fillA, fillE, ASt.fz, strA, Nat.reduceEqDiff, Nat.reduceLT, ↓reduceIte, reduceCtorEq, Nat.reduceAdd, Nat.reduceLeDiff, Int.reduceBEq, Int.reduceBNe, Int.reduceLT, Int.reduceLE, Int.reduceGT, Int.reduceGE, Nat.reduceDiv, Nat.reduceMul, e3, e1, e4, hdec, d4, d5, d6, d7, hall, hc]
    exact EQ_in ⟨j + 1, by omega, _, rfl, e1, next_ixv (by omega), rfl, by omega, hn⟩
  · have hdec : decide ((j : Int) < kas.length) = false := by simpa using hge
    simp only [↓wpre, wset, wcore, ne_eq, if_true, if_false, exists_eq_left', true_implies, false_implies, exists_const, exists_eq_right, binA, intA, loadA, storeA, pickC, setAt, mapO, argsE, X.isC, resA, oneA, unA, boundA, eqiA, eqsA, fillA, fillE, ASt.fz, strA, Nat.reduceEqDiff, Nat.reduceLT, ↓reduceIte, reduceCtorEq, Nat.reduceAdd, Nat.reduceLeDiff, Int.reduceBEq, Int.reduceBNe, Int.reduceLT, Int.reduceLE, Int.reduceGT, Int.reduceGE, Nat.reduceDiv, Nat.reduceMul, e3, e1, e4, hdec]
    rw [List.drop_eq_nil_of_le (by rw [← h6.len]; omega)] at hn
    simp only [Ex.size, ← hn]; rfl
theorem deep_ret (e : Ex) : ∀ {a}, e.Is a → Out md pfs 71 [a] (· = .int e.deep) fun _ => False := by
  induction e using Ex.ind with
  | h k i n s kids ih =>
  intro a h
  obtain ⟨t1, t2, kas, rfl, h1, h2, h3, h4, h5, h6⟩ := h.opn
  refine out_of pf71_is (Nat.le_of_ble_eq_true rfl) ?_
  simp only [pf71, ↓wpre, wset, wcore, ne_eq, if_true, if_false, exists_eq_left', true_implies, false_implies, exists_const, exists_eq_right, binA, intA, loadA, storeA, pickC, setAt, mapO, argsE, X.isC, resA, oneA, unA, boundA, eqiA, eqsA, fillA, fillE, ASt.fz, strA, Nat.reduceEqDiff, Nat.reduceLT, ↓reduceIte, reduceCtorEq, Nat.reduceAdd, Nat.reduceLeDiff, Int.reduceBEq, Int.reduceBNe, Int.reduceLT, Int.reduceLE, Int.reduceGT, Int.reduceGE, Nat.reduceDiv, Nat.reduceMul]
  refine W_loopE (fun j => kas.length - j) (fun j E H T => ∃ acc, H = [.cells false [.int k, .int i, .str n, .sl (ints s) t1, .sl kas t2]] ∧ E 1 = .ptr 0 0 ∧ E 4 = .int j ∧ E 3 = .int acc ∧ j ≤ kas.length ∧ Ex.deeps acc (kids.drop j) = Ex.deeps 0 kids) ?_ 0 ⟨0, rfl, rfl, rfl, rfl, Nat.zero_le _, rfl⟩
  rintro j E H T ⟨acc, rfl, e1, e4, e3, hj, hn⟩
  rcases Nat.lt_or_ge j kas.length with hlt | hge
  · obtain ⟨x, c, d0, d1, d3, d4, d5, d6, d7, d8⟩ := h6.get exAgg hlt
    have hdec : decide ((j : Int) < kas.length) = true := by simpa using hlt
    have hall := h6.all exAgg
    obtain ⟨v, rfl, hc⟩ := (ih x d3 d8).call rfl (by simp [pvs_cons, pvs_nil, exPure _ d8])
    rw [d1, Ex.deeps] at hn
    simp only [↓wpre, wset, wcore, ne_eq, if_true, if_false, exists_eq_left', true_implies, false_implies, exists_const, exists_eq_right, binA, intA, loadA, storeA, pickC, setAt, mapO, argsE, X.isC, resA, oneA, unA, boundA, eqiA, eqsA, fillA, fillE, ASt.fz, strA, Nat.reduceEqDiff, Nat.reduceLT, ↓reduceIte, reduceCtorEq, Nat.reduceAdd, Nat.reduceLeDiff, Int.reduceBEq, Int.reduceBNe, Int.reduceLT, Int.reduceLE, Int.reduceGT, Int.reduceGE, Nat.reduceDiv, Nat.reduceMul, e3, e1, e4, hdec, d4, d5, d6, d7, hall, hc]
    exact EQ_in ⟨j + 1, by omega, _, rfl, e1, next_ixv (by omega), rfl, by omega, hn⟩
  · have hdec : decide ((j : Int) < kas.length) = false := by simpa using hge
    simp only [↓wpre, wset, wcore, ne_eq, if_true, if_false, exists_eq_left', true_implies, false_implies, exists_const, exists_eq_right, binA, intA, loadA, storeA, pickC, setAt, mapO, argsE, X.isC, resA, oneA, unA, boundA, eqiA, eqsA, fillA, fillE, ASt.fz, strA, Nat.reduceEqDiff, Nat.reduceLT, ↓reduceIte, reduceCtorEq, Nat.reduceAdd, Nat.reduceLeDiff, Int.reduceBEq, Int.reduceBNe, Int.reduceLT, Int.reduceLE, Int.reduceGT, Int.reduceGE, Nat.reduceDiv, Nat.reduceMul, e3, e1, e4, hdec]
    rw [List.drop_eq_nil_of_le (by rw [← h6.len]; omega)] at hn
    simp only [Ex.deep, ← hn]; rfl
end Go.Proofs.Eng
