/- Validity of levels. No conditions beyond those in the theorems. -/
import Derived.Test.YtbcnlbnimabdeaaT1
import Derived.Test.YtbcnlbnimabdeaaP6
set_option linter.all false
set_option linter.deprecated false
set_option linter.unnecessarySimpa false
set_option linter.unusedVariables false
set_option linter.unusedSimpArgs false
set_option linter.defProp false
namespace Go.Proofs.Eng
open Go Go.Proofs
set_option maxRecDepth 100000
set_option maxHeartbeats 4000000
theorem index2_ret {α : Type} {R : α → AV → Prop} (hR : AggR R 2) (f : FuncId) (caps : List AV) (hf : md f = .pure) (hcaps : pureAVs caps = true) (p : α → Bool) {l : List α} {al : List AV} {t : Tl} (h : LIs R l al) (hl : al.length ≤ lenB) (hg : ∀ x ∈ l, ∀ a, R x a → Out md pfs f (a :: caps) (· = .bool (p x)) fun _ => False) :
    Out md pfs 73 [.sl al t, .fn f caps] (fun v => ∃ r : Int, v = .int r ∧ ((r = -1 ∧ l.any p = false) ∨ ∃ (j : Nat) (x : α), r = j ∧ l[j]? = some x ∧ p x = true ∧ (l.take j).any p = false)) fun _ => False := by
  refine out_of pf73_is (Nat.le_of_ble_eq_true rfl) ?_
  simp only [pf73, ↓wpre, wset, wcore, ne_eq, if_true, if_false, exists_eq_left', true_implies, false_implies, exists_const, exists_eq_right, binA, intA, loadA, storeA, pickC, setAt, mapO, argsE, X.isC, resA, oneA, unA, boundA, eqiA, eqsA, fillA, fillE, ASt.fz, strA, Nat.reduceEqDiff, Nat.reduceLT, ↓reduceIte, reduceCtorEq, Nat.reduceAdd, Nat.reduceLeDiff, Int.reduceBEq, Int.reduceBNe, Int.reduceLT, Int.reduceLE, Int.reduceGT, Int.reduceGE, Nat.reduceDiv, Nat.reduceMul, Nat.reduceBEq, Nat.reduceMod, Nat.reduceSub]
  refine W_loopE (fun j => al.length - j) (fun j E H T => E 0 = .sl al t ∧ E 1 = .fn f caps ∧ E 7 = .int al.length ∧ E 8 = .int j ∧ j ≤ al.length ∧ (l.take j).any p = false) ?_ 0 ?_
  · rintro j E H T ⟨e0, e1, e7, e8, hj, hn⟩
    rcases Nat.lt_or_ge j al.length with hlt | hge
    · obtain ⟨x, c, d0, d1, d3, d4, d5, d6, d7, d8⟩ := h.get hR hlt
      have hdec : decide ((j : Int) < al.length) = true := by simpa using hlt
      have hall := h.all hR
      obtain ⟨v, rfl, hc⟩ := (hg x d3 _ d8).call hf (by simp [pvs_cons, hR.pure d8, hcaps])
      cases hp : p x
      · simp only [↓wpre, wset, wcore, ne_eq, if_true, if_false, exists_eq_left', true_implies, false_implies, exists_const, exists_eq_right, binA, intA, loadA, storeA, pickC, setAt, mapO, argsE, X.isC, resA, oneA, unA, boundA, eqiA, eqsA, fillA, fillE, ASt.fz, strA, Nat.reduceEqDiff, Nat.reduceLT, ↓reduceIte, reduceCtorEq, Nat.reduceAdd, Nat.reduceLeDiff, Int.reduceBEq, Int.reduceBNe, Int.reduceLT, Int.reduceLE, Int.reduceGT, Int.reduceGE, Nat.reduceDiv, Nat.reduceMul, Nat.reduceBEq, Nat.reduceMod, Nat.reduceSub, e0, e1, e7, e8, hdec, d4, d5, d6, hall, hc, hp]
        exact EQ_in ⟨j + 1, by omega, e0, e1, e7, next_ixv (by unfold lenB at *; omega), by omega, by rw [List.take_add_one, d0]; simp [List.any_append, hn, hp]⟩
      · simp only [↓wpre, wset, wcore, ne_eq, if_true, if_false, exists_eq_left', true_implies, false_implies, exists_const, exists_eq_right, binA, intA, loadA, storeA, pickC, setAt, mapO, argsE, X.isC, resA, oneA, unA, boundA, eqiA, eqsA, fillA, fillE, ASt.fz, strA, Nat.reduceEqDiff, Nat.reduceLT, ↓reduceIte, reduceCtorEq, Nat.reduceAdd, Nat.reduceLeDiff, Int.reduceBEq, Int.reduceBNe, Int.reduceLT, Int.reduceLE, Int.reduceGT, Int.reduceGE, Nat.reduceDiv, Nat.reduceMul, Nat.reduceBEq, Nat.reduceMod, Nat.reduceSub, e0, e1, e7, e8, hdec, d4, d5, d6, hall, hc, hp]
        exact ⟨_, rfl, .inr ⟨j, x, rfl, d0, hp, hn⟩⟩
    · have hdec : decide ((j : Int) < al.length) = false := by simpa using hge
      simp only [↓wpre, wset, wcore, ne_eq, if_true, if_false, exists_eq_left', true_implies, false_implies, exists_const, exists_eq_right, binA, intA, loadA, storeA, pickC, setAt, mapO, argsE, X.isC, resA, oneA, unA, boundA, eqiA, eqsA, fillA, fillE, ASt.fz, strA, Nat.reduceEqDiff, Nat.reduceLT, ↓reduceIte, reduceCtorEq, Nat.reduceAdd, Nat.reduceLeDiff, Int.reduceBEq, Int.reduceBNe, Int.reduceLT, Int.reduceLE, Int.reduceGT, Int.reduceGE, Nat.reduceDiv, Nat.reduceMul, Nat.reduceBEq, Nat.reduceMod, Nat.reduceSub, e0, e1, e7, e8, hdec]
      rw [List.take_of_length_le (by rw [← h.len]; omega)] at hn
      exact ⟨_, rfl, .inl ⟨rfl, hn⟩⟩
  · exact ⟨rfl, rfl, rfl, rfl, Nat.zero_le _, rfl⟩

theorem asc_iff : ∀ l : List (Int × Int), ascB l = true ↔ ∀ (i : Nat) (a b : Int × Int), l[i]? = some a → l[i + 1]? = some b → a.1 < b.1
  | [] => by simp [ascB]
  | [x] => by simp [ascB]
  | x :: y :: l => by
    rw [ascB, Bool.and_eq_true, asc_iff (y :: l)]
    constructor
    · rintro ⟨h1, h2⟩ i a b ha hb
      cases i with
      | zero => simp at ha hb; subst ha; subst hb; simpa using h1
      | succ i => exact h2 i a b (by simpa using ha) (by simpa using hb)
    · intro h
      exact ⟨by simpa using h 0 x y rfl rfl, fun i a b ha hb => h (i + 1) a b (by simpa using ha) (by simpa using hb)⟩
/-- What must hold of the variable at a place. -/
def vgood (l : Lv) (j : Nat) (v : Int × Int) : Prop := varB v = true ∧ (∀ u, 0 < j → l.vs[j - 1]? = some u → u.1 < v.1) ∧ (l.c ≤ 0 ∨ v.2 < l.c)
theorem valid_iff (l : Lv) : validB l = true ↔ 0 ≤ l.c ∧ l.c ≤ 100 ∧ ∀ (j : Nat) (v : Int × Int), l.vs[j]? = some v → vgood l j v := by
  simp only [validB, Bool.and_eq_true, Bool.or_eq_true, decide_eq_true_eq, List.all_eq_true, asc_iff]
  constructor
  · rintro ⟨⟨⟨⟨h1, h2⟩, h3⟩, h4⟩, h5⟩
    refine ⟨h1, h2, fun j v hv => ⟨h3 v (List.mem_of_getElem? hv), fun u hj hu => h4 (j - 1) u v hu (by rw [show j - 1 + 1 = j by omega]; exact hv), ?_⟩⟩
    rcases h5 with h5 | h5
    · exact .inl h5
    · exact .inr (h5 v (List.mem_of_getElem? hv))
  · rintro ⟨h1, h2, h3⟩
    refine ⟨⟨⟨⟨h1, h2⟩, fun v hv => ?_⟩, fun i a b ha hb => (h3 (i + 1) b hb).2.1 a (by omega) (by simpa using ha)⟩, ?_⟩
    · obtain ⟨j, hj⟩ := List.mem_iff_getElem?.1 hv
      exact (h3 j v hj).1
    · by_cases hc : l.c ≤ 0
      · exact .inl hc
      · refine .inr fun v hv => ?_
        obtain ⟨j, hj⟩ := List.mem_iff_getElem?.1 hv
        rcases (h3 j v hj).2.2 with h | h
        · exact absurd h hc
        · exact h
theorem valid_bad {l : Lv} {j : Nat} {v : Int × Int} (h : l.vs[j]? = some v) (hb : ¬ vgood l j v) : validB l = false := by
  cases hv : validB l with
  | false => rfl
  | true => exact absurd (((valid_iff l).1 hv).2.2 j v h) hb
theorem covered1_ret {v : Int × Int} {a : AV} (h : varIs v a) {l : Lv} {c : List AV} (hl : l.Is (.agg c)) (fz : Nat) : Out md pfs 72 [a, .ip c 0] (· = .bool (decide (v.2 ≥ l.c))) fun _ => False := by
  obtain ⟨rfl, _, _⟩ := h
  obtain ⟨t, al, e, _⟩ := hl
  cases e
  refine out_of pf72_is (Nat.le_of_ble_eq_true rfl) ?_
  simp only [pf72, ↓wpre, wset, wcore, ne_eq, if_true, if_false, exists_eq_left', true_implies, false_implies, exists_const, exists_eq_right, binA, intA, loadA, storeA, pickC, setAt, mapO, argsE, X.isC, resA, oneA, unA, boundA, eqiA, eqsA, fillA, fillE, ASt.fz, strA, Nat.reduceEqDiff, Nat.reduceLT, ↓reduceIte, reduceCtorEq, Nat.reduceAdd, Nat.reduceLeDiff, Int.reduceBEq, Int.reduceBNe, Int.reduceLT, Int.reduceLE, Int.reduceGT, Int.reduceGE, Nat.reduceDiv, Nat.reduceMul, Nat.reduceBEq, Nat.reduceMod, Nat.reduceSub]
theorem covered_ret {l : Lv} {a : AV} (h : l.Is a) : Out md pfs 70 [a] (· = .bool (l.vs.any fun v => decide (v.2 ≥ l.c))) fun _ => False := by
  have h0 := h
  obtain ⟨t, al, rfl, g1, g2, g3, g4⟩ := h
  have hpu := lvPure h0
  have hal := g4.pure fun _ _ h => varPure h
  have hcap : pureAVs [AV.ip [.int l.c, .sl al t] 0] = true := by rw [pv_agg] at hpu; simp [pvs_cons, pvs_nil, pv_ip, hpu]
  have hix := index2_ret varAgg 72 [.ip [.int l.c, .sl al t] 0] rfl hcap (fun v => decide (v.2 ≥ l.c)) (t := t) g4 g3 (fun x _ a hx => covered1_ret hx h0 0)
  have hco : Out md pfs 71 [.sl al t, .fn 72 [.ip [.int l.c, .sl al t] 0]] (· = .bool (l.vs.any fun v => decide (v.2 ≥ l.c))) fun _ => False := by
    obtain ⟨_, ⟨r, rfl, hr⟩, hc⟩ := hix.call rfl (by simp [pvs_cons, pvs_nil, pv_sl, pv_fn, g1, hal, hcap])
    have hd : decide (r ≥ 0) = l.vs.any fun v => decide (v.2 ≥ l.c) := by
      rcases hr with ⟨rfl, h2⟩ | ⟨j, x, rfl, h2, h3, _⟩
      · rw [h2]; rfl
      · have : (l.vs.any fun v => decide (v.2 ≥ l.c)) = true := List.any_eq_true.2 ⟨x, List.mem_of_getElem? h2, h3⟩
        rw [this]; simp
    refine out_of pf71_is (Nat.le_of_ble_eq_true rfl) ?_
    simp only [pf71, ↓wpre, wset, wcore, ne_eq, if_true, if_false, exists_eq_left', true_implies, false_implies, exists_const, exists_eq_right, binA, intA, loadA, storeA, pickC, setAt, mapO, argsE, X.isC, resA, oneA, unA, boundA, eqiA, eqsA, fillA, fillE, ASt.fz, strA, Nat.reduceEqDiff, Nat.reduceLT, ↓reduceIte, reduceCtorEq, Nat.reduceAdd, Nat.reduceLeDiff, Int.reduceBEq, Int.reduceBNe, Int.reduceLT, Int.reduceLE, Int.reduceGT, Int.reduceGE, Nat.reduceDiv, Nat.reduceMul, Nat.reduceBEq, Nat.reduceMod, Nat.reduceSub, hc, hd]
  obtain ⟨_, rfl, hc⟩ := hco.callP rfl (s := ⟨[.cells false [.int l.c, .sl al t]], []⟩) (args := [.sl al t, .fn 72 [.ptr 0 0]]) (by
    have hpsl : pureAV (.sl al t) = true := by rw [pv_sl, g1, hal]; rfl
    simp only [mapO, purify20 hpsl, pz_fn, pz_ptr, List.getElem?_cons_zero, List.length_cons, List.length_nil, Nat.zero_le, if_true, purify_pure (n := 17) pv_v, purify_pure (n := 17) hpsl, Option.map_some])
  refine out_of pf70_is (Nat.le_of_ble_eq_true rfl) ?_
  simp only [pf70, ↓wpre, wset, wcore, ne_eq, if_true, if_false, exists_eq_left', true_implies, false_implies, exists_const, exists_eq_right, binA, intA, loadA, storeA, pickC, setAt, mapO, argsE, X.isC, resA, oneA, unA, boundA, eqiA, eqsA, fillA, fillE, ASt.fz, strA, Nat.reduceEqDiff, Nat.reduceLT, ↓reduceIte, reduceCtorEq, Nat.reduceAdd, Nat.reduceLeDiff, Int.reduceBEq, Int.reduceBNe, Int.reduceLT, Int.reduceLE, Int.reduceGT, Int.reduceGE, Nat.reduceDiv, Nat.reduceMul, Nat.reduceBEq, Nat.reduceMod, Nat.reduceSub, hc]
end Go.Proofs.Eng
