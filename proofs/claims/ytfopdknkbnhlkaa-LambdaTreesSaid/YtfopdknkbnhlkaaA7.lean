/- A7: what functions of the program return. No conditions beyond those in the theorems. -/
import Derived.Test.YtfopdknkbnhlkaaA6
set_option linter.all false
set_option linter.deprecated false
set_option linter.unnecessarySimpa false
set_option linter.unusedVariables false
set_option linter.unusedSimpArgs false
set_option linter.defProp false
namespace Go.Proofs.Eng
open Go Go.Proofs
set_option maxRecDepth 100000
def kidsB (m : Int) (s : List Int) (l : Nat) : Bool := (l : Int) == m && s.length == 0
def ctorB (i : Int) (s : List Int) (l : Nat) : Bool := s.length == 0 && decide (i < 32) && decide ((l : Int) ≤ 4096)
def badSize (n : Int) : Bool := decide (n < 0) || decide (n > 64)
def caseB (s : List Int) (l : Nat) : Bool := decide (s.length ≤ 32) && l == s.length + 1 && !s.any badSize
def namedB (k : Int) : Bool := k == 3 || k == 5
section
variable {k i : Int} {n : ByteArray} {s : List Int} {t1 t2 : Tl} {kas : List AV}
theorem named_ret (k : Int) : Out md pfs 82 [.int k] (· = .bool (namedB k)) fun _ => False := by
  refine out_of pf82_is (Nat.le_of_ble_eq_true rfl) ?_
  cases h3 : (k == 3) <;> cases h5 : (k == 5)
  all_goals
    simp only [pf82, ↓wpre, wset, wcore, ne_eq, if_true, if_false, exists_eq_left', true_implies, false_implies, exists_const, exists_eq_right, binA, intA, loadA, storeA, pickC, setAt, mapO, argsE, X.isC, resA, oneA, unA, boundA, eqiA, eqsA, fillA, fillE, ASt.fz, strA, Nat.reduceEqDiff, Nat.reduceLT, ↓reduceIte, reduceCtorEq, Nat.reduceAdd, Nat.reduceLeDiff, Int.reduceBEq, Int.reduceBNe, Int.reduceLT, Int.reduceLE, Int.reduceGT, Int.reduceGE, Nat.reduceDiv, Nat.reduceMul, h3, h5]
    simp [namedB, h3, h5]
theorem kidsFn_ret (m : Int) : Out md pfs 64 [.agg [.int k, .int i, .str n, .sl (ints s) t1, .sl kas t2], .ip [.int m] 0] (· = .bool (kidsB m s kas.length)) fun _ => False := by
  refine out_of pf64_is (Nat.le_of_ble_eq_true rfl) ?_
  have h0 : (((ints s).length : Int) == 0) = (s.length == 0) := by rw [ints_len]; cases s.length <;> rfl
  cases h3 : ((kas.length : Int) == m) <;> cases h5 : (s.length == 0)
  all_goals
    simp only [pf64, ↓wpre, wset, wcore, ne_eq, if_true, if_false, exists_eq_left', true_implies, false_implies, exists_const, exists_eq_right, binA, intA, loadA, storeA, pickC, setAt, mapO, argsE, X.isC, resA, oneA, unA, boundA, eqiA, eqsA, fillA, fillE, ASt.fz, strA, Nat.reduceEqDiff, Nat.reduceLT, ↓reduceIte, reduceCtorEq, Nat.reduceAdd, Nat.reduceLeDiff, Int.reduceBEq, Int.reduceBNe, Int.reduceLT, Int.reduceLE, Int.reduceGT, Int.reduceGE, Nat.reduceDiv, Nat.reduceMul, h3, h0, h5]
    simp [kidsB, h3, h5]
theorem ctorFn_ret : Out md pfs 65 [.agg [.int k, .int i, .str n, .sl (ints s) t1, .sl kas t2]] (· = .bool (ctorB i s kas.length)) fun _ => False := by
  refine out_of pf65_is (Nat.le_of_ble_eq_true rfl) ?_
  have h0 : (((ints s).length : Int) == 0) = (s.length == 0) := by rw [ints_len]; cases s.length <;> rfl
  cases h3 : decide (i < 32) <;> cases h4 : decide ((kas.length : Int) ≤ 4096) <;> cases h5 : (s.length == 0)
  all_goals
    simp only [pf65, ↓wpre, wset, wcore, ne_eq, if_true, if_false, exists_eq_left', true_implies, false_implies, exists_const, exists_eq_right, binA, intA, loadA, storeA, pickC, setAt, mapO, argsE, X.isC, resA, oneA, unA, boundA, eqiA, eqsA, fillA, fillE, ASt.fz, strA, Nat.reduceEqDiff, Nat.reduceLT, ↓reduceIte, reduceCtorEq, Nat.reduceAdd, Nat.reduceLeDiff, Int.reduceBEq, Int.reduceBNe, Int.reduceLT, Int.reduceLE, Int.reduceGT, Int.reduceGE, Nat.reduceDiv, Nat.reduceMul, h3, h4, h0, h5]
    simp only [ctorB, h3, h4, h5]
    rfl
theorem badSize_ret (x : Int) : Out md pfs 85 [.int x] (· = .bool (badSize x)) fun _ => False := by
  refine out_of pf85_is (Nat.le_of_ble_eq_true rfl) ?_
  cases h3 : decide (x < 0) <;> cases h4 : decide (x > 64)
  all_goals
    simp only [pf85, ↓wpre, wset, wcore, ne_eq, if_true, if_false, exists_eq_left', true_implies, false_implies, exists_const, exists_eq_right, binA, intA, loadA, storeA, pickC, setAt, mapO, argsE, X.isC, resA, oneA, unA, boundA, eqiA, eqsA, fillA, fillE, ASt.fz, strA, Nat.reduceEqDiff, Nat.reduceLT, ↓reduceIte, reduceCtorEq, Nat.reduceAdd, Nat.reduceLeDiff, Int.reduceBEq, Int.reduceBNe, Int.reduceLT, Int.reduceLE, Int.reduceGT, Int.reduceGE, Nat.reduceDiv, Nat.reduceMul, h3, h4]
    simp only [badSize, h3, h4]
    rfl
theorem caseFn_ret (h1 : t1.pure = true) (hs : s.length ≤ lenB) : Out md pfs 66 [.agg [.int k, .int i, .str n, .sl (ints s) t1, .sl kas t2]] (· = .bool (caseB s kas.length)) fun _ => False := by
  refine out_of pf66_is (Nat.le_of_ble_eq_true rfl) ?_
  have h0 : decide (((ints s).length : Int) ≤ 32) = decide (s.length ≤ 32) := by rw [ints_len, Bool.eq_iff_iff]; simp; omega
  have hw : decide (s.length ≤ 32) = true → ((kas.length : Int) == IntKind.i64.wrap (((ints s).length : Int) + 1)) = (kas.length == s.length + 1) := by
    intro h
    rw [ints_len, next_ix (by simp at h; unfold lenB; omega), Bool.eq_iff_iff]; simp; omega
  obtain ⟨v, rfl, hc⟩ := (containsInt_ret 85 rfl (t := t1) h1 hs (fun x _ => badSize_ret x)).call rfl (by simp [pvs_cons, pvs_nil, pv_sl, pv_fn, h1, ints_pure])
  cases h3 : decide (s.length ≤ 32)
  · simp only [pf66, ↓wpre, wset, wcore, ne_eq, if_true, if_false, exists_eq_left', true_implies, false_implies, exists_const, exists_eq_right, binA, intA, loadA, storeA, pickC, setAt, mapO, argsE, X.isC, resA, oneA, unA, boundA, eqiA, eqsA, fillA, fillE, ASt.fz, strA, Nat.reduceEqDiff, Nat.reduceLT, ↓reduceIte, reduceCtorEq, Nat.reduceAdd, Nat.reduceLeDiff, Int.reduceBEq, Int.reduceBNe, Int.reduceLT, Int.reduceLE, Int.reduceGT, Int.reduceGE, Nat.reduceDiv, Nat.reduceMul, h0, h3]
    simp only [caseB, h3]
    rfl
  · have hw := hw h3
    cases h4 : (kas.length == s.length + 1)
    all_goals
      simp only [pf66, ↓wpre, wset, wcore, ne_eq, if_true, if_false, exists_eq_left', true_implies, false_implies, exists_const, exists_eq_right, binA, intA, loadA, storeA, pickC, setAt, mapO, argsE, X.isC, resA, oneA, unA, boundA, eqiA, eqsA, fillA, fillE, ASt.fz, strA, Nat.reduceEqDiff, Nat.reduceLT, ↓reduceIte, reduceCtorEq, Nat.reduceAdd, Nat.reduceLeDiff, Int.reduceBEq, Int.reduceBNe, Int.reduceLT, Int.reduceLE, Int.reduceGT, Int.reduceGE, Nat.reduceDiv, Nat.reduceMul, h0, h3, hw, h4, hc]
      simp only [caseB, h3, h4]
      rfl
end
def kf (m : Int) : AV := .fn 64 [.ip [.int m] 0]
def tabL : List AV := [kf 0, kf 1, kf 2, .fn 65 [], .fn 66 [], kf 0, kf 0, kf 2, kf 2, kf 1, kf 1, kf 0]
theorem kidsMk_ret (m : Int) : Out md pfs 63 [.int m] (· = kf m) fun _ => False := by
  refine out_of pf63_is (Nat.le_of_ble_eq_true rfl) ?_
  simp only [pf63, ↓wpre, wset, wcore, ne_eq, if_true, if_false, exists_eq_left', true_implies, false_implies, exists_const, exists_eq_right, binA, intA, loadA, storeA, pickC, setAt, mapO, argsE, X.isC, resA, oneA, unA, boundA, eqiA, eqsA, fillA, fillE, ASt.fz, strA, Nat.reduceEqDiff, Nat.reduceLT, ↓reduceIte, reduceCtorEq, Nat.reduceAdd, Nat.reduceLeDiff, Int.reduceBEq, Int.reduceBNe, Int.reduceLT, Int.reduceLE, Int.reduceGT, Int.reduceGE, Nat.reduceDiv, Nat.reduceMul]
  rfl
theorem checks_ret : Out md pfs 38 [] (· = .agg tabL) fun _ => False := by
  refine out_of pf38_is (Nat.le_of_ble_eq_true rfl) ?_
  obtain ⟨v, rfl, c0⟩ := (kidsMk_ret 0).call rfl (by simp [pvs_cons, pvs_nil, pv_v])
  obtain ⟨v, rfl, c1⟩ := (kidsMk_ret 1).call rfl (by simp [pvs_cons, pvs_nil, pv_v])
  obtain ⟨v, rfl, c2⟩ := (kidsMk_ret 2).call rfl (by simp [pvs_cons, pvs_nil, pv_v])
  simp only [pf38, ↓wpre, wset, wcore, ne_eq, if_true, if_false, exists_eq_left', true_implies, false_implies, exists_const, exists_eq_right, binA, intA, loadA, storeA, pickC, setAt, mapO, argsE, X.isC, resA, oneA, unA, boundA, eqiA, eqsA, fillA, fillE, ASt.fz, strA, Nat.reduceEqDiff, Nat.reduceLT, ↓reduceIte, reduceCtorEq, Nat.reduceAdd, Nat.reduceLeDiff, Int.reduceBEq, Int.reduceBNe, Int.reduceLT, Int.reduceLE, Int.reduceGT, Int.reduceGE, Nat.reduceDiv, Nat.reduceMul, c0, c1, c2, kf]
  rfl
end Go.Proofs.Eng
