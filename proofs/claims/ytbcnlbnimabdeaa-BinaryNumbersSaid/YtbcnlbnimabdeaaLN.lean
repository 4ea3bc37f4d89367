/- BinaryNumbers holds of all arguments. No conditions beyond those in the theorems. -/
import Derived.Test.YtbcnlbnimabdeaaQ3
import Derived.Test.YtbcnlbnimabdeaaQA
import Derived.Test.YtbcnlbnimabdeaaL0
set_option linter.all false
set_option linter.deprecated false
set_option linter.unnecessarySimpa false
set_option linter.unusedVariables false
set_option linter.unusedSimpArgs false
set_option linter.defProp false
namespace Go.Proofs.Eng
open Go Go.Proofs
set_option maxRecDepth 100000
set_option maxHeartbeats 4000000
theorem app_toList (a b : ByteArray) : (a ++ b).toList = a.toList ++ b.toList := by
  have h : a ++ b = strOf (a.toList ++ b.toList) := by rw [← strOf_app, of_str, of_str]
  rw [h, strOf_toList]
theorem numbers_law (n : Int) (rest : ByteArray) : Out md pfs 3 [.int n, .str rest] (· = .bool true) fun _ => False := by
  obtain ⟨_, rfl, aw⟩ := awake_ret.call rfl (by simp [pvs_nil])
  obtain ⟨_, rfl, k1⟩ := (PutNumber_ret n).call rfl (by simp [pvs_cons, pvs_nil, pv_v])
  obtain ⟨_, rfl, k2⟩ := (rPutNumber_ret n).call rfl (by simp [pvs_cons, pvs_nil, pv_v])
  refine out_of pf3_is (Nat.le_of_ble_eq_true rfl) ?_
  cases h0 : decide ((rest.size : Int) > 400)
  · have hr : rest.size ≤ 400 := by simp only [decide_eq_false_iff_not] at h0; omega
    have e1 : ((strOf (putN n).1).toList == (strOf (putN n).1).toList) = true := by simp
    have e2 : ((putN n).2 != (putN n).2) = false := by simp
    by_cases hn : n < 0 ∨ n > 2147483647
    · have e3 : (putN n).2 = 2 := by rw [putN, if_pos hn]
      have e4 : (((2 : Int) != 0)) = true := rfl
      simp only [e3] at k1 k2 e2
      simp only [pf3, ↓wpre, wset, wcore, ne_eq, if_true, if_false, exists_eq_left', true_implies, false_implies, exists_const, exists_eq_right, binA, intA, loadA, storeA, pickC, setAt, mapO, argsE, X.isC, resA, oneA, unA, boundA, eqiA, eqsA, fillA, fillE, ASt.fz, strA, Nat.reduceEqDiff, Nat.reduceLT, ↓reduceIte, reduceCtorEq, Nat.reduceAdd, Nat.reduceLeDiff, Int.reduceBEq, Int.reduceBNe, Int.reduceLT, Int.reduceLE, Int.reduceGT, Int.reduceGE, Nat.reduceDiv, Nat.reduceMul, h0, k1, k2, e1, e2, e4, aw]
    · obtain ⟨m, rfl⟩ : ∃ m : Nat, n = m := ⟨n.toNat, by omega⟩
      have e3 : putN (m : Int) = (encN m, 0) := by rw [putN, if_neg hn]; rfl
      rw [e3] at k1 k2 e1 e2
      have hb := encN_big (n := m) (by unfold bigN; omega)
      have hsz : (strOf (encN m)).size + rest.size ≤ 1073741824 := by rw [strOf_size]; omega
      have hsz2 : (strOf (encN m) ++ rest).size ≤ capB := by
        rw [← toList_len, app_toList, List.length_append, strOf_toList, toList_len]; unfold capB; omega
      obtain ⟨_, rfl, k3⟩ := (GetNumber_ret hsz2).call rfl (by simp [pvs_cons, pvs_nil, pv_v])
      have hg : getNumR (strOf (encN m) ++ rest) = .tup [.int (m : Nat), .int ((encN m).length : Nat), .int 0] := by
        rw [getNumR, app_toList, strOf_toList, getN_enc (by unfold mostN; omega)]
      rw [hg] at k3
      have e5 : ((m : Int) == m) = true := by simp
      have e6 : (((encN m).length : Int) == ((strOf (encN m)).size : Int)) = true := by rw [strOf_size]; simp
      simp only [pf3, ↓wpre, wset, wcore, ne_eq, if_true, if_false, exists_eq_left', true_implies, false_implies, exists_const, exists_eq_right, binA, intA, loadA, storeA, pickC, setAt, mapO, argsE, X.isC, resA, oneA, unA, boundA, eqiA, eqsA, fillA, fillE, ASt.fz, strA, Nat.reduceEqDiff, Nat.reduceLT, ↓reduceIte, reduceCtorEq, Nat.reduceAdd, Nat.reduceLeDiff, Int.reduceBEq, Int.reduceBNe, Int.reduceLT, Int.reduceLE, Int.reduceGT, Int.reduceGE, Nat.reduceDiv, Nat.reduceMul, h0, k1, k2, k3, e1, e2, e5, e6, hsz, aw]
  · simp only [pf3, ↓wpre, wset, wcore, ne_eq, if_true, if_false, exists_eq_left', true_implies, false_implies, exists_const, exists_eq_right, binA, intA, loadA, storeA, pickC, setAt, mapO, argsE, X.isC, resA, oneA, unA, boundA, eqiA, eqsA, fillA, fillE, ASt.fz, strA, Nat.reduceEqDiff, Nat.reduceLT, ↓reduceIte, reduceCtorEq, Nat.reduceAdd, Nat.reduceLeDiff, Int.reduceBEq, Int.reduceBNe, Int.reduceLT, Int.reduceLE, Int.reduceGT, Int.reduceGE, Nat.reduceDiv, Nat.reduceMul, h0, aw]
end Go.Proofs.Eng
