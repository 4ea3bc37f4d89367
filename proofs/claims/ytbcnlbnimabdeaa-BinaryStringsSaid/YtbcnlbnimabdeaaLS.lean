/- BinarySums, BinaryReads and BinaryStrings hold of all arguments. No conditions beyond those in the theorems. -/
import Derived.Test.YtbcnlbnimabdeaaQ6
import Derived.Test.YtbcnlbnimabdeaaQA
import Derived.Test.YtbcnlbnimabdeaaL0
set_option linter.all false
set_option linter.deprecated false
set_option linter.unnecessarySimpa false
set_option linter.unusedVariables false
set_option linter.unusedSimpArgs false
set_option linter.defProp false
namespace Go.Proofs.Eng
open Go Go.Proofs
set_option maxRecDepth 100000
set_option maxHeartbeats 4000000
theorem strings_law (x rest : ByteArray) : Out md pfs 10 [.str x, .str rest] (· = .bool true) fun _ => False := by
  obtain ⟨_, rfl, aw⟩ := awake_ret.call rfl (by simp [pvs_nil])
  obtain ⟨_, rfl, k1⟩ := (PutString_ret x).call rfl (by simp [pvs_cons, pvs_nil, pv_v])
  obtain ⟨_, rfl, k2⟩ := (rPutString_ret x).call rfl (by simp [pvs_cons, pvs_nil, pv_v])
  refine out_of pf10_is (Nat.le_of_ble_eq_true rfl) ?_
  have e1 : ∀ n : Int, (n != n) = false := fun n => by simp
  have e2 : ∀ a : ByteArray, (a.toList == a.toList) = true := fun a => by simp
  have e0 : ∀ n : Int, (n == n) = true := fun n => by simp
  rcases Nat.lt_or_ge 65536 x.size with hx | hx
  · have e3 : putS x = ([], 5) := by rw [putS, if_pos hx]
    rw [e3] at k1 k2
    have e4 : (((5 : Int) != 0)) = true := rfl
    cases h1 : decide ((x.size : Int) > 1000) <;> cases h2 : decide ((x.size : Int) < 65534) <;> cases h3 : decide ((x.size : Int) > 65538) <;> cases h4 : decide ((rest.size : Int) > 400) <;>
      simp only [pf10, ↓wpre, wset, wcore, ne_eq, if_true, if_false, exists_eq_left', true_implies, false_implies, exists_const, exists_eq_right, binA, intA, loadA, storeA, pickC, setAt, mapO, argsE, X.isC, resA, oneA, unA, boundA, eqiA, eqsA, fillA, fillE, ASt.fz, strA, Nat.reduceEqDiff, Nat.reduceLT, ↓reduceIte, reduceCtorEq, Nat.reduceAdd, Nat.reduceLeDiff, Int.reduceBEq, Int.reduceBNe, Int.reduceLT, Int.reduceLE, Int.reduceGT, Int.reduceGE, Nat.reduceDiv, Nat.reduceMul, h1, h2, h3, h4, k1, k2, e1, e2, e4, aw]
  · have h3 : decide ((x.size : Int) > 65538) = false := by simp; omega
    have e3 : putS x = (encN x.size ++ x.toList, 0) := by rw [putS, if_neg (by omega)]
    rw [e3] at k1 k2
    cases h4 : decide ((rest.size : Int) > 400)
    · have hr : rest.size ≤ 400 := by simp only [decide_eq_false_iff_not] at h4; omega
      have hb := encN_big (n := x.size) (by unfold bigN; omega)
      have hl : (encN x.size ++ x.toList).length = (encN x.size).length + x.size := by rw [List.length_append, toList_len]
      have hsz : (strOf (encN x.size ++ x.toList)).size + rest.size ≤ 1073741824 := by rw [strOf_size]; omega
      have hsz2 : (strOf (encN x.size ++ x.toList) ++ rest).size ≤ capB := by rw [app_size, strOf_size]; unfold capB; omega
      obtain ⟨_, rfl, k3⟩ := (GetString_ret hsz2).call rfl (by simp [pvs_cons, pvs_nil, pv_v])
      have hg : getStrR (strOf (encN x.size ++ x.toList) ++ rest) = .tup [.str x, .int (((encN x.size).length + x.size : Nat) : Int), .int 0] := by
        have : getS (strOf (encN x.size ++ x.toList) ++ rest).toList = some (x.toList, (encN x.size).length + x.size) := by
          rw [app_toList, strOf_toList, List.append_assoc, getS, getN_enc (by unfold mostN; omega)]
          simp only [Option.bind_some]
          rw [if_neg (by simp only [List.length_append, toList_len]; omega), List.drop_left' rfl, List.take_left' (by rw [toList_len])]
        rw [getStrR, this]
        simp only [of_str]
      rw [hg] at k3
      have e5 : ((((encN x.size).length + x.size : Nat) : Int) == ((strOf (encN x.size ++ x.toList)).size : Int)) = true := by rw [strOf_size, hl]; simp
      have e4 : (((0 : Int) != 0)) = false := rfl
      cases h1 : decide ((x.size : Int) > 1000) <;> cases h2 : decide ((x.size : Int) < 65534) <;>
        simp only [pf10, ↓wpre, wset, wcore, ne_eq, if_true, if_false, exists_eq_left', true_implies, false_implies, exists_const, exists_eq_right, binA, intA, loadA, storeA, pickC, setAt, mapO, argsE, X.isC, resA, oneA, unA, boundA, eqiA, eqsA, fillA, fillE, ASt.fz, strA, Nat.reduceEqDiff, Nat.reduceLT, ↓reduceIte, reduceCtorEq, Nat.reduceAdd, Nat.reduceLeDiff, Int.reduceBEq, Int.reduceBNe, Int.reduceLT, Int.reduceLE, Int.reduceGT, Int.reduceGE, Nat.reduceDiv, Nat.reduceMul, h1, h2, h3, h4, k1, k2, k3, e0, e1, e2, e4, e5, hsz, aw]
    · cases h1 : decide ((x.size : Int) > 1000) <;> cases h2 : decide ((x.size : Int) < 65534) <;>
        simp only [pf10, ↓wpre, wset, wcore, ne_eq, if_true, if_false, exists_eq_left', true_implies, false_implies, exists_const, exists_eq_right, binA, intA, loadA, storeA, pickC, setAt, mapO, argsE, X.isC, resA, oneA, unA, boundA, eqiA, eqsA, fillA, fillE, ASt.fz, strA, Nat.reduceEqDiff, Nat.reduceLT, ↓reduceIte, reduceCtorEq, Nat.reduceAdd, Nat.reduceLeDiff, Int.reduceBEq, Int.reduceBNe, Int.reduceLT, Int.reduceLE, Int.reduceGT, Int.reduceGE, Nat.reduceDiv, Nat.reduceMul, h1, h2, h3, h4, aw]
theorem reads_law (s : ByteArray) : Out md pfs 9 [.str s] (· = .bool true) fun _ => False := by
  obtain ⟨_, rfl, aw⟩ := awake_ret.call rfl (by simp [pvs_nil])
  refine out_of pf9_is (Nat.le_of_ble_eq_true rfl) ?_
  cases h0 : decide ((s.size : Int) > 600)
  · have hs : s.size ≤ capB := by simp only [decide_eq_false_iff_not] at h0; unfold capB; omega
    obtain ⟨_, rfl, k1⟩ := (GetNumber_ret hs).call rfl (by simp [pvs_cons, pvs_nil, pv_v])
    obtain ⟨_, rfl, k2⟩ := (rGetNumber_ret hs).call rfl (by simp [pvs_cons, pvs_nil, pv_v])
    obtain ⟨_, rfl, k3⟩ := (GetString_ret hs).call rfl (by simp [pvs_cons, pvs_nil, pv_v])
    obtain ⟨_, rfl, k4⟩ := (rGetString_ret hs).call rfl (by simp [pvs_cons, pvs_nil, pv_v])
    obtain ⟨_, rfl, k5⟩ := (Sum_ret hs).call rfl (by simp [pvs_cons, pvs_nil, pv_v])
    obtain ⟨_, rfl, k6⟩ := (rSum_ret hs).call rfl (by simp [pvs_cons, pvs_nil, pv_v])
    obtain ⟨n, k, e, hN⟩ : ∃ n k e, getNumR s = .tup [.int n, .int k, .int e] := by
      unfold getNumR; split <;> exact ⟨_, _, _, rfl⟩
    obtain ⟨a, m, f, hS⟩ : ∃ a m f, getStrR s = .tup [.str a, .int m, .int f] := by
      unfold getStrR; split <;> exact ⟨_, _, _, rfl⟩
    rw [hN] at k1 k2
    rw [hS] at k3 k4
    have e1 : ∀ n : Int, (n == n) = true := fun n => by simp
    have e2 : ∀ a : ByteArray, (a.toList == a.toList) = true := fun a => by simp
    simp only [pf9, ↓wpre, wset, wcore, ne_eq, if_true, if_false, exists_eq_left', true_implies, false_implies, exists_const, exists_eq_right, binA, intA, loadA, storeA, pickC, setAt, mapO, argsE, X.isC, resA, oneA, unA, boundA, eqiA, eqsA, fillA, fillE, ASt.fz, strA, Nat.reduceEqDiff, Nat.reduceLT, ↓reduceIte, reduceCtorEq, Nat.reduceAdd, Nat.reduceLeDiff, Int.reduceBEq, Int.reduceBNe, Int.reduceLT, Int.reduceLE, Int.reduceGT, Int.reduceGE, Nat.reduceDiv, Nat.reduceMul, h0, k1, k2, k3, k4, k5, k6, e1, e2, aw]
  · simp only [pf9, ↓wpre, wset, wcore, ne_eq, if_true, if_false, exists_eq_left', true_implies, false_implies, exists_const, exists_eq_right, binA, intA, loadA, storeA, pickC, setAt, mapO, argsE, X.isC, resA, oneA, unA, boundA, eqiA, eqsA, fillA, fillE, ASt.fz, strA, Nat.reduceEqDiff, Nat.reduceLT, ↓reduceIte, reduceCtorEq, Nat.reduceAdd, Nat.reduceLeDiff, Int.reduceBEq, Int.reduceBNe, Int.reduceLT, Int.reduceLE, Int.reduceGT, Int.reduceGE, Nat.reduceDiv, Nat.reduceMul, h0, aw]
theorem sums_law (s : ByteArray) {at' by' : Int} (ha : 0 ≤ at') (ha2 : at' < 65536) (hb : 0 ≤ by') (hb2 : by' < 256) : Out md pfs 8 [.str s, .v (.int .u16 at'), .v (.int .u8 by')] (· = .bool true) fun _ => False := by
  obtain ⟨_, rfl, aw⟩ := awake_ret.call rfl (by simp [pvs_nil])
  refine out_of pf8_is (Nat.le_of_ble_eq_true rfl) ?_
  cases h0 : decide ((s.size : Int) > 600)
  · have hs6 : s.size ≤ 600 := by simp only [decide_eq_false_iff_not] at h0; omega
    have hs : s.size ≤ capB := by unfold capB; omega
    obtain ⟨_, rfl, k5⟩ := (Sum_ret hs).call rfl (by simp [pvs_cons, pvs_nil, pv_v])
    have e8 : (((strOf (sumL s.toList)).size : Int) != 8) = false := by rw [strOf_size, sum_len]; rfl
    cases hz : ((s.size : Int) == 0)
    · have hpos : 0 < s.size := by simp only [beq_eq_false_iff_ne] at hz; omega
      cases hy : (by' == 0)
      · have hy' : by' ≠ 0 := by simpa using hy
        obtain ⟨y, rfl⟩ : ∃ y : Nat, by' = y := ⟨by'.toNat, by omega⟩
        obtain ⟨i, hi, hil⟩ : ∃ i : Nat, at'.tmod (s.size : Int) = i ∧ i < s.size := ⟨(at'.tmod (s.size : Int)).toNat, by rw [Int.tmod_eq_emod_of_nonneg ha]; have := Int.emod_nonneg at' (show (s.size : Int) ≠ 0 by omega); omega, by rw [Int.tmod_eq_emod_of_nonneg ha]; have := Int.emod_lt_of_pos at' (show (0 : Int) < s.size by omega); have := Int.emod_nonneg at' (show (s.size : Int) ≠ 0 by omega); omega⟩
        have hlt3 : i < s.toList.length := by rw [toList_len]; exact hil
        have hget : s.toList[i]? = some s.toList[i] := List.getElem?_eq_getElem hlt3
        have hsplit : s.toList = s.toList.take i ++ s.toList[i] :: s.toList.drop (i + 1) := by rw [← List.drop_eq_getElem_cons hlt3, List.take_append_drop]
        generalize s.toList[i] = c at hget hsplit
        have hcl : c.toNat < 256 := c.toNat_lt
        have hcv : IntKind.i64.wrap at' = at' := wrap_in (by unfold in64; omega)
        have hne0 : ((s.size : Int) = 0) = False := eq_false (by omega)
        have hx : IntKind.u8.wrap ((BitVec.ofInt IntKind.u8.bits (c.toNat : Int) ^^^ BitVec.ofInt IntKind.u8.bits (y : Int)).toNat : Int) = ((c.toNat ^^^ y : Nat) : Int) := by
          have hxl : c.toNat ^^^ y < 256 := Nat.xor_lt_two_pow (n := 8) hcl (by omega)
          rw [BitVec.toNat_xor, bv_nat, bv_nat, show IntKind.u8.bits = 8 from rfl, Nat.mod_eq_of_lt (by omega), Nat.mod_eq_of_lt (by omega), u8wrap hxl]
        have hadd : IntKind.i64.wrap ((i : Int) + 1) = ((i + 1 : Nat) : Int) := by rw [wrap_in (by unfold in64; omega)]; omega
        have hb3 : ((i : Int) ≤ (s.size : Int)) = True := eq_true (by omega)
        have hb4 : (((i + 1 : Nat) : Int) ≤ (s.size : Int)) = True := eq_true (by omega)
        have hb5 : (i + 1 ≤ s.size) = True := eq_true (by omega)
        have hex1 := extract_str s (l := 0) (h := i) (by omega) (by omega)
        have hex2 := extract_str s (l := i + 1) (h := s.size) (by omega) (by omega)
        rw [List.drop_zero, Nat.sub_zero] at hex1
        rw [List.take_of_length_le (by rw [List.length_drop, toList_len]; omega)] at hex2
        have hu : ByteArray.mk [UInt8.ofNat (c.toNat ^^^ y)].toArray = strOf [UInt8.ofNat (c.toNat ^^^ y)] := rfl
        have hs1 : (strOf (s.toList.take i)).size + (strOf [UInt8.ofNat (c.toNat ^^^ y)]).size ≤ 1073741824 := by
          rw [strOf_size, strOf_size, List.length_take, toList_len, List.length_singleton]; omega
        have hs2 : (strOf (s.toList.take i ++ [UInt8.ofNat (c.toNat ^^^ y)])).size + (strOf (s.toList.drop (i + 1))).size ≤ 1073741824 := by
          rw [strOf_size, strOf_size, List.length_append, List.length_take, List.length_drop, toList_len, List.length_singleton]; omega
        have hsz2 : (strOf (s.toList.take i ++ [UInt8.ofNat (c.toNat ^^^ y)] ++ s.toList.drop (i + 1))).size ≤ capB := by
          rw [strOf_size, List.length_append, List.length_append, List.length_take, List.length_drop, toList_len, List.length_singleton]; unfold capB; omega
        obtain ⟨_, rfl, k6⟩ := (Sum_ret hsz2).call rfl (by simp [pvs_cons, pvs_nil, pv_v])
        have hne : ((strOf (sumL s.toList)).toList == (strOf (sumL (strOf (s.toList.take i ++ [UInt8.ofNat (c.toNat ^^^ y)] ++ s.toList.drop (i + 1))).toList)).toList) = false := by
          rw [strOf_toList, strOf_toList, strOf_toList, beq_eq_false_iff_ne, List.append_assoc, List.singleton_append]
          conv => lhs; rw [hsplit]
          refine sum_change fun e => ?_
          have e' := congrArg UInt8.toNat e
          rw [u8_nat (Nat.xor_lt_two_pow (n := 8) hcl (by omega))] at e'
          have : c.toNat ^^^ 0 = c.toNat ^^^ y := by rw [Nat.xor_zero]; exact e'
          have := xor_left this
          omega
        simp only [pf8, ↓wpre, wset, wcore, ne_eq, if_true, if_false, exists_eq_left', true_implies, false_implies, exists_const, exists_eq_right, binA, intA, loadA, storeA, pickC, setAt, mapO, argsE, X.isC, resA, oneA, unA, boundA, eqiA, eqsA, fillA, fillE, ASt.fz, strA, Nat.reduceEqDiff, Nat.reduceLT, ↓reduceIte, reduceCtorEq, Nat.reduceAdd, Nat.reduceLeDiff, Int.reduceBEq, Int.reduceBNe, Int.reduceLT, Int.reduceLE, Int.reduceGT, Int.reduceGE, Nat.reduceDiv, Nat.reduceMul, h0, k5, k6, e8, hz, hy, hcv, hi, hne0, hget, hx, hadd, hb3, hb4, hb5, hex1, hex2, elemsA_sl, bytesA_one, hu, hs1, hs2, strOf_app, hne, aw]


      · simp only [pf8, ↓wpre, wset, wcore, ne_eq, if_true, if_false, exists_eq_left', true_implies, false_implies, exists_const, exists_eq_right, binA, intA, loadA, storeA, pickC, setAt, mapO, argsE, X.isC, resA, oneA, unA, boundA, eqiA, eqsA, fillA, fillE, ASt.fz, strA, Nat.reduceEqDiff, Nat.reduceLT, ↓reduceIte, reduceCtorEq, Nat.reduceAdd, Nat.reduceLeDiff, Int.reduceBEq, Int.reduceBNe, Int.reduceLT, Int.reduceLE, Int.reduceGT, Int.reduceGE, Nat.reduceDiv, Nat.reduceMul, h0, k5, e8, hz, hy, aw]
    · simp only [pf8, ↓wpre, wset, wcore, ne_eq, if_true, if_false, exists_eq_left', true_implies, false_implies, exists_const, exists_eq_right, binA, intA, loadA, storeA, pickC, setAt, mapO, argsE, X.isC, resA, oneA, unA, boundA, eqiA, eqsA, fillA, fillE, ASt.fz, strA, Nat.reduceEqDiff, Nat.reduceLT, ↓reduceIte, reduceCtorEq, Nat.reduceAdd, Nat.reduceLeDiff, Int.reduceBEq, Int.reduceBNe, Int.reduceLT, Int.reduceLE, Int.reduceGT, Int.reduceGE, Nat.reduceDiv, Nat.reduceMul, h0, k5, e8, hz, aw]
  · simp only [pf8, ↓wpre, wset, wcore, ne_eq, if_true, if_false, exists_eq_left', true_implies, false_implies, exists_const, exists_eq_right, binA, intA, loadA, storeA, pickC, setAt, mapO, argsE, X.isC, resA, oneA, unA, boundA, eqiA, eqsA, fillA, fillE, ASt.fz, strA, Nat.reduceEqDiff, Nat.reduceLT, ↓reduceIte, reduceCtorEq, Nat.reduceAdd, Nat.reduceLeDiff, Int.reduceBEq, Int.reduceBNe, Int.reduceLT, Int.reduceLE, Int.reduceGT, Int.reduceGE, Nat.reduceDiv, Nat.reduceMul, h0, aw]
end Go.Proofs.Eng
