/- The checksum. No conditions beyond those in the theorems. -/
import Derived.Test.YtbcnlbnimabdeaaQ5
import Derived.Test.YtbcnlbnimabdeaaP2
set_option linter.all false
set_option linter.deprecated false
set_option linter.unnecessarySimpa false
set_option linter.unusedVariables false
set_option linter.unusedSimpArgs false
set_option linter.defProp false
namespace Go.Proofs.Eng
open Go Go.Proofs
set_option maxRecDepth 100000
set_option maxHeartbeats 4000000
theorem u64mod (n : Nat) : IntKind.u64.wrap (n : Int) = ((n % M64 : Nat) : Int) := by
  simp [IntKind.wrap, IntKind.bits, IntKind.signed, M64]
theorem xor_nat {a b : Nat} (ha : a < M64) (hb : b < M64) : (BitVec.ofInt IntKind.u64.bits (a : Int) ^^^ BitVec.ofInt IntKind.u64.bits (b : Int)).toNat = a ^^^ b := by
  rw [BitVec.toNat_xor, bv_nat, bv_nat, show IntKind.u64.bits = 64 from rfl]
  unfold M64 at ha hb
  rw [Nat.mod_eq_of_lt (by omega), Nat.mod_eq_of_lt (by omega)]
theorem u_step {h : Nat} (c : UInt8) (hh : h < M64) : IntKind.u64.wrap (((h ^^^ c.toNat : Nat) : Int) * 1099511628211) = ((fstep h c : Nat) : Int) := by
  have : ((h ^^^ c.toNat : Nat) : Int) * 1099511628211 = (((h ^^^ c.toNat) * 1099511628211 : Nat) : Int) := by omega
  rw [this, u64mod]; rfl
theorem u_shr (h : Nat) {j : Nat} (hj : j < 8) : ((h : Int).fdiv (2 ^ (min (8 * j) IntKind.u64.bits))) = ((h / 256 ^ j : Nat) : Int) := by
  have h1 : min (8 * j) IntKind.u64.bits = 8 * j := by rw [show IntKind.u64.bits = 64 from rfl]; omega
  have h2 : (2 : Int) ^ (8 * j) = ((256 ^ j : Nat) : Int) := by rw [Int.pow_mul]; simp
  rw [h1, h2, Int.fdiv_eq_ediv_of_nonneg _ (Int.natCast_nonneg _)]
  exact (Int.natCast_ediv h (256 ^ j)).symm
/-- The block, when j bytes are written. -/
def sumB (h j : Nat) : List UInt8 := List.replicate (8 - j) 0 ++ (sum8 h).drop (8 - j)
theorem sum8_get (h : Nat) {j : Nat} (hj : j < 8) : (sum8 h)[7 - j]? = some (UInt8.ofNat (h / 256 ^ j % 256)) := by
  have : ∀ j : Fin 8, (sum8 h)[7 - j.val]? = some (UInt8.ofNat (h / 256 ^ j.val % 256)) := by
    intro j
    match j with
    | ⟨0, _⟩ => simp [sum8]
    | ⟨1, _⟩ => simp [sum8]
    | ⟨2, _⟩ => simp [sum8]
    | ⟨3, _⟩ => simp [sum8]
    | ⟨4, _⟩ => simp [sum8]
    | ⟨5, _⟩ => simp [sum8]
    | ⟨6, _⟩ => simp [sum8]
    | ⟨7, _⟩ => simp [sum8]
  exact this ⟨j, hj⟩
theorem sumB_len (h : Nat) {j : Nat} (hj : j ≤ 8) : (sumB h j).length = 8 := by
  unfold sumB
  rw [List.length_append, List.length_replicate, List.length_drop, show (sum8 h).length = 8 from rfl]; omega
theorem sumB_set (h : Nat) {j : Nat} (hj : j < 8) : (bytes (sumB h j)).take (7 - j) ++ AV.v (.int .u8 ((h / 256 ^ j % 256 : Nat) : Int)) :: (bytes (sumB h j)).drop (7 - j + 1) = bytes (sumB h (j + 1)) := by
  have e1 : List.replicate (8 - j) (0 : UInt8) = List.replicate (7 - j) 0 ++ [0] := by rw [show 8 - j = (7 - j) + 1 by omega, List.replicate_succ']
  have e2 : (sum8 h).drop (7 - j) = UInt8.ofNat (h / 256 ^ j % 256) :: (sum8 h).drop (8 - j) := by
    have hlt : 7 - j < (sum8 h).length := by rw [show (sum8 h).length = 8 from rfl]; omega
    rw [List.drop_eq_getElem_cons hlt, show 7 - j + 1 = 8 - j by omega]
    have := sum8_get h hj
    rw [List.getElem?_eq_getElem hlt, Option.some.injEq] at this
    rw [this]
  have e3 : AV.v (.int .u8 ((h / 256 ^ j % 256 : Nat) : Int)) = byteA (UInt8.ofNat (h / 256 ^ j % 256)) := by
    unfold byteA; rw [u8_nat (Nat.mod_lt _ (by omega))]
  rw [e3]
  unfold bytes
  rw [← List.map_take, ← List.map_drop, ← List.map_cons, ← List.map_append]
  congr 1
  unfold sumB
  rw [e1, List.append_assoc, List.take_left' (by simp), show 8 - (j + 1) = 7 - j by omega, e2]
  congr 1
  rw [← List.append_assoc, List.drop_left' (by simp)]
theorem sumB_all (h : Nat) : sumB h 8 = sum8 h := by simp [sumB]
theorem elems_sum (h : Nat) (T : List Nat) : elemsA ⟨[.cells false (bytes (sum8 h))], T⟩ (.bs 0 0 8 1 false) = some (bytes (sum8 h)) := by
  simp [elemsA, chunk, bytes, sum8, byteA, AV.one]
theorem Sum_ret {s : ByteArray} (hs : s.size ≤ capB) : Out md pfs 23 [.str s] (· = .str (strOf (sumL s.toList))) fun _ => False := by
  refine out_of pf23_is (Nat.le_of_ble_eq_true rfl) ?_
  simp only [pf23, ↓wpre, wset, wcore, ne_eq, if_true, if_false, exists_eq_left', true_implies, false_implies, exists_const, exists_eq_right, binA, intA, loadA, storeA, pickC, setAt, mapO, argsE, X.isC, resA, oneA, unA, boundA, eqiA, eqsA, fillA, fillE, ASt.fz, strA, Nat.reduceEqDiff, Nat.reduceLT, ↓reduceIte, reduceCtorEq, Nat.reduceAdd, Nat.reduceLeDiff, Int.reduceBEq, Int.reduceBNe, Int.reduceLT, Int.reduceLE, Int.reduceGT, Int.reduceGE, Nat.reduceDiv, Nat.reduceMul]
  refine W_loopE (fun j => s.size - j) (fun j E H T => H = [] ∧ E 0 = .str s ∧ E 8 = .int (s.size : Nat) ∧ E 9 = .int (j : Nat) ∧ j ≤ s.size ∧ ∃ h : Nat, E 3 = .v (.int .u64 h) ∧ h < M64 ∧ fnv (s.toList.drop j) h = fnv s.toList 14695981039346656037) ?_ 0 ⟨rfl, rfl, rfl, rfl, by omega, 14695981039346656037, rfl, by decide, by simp⟩
  rintro j E H T ⟨rfl, e0, e8, e9, hj, h, e3, hh, hn⟩
  rcases Nat.lt_or_ge j s.size with hlt | hge
  · have hd : decide ((j : Int) < (s.size : Int)) = true := by simp; omega
    have hlt3 : j < s.toList.length := by rw [toList_len]; omega
    have hget : s.toList[j]? = some s.toList[j] := List.getElem?_eq_getElem hlt3
    have hdrop : s.toList.drop j = s.toList[j] :: s.toList.drop (j + 1) := List.drop_eq_getElem_cons hlt3
    generalize s.toList[j] = b at hget hdrop
    have hbl : b.toNat < 256 := b.toNat_lt
    have hcv : IntKind.u64.wrap (b.toNat : Int) = (b.toNat : Int) := by rw [u64mod, Nat.mod_eq_of_lt (by unfold M64; omega)]
    have hx := xor_nat hh (u8_lt b)
    have hxl : IntKind.u64.wrap ((h ^^^ b.toNat : Nat) : Int) = ((h ^^^ b.toNat : Nat) : Int) := by rw [u64mod, Nat.mod_eq_of_lt (xor_lt hh (u8_lt b))]
    have hst := u_step b hh
    simp only [↓wpre, wset, wcore, ne_eq, if_true, if_false, exists_eq_left', true_implies, false_implies, exists_const, exists_eq_right, binA, intA, loadA, storeA, pickC, setAt, mapO, argsE, X.isC, resA, oneA, unA, boundA, eqiA, eqsA, fillA, fillE, ASt.fz, strA, Nat.reduceEqDiff, Nat.reduceLT, ↓reduceIte, reduceCtorEq, Nat.reduceAdd, Nat.reduceLeDiff, Int.reduceBEq, Int.reduceBNe, Int.reduceLT, Int.reduceLE, Int.reduceGT, Int.reduceGE, Nat.reduceDiv, Nat.reduceMul, e0, e8, e9, e3, hd, hget, hcv, hx, hxl, hst]
    exact EQ_in ⟨j + 1, by omega, rfl, e0, e8, next_ixv (by unfold lenB; unfold capB at hs; omega), by omega, _, rfl, fstep_lt _ _, by rw [← hn, hdrop, fnv_cons]⟩
  · have hd : decide ((j : Int) < (s.size : Int)) = false := by simp; omega
    have hd0 : s.toList.drop j = [] := List.drop_eq_nil_of_le (by rw [toList_len]; omega)
    rw [hd0, fnv_nil] at hn
    simp only [↓wpre, wset, wcore, ne_eq, if_true, if_false, exists_eq_left', true_implies, false_implies, exists_const, exists_eq_right, binA, intA, loadA, storeA, pickC, setAt, mapO, argsE, X.isC, resA, oneA, unA, boundA, eqiA, eqsA, fillA, fillE, ASt.fz, strA, Nat.reduceEqDiff, Nat.reduceLT, ↓reduceIte, reduceCtorEq, Nat.reduceAdd, Nat.reduceLeDiff, Int.reduceBEq, Int.reduceBNe, Int.reduceLT, Int.reduceLE, Int.reduceGT, Int.reduceGE, Nat.reduceDiv, Nat.reduceMul, e0, e8, e9, e3, hd]
    refine W_loopE (fun j => 8 - j) (fun j E H T => H = [.cells false (bytes (sumB h j))] ∧ E 3 = .v (.int .u64 h) ∧ E 5 = .ptr 0 0 ∧ E 20 = .int (j : Nat) ∧ j ≤ 8) ?_ 0 ⟨rfl, e3, rfl, rfl, by omega⟩
    rintro j E H T ⟨rfl, e3, e5, e20, hj⟩
    rcases Nat.lt_or_ge j 8 with hlt | hge
    · have hd : decide ((j : Int) < 8) = true := by simp; omega
      have h7 : IntKind.i64.wrap (7 - (j : Int)) = ((7 - j : Nat) : Int) := by rw [wrap_in (by unfold in64; omega)]; omega
      have h8 : IntKind.i64.wrap (8 * (j : Int)) = ((8 * j : Nat) : Int) := by rw [wrap_in (by unfold in64; omega)]; omega
      have hsh := u_shr h hlt
      have hcv := u8mod (h / 256 ^ j)
      have hl := bytes_len (sumB h j)
      rw [sumB_len h hj] at hl
      have hset := sumB_set h hlt
      have hi7 : (((7 - j : Nat) : Int) < 8) = True := eq_true (by omega)
      have hl2 : (7 - j + 1 ≤ 8) = True := eq_true (by omega)
      have hset' : (bytes (sumB h j)).take (7 - j) ++ [AV.v (.int .u8 ((h / 256 ^ j % 256 : Nat) : Int))] ++ (bytes (sumB h j)).drop (7 - j + 1) = bytes (sumB h (j + 1)) := by rw [← hset]; simp
      have hl3 : (7 - j ≤ 7) = True := eq_true (by omega)
      simp only [↓wpre, wset, wcore, ne_eq, if_true, if_false, exists_eq_left', true_implies, false_implies, exists_const, exists_eq_right, binA, intA, loadA, storeA, pickC, setAt, mapO, argsE, X.isC, resA, oneA, unA, boundA, eqiA, eqsA, fillA, fillE, ASt.fz, strA, Nat.reduceEqDiff, Nat.reduceLT, ↓reduceIte, reduceCtorEq, Nat.reduceAdd, Nat.reduceLeDiff, Int.reduceBEq, Int.reduceBNe, Int.reduceLT, Int.reduceLE, Int.reduceGT, Int.reduceGE, Nat.reduceDiv, Nat.reduceMul, Nat.mul_one, e3, e5, e20, hd, h7, h8, hsh, hcv, hi7, hl, hl2, hl3, hset', true_and]
      exact EQ_in ⟨j + 1, by omega, rfl, e3, e5, next_ixv (by unfold lenB; omega), by omega⟩
    · have hj8 : j = 8 := by omega
      subst hj8
      have hd : decide (((8 : Nat) : Int) < 8) = false := rfl
      simp only [↓wpre, wset, wcore, ne_eq, if_true, if_false, exists_eq_left', true_implies, false_implies, exists_const, exists_eq_right, binA, intA, loadA, storeA, pickC, setAt, mapO, argsE, X.isC, resA, oneA, unA, boundA, eqiA, eqsA, fillA, fillE, ASt.fz, strA, Nat.reduceEqDiff, Nat.reduceLT, ↓reduceIte, reduceCtorEq, Nat.reduceAdd, Nat.reduceLeDiff, Int.reduceBEq, Int.reduceBNe, Int.reduceLT, Int.reduceLE, Int.reduceGT, Int.reduceGE, Nat.reduceDiv, Nat.reduceMul, e3, e5, e20, hd, sumB_all, elems_sum, bytesA_bytes]
      rw [sumL, ← hn]; rfl
def rSumP (h j : Nat) : ByteArray := strOf ((sum8 h).take j)
theorem rSum_ret {s : ByteArray} (hs : s.size ≤ capB) : Out md pfs 27 [.str s] (· = .str (strOf (sumL s.toList))) fun _ => False := by
  refine out_of pf27_is (Nat.le_of_ble_eq_true rfl) ?_
  simp only [pf27, ↓wpre, wset, wcore, ne_eq, if_true, if_false, exists_eq_left', true_implies, false_implies, exists_const, exists_eq_right, binA, intA, loadA, storeA, pickC, setAt, mapO, argsE, X.isC, resA, oneA, unA, boundA, eqiA, eqsA, fillA, fillE, ASt.fz, strA, Nat.reduceEqDiff, Nat.reduceLT, ↓reduceIte, reduceCtorEq, Nat.reduceAdd, Nat.reduceLeDiff, Int.reduceBEq, Int.reduceBNe, Int.reduceLT, Int.reduceLE, Int.reduceGT, Int.reduceGE, Nat.reduceDiv, Nat.reduceMul]
  refine W_loopE (fun j => s.size - j) (fun j E H T => H = [] ∧ E 0 = .str s ∧ E 4 = .int (j : Nat) ∧ j ≤ s.size ∧ ∃ h : Nat, E 3 = .v (.int .u64 h) ∧ h < M64 ∧ fnv (s.toList.drop j) h = fnv s.toList 14695981039346656037) ?_ 0 ⟨rfl, rfl, rfl, by omega, 14695981039346656037, rfl, by decide, by simp⟩
  rintro j E H T ⟨rfl, e0, e4, hj, h, e3, hh, hn⟩
  rcases Nat.lt_or_ge j s.size with hlt | hge
  · have hd : decide ((j : Int) < (s.size : Int)) = true := by simp; omega
    have hlt3 : j < s.toList.length := by rw [toList_len]; omega
    have hget : s.toList[j]? = some s.toList[j] := List.getElem?_eq_getElem hlt3
    have hdrop : s.toList.drop j = s.toList[j] :: s.toList.drop (j + 1) := List.drop_eq_getElem_cons hlt3
    generalize s.toList[j] = b at hget hdrop
    have hbl : b.toNat < 256 := b.toNat_lt
    have hcv : IntKind.u64.wrap (b.toNat : Int) = (b.toNat : Int) := by rw [u64mod, Nat.mod_eq_of_lt (by unfold M64; omega)]
    have hx := xor_nat hh (u8_lt b)
    have hxl : IntKind.u64.wrap ((h ^^^ b.toNat : Nat) : Int) = ((h ^^^ b.toNat : Nat) : Int) := by rw [u64mod, Nat.mod_eq_of_lt (xor_lt hh (u8_lt b))]
    have hst := u_step b hh
    simp only [↓wpre, wset, wcore, ne_eq, if_true, if_false, exists_eq_left', true_implies, false_implies, exists_const, exists_eq_right, binA, intA, loadA, storeA, pickC, setAt, mapO, argsE, X.isC, resA, oneA, unA, boundA, eqiA, eqsA, fillA, fillE, ASt.fz, strA, Nat.reduceEqDiff, Nat.reduceLT, ↓reduceIte, reduceCtorEq, Nat.reduceAdd, Nat.reduceLeDiff, Int.reduceBEq, Int.reduceBNe, Int.reduceLT, Int.reduceLE, Int.reduceGT, Int.reduceGE, Nat.reduceDiv, Nat.reduceMul, e0, e4, e3, hd, hget, hcv, hx, hxl, hst]
    exact EQ_in ⟨j + 1, by omega, rfl, e0, next_ixv (by unfold lenB; unfold capB at hs; omega), by omega, _, rfl, fstep_lt _ _, by rw [← hn, hdrop, fnv_cons]⟩
  · have hd : decide ((j : Int) < (s.size : Int)) = false := by simp; omega
    have hd0 : s.toList.drop j = [] := List.drop_eq_nil_of_le (by rw [toList_len]; omega)
    rw [hd0, fnv_nil] at hn
    simp only [↓wpre, wset, wcore, ne_eq, if_true, if_false, exists_eq_left', true_implies, false_implies, exists_const, exists_eq_right, binA, intA, loadA, storeA, pickC, setAt, mapO, argsE, X.isC, resA, oneA, unA, boundA, eqiA, eqsA, fillA, fillE, ASt.fz, strA, Nat.reduceEqDiff, Nat.reduceLT, ↓reduceIte, reduceCtorEq, Nat.reduceAdd, Nat.reduceLeDiff, Int.reduceBEq, Int.reduceBNe, Int.reduceLT, Int.reduceLE, Int.reduceGT, Int.reduceGE, Nat.reduceDiv, Nat.reduceMul, e0, e4, e3, hd]
    refine W_loopE (fun j => 8 - j) (fun j E H T => H = [] ∧ E 3 = .v (.int .u64 h) ∧ E 6 = .int ((7 : Int) - (j : Nat)) ∧ E 5 = .str (rSumP h j) ∧ j ≤ 8) ?_ 0 ⟨rfl, e3, rfl, rfl, by omega⟩
    rintro j E H T ⟨rfl, e3, e6, e5, hj⟩
    rcases Nat.lt_or_ge j 8 with hlt | hge
    · have hd : decide ((7 : Int) - (j : Int) ≥ 0) = true := by simp; omega
      have hjj : ((7 : Int) - (j : Int)) = ((7 - j : Nat) : Int) := by omega
      have h8 : IntKind.i64.wrap (8 * ((7 : Int) - (j : Int))) = ((8 * (7 - j) : Nat) : Int) := by rw [wrap_in (by unfold in64; omega)]; omega
      have hc64 : IntKind.u64.wrap ((8 * (7 - j) : Nat) : Int) = ((8 * (7 - j) : Nat) : Int) := by rw [u64mod, Nat.mod_eq_of_lt (by unfold M64; omega)]
      have hsh := u_shr h (j := 7 - j) (by omega)
      have hcv := u8mod (h / 256 ^ (7 - j))
      have hnx : IntKind.i64.wrap ((7 : Int) - (j : Int) - 1) = (7 : Int) - ((j + 1 : Nat) : Int) := by rw [wrap_in (by unfold in64; omega)]; omega
      have hsz : (rSumP h j).size + (ByteArray.mk [UInt8.ofNat (h / 256 ^ (7 - j) % 256)].toArray).size ≤ 1073741824 := by
        rw [rSumP, strOf_size, show (ByteArray.mk [UInt8.ofNat (h / 256 ^ (7 - j) % 256)].toArray).size = 1 from rfl, List.length_take]
        omega
      simp only [↓wpre, wset, wcore, ne_eq, if_true, if_false, exists_eq_left', true_implies, false_implies, exists_const, exists_eq_right, binA, intA, loadA, storeA, pickC, setAt, mapO, argsE, X.isC, resA, oneA, unA, boundA, eqiA, eqsA, fillA, fillE, ASt.fz, strA, Nat.reduceEqDiff, Nat.reduceLT, ↓reduceIte, reduceCtorEq, Nat.reduceAdd, Nat.reduceLeDiff, Int.reduceBEq, Int.reduceBNe, Int.reduceLT, Int.reduceLE, Int.reduceGT, Int.reduceGE, Nat.reduceDiv, Nat.reduceMul, e3, e5, e6, hd, h8, hc64, hsh, hcv, hnx, elemsA_sl, bytesA_one, hsz]
      refine EQ_in ⟨j + 1, by omega, rfl, e3, rfl, ?_, by omega⟩
      have hg := sum8_get h (j := 7 - j) (by omega)
      rw [show 7 - (7 - j) = j by omega] at hg
      show AV.str (rSumP h j ++ strOf [UInt8.ofNat (h / 256 ^ (7 - j) % 256)]) = _
      rw [rSumP, rSumP, strOf_app, List.take_add_one, hg]
      rfl
    · have hj8 : j = 8 := by omega
      subst hj8
      have hd : decide ((7 : Int) - 8 ≥ 0) = false := rfl
      simp only [↓wpre, wset, wcore, ne_eq, if_true, if_false, exists_eq_left', true_implies, false_implies, exists_const, exists_eq_right, binA, intA, loadA, storeA, pickC, setAt, mapO, argsE, X.isC, resA, oneA, unA, boundA, eqiA, eqsA, fillA, fillE, ASt.fz, strA, Nat.reduceEqDiff, Nat.reduceLT, ↓reduceIte, reduceCtorEq, Nat.reduceAdd, Nat.reduceLeDiff, Int.reduceBEq, Int.reduceBNe, Int.reduceLT, Int.reduceLE, Int.reduceGT, Int.reduceGE, Nat.reduceDiv, Nat.reduceMul, e3, e5, e6, hd]
      rw [sumL, ← hn]; rfl
end Go.Proofs.Eng
