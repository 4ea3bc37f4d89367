/- The reference's reader: numbers. No conditions beyond those in the theorems. -/
import Derived.Test.YtbcnlbnimabdeaaQ4
set_option linter.all false
set_option linter.deprecated false
set_option linter.unnecessarySimpa false
set_option linter.unusedVariables false
set_option linter.unusedSimpArgs false
set_option linter.defProp false
namespace Go.Proofs.Eng
open Go Go.Proofs
set_option maxRecDepth 100000
set_option maxHeartbeats 4000000
/-- The block of the reference's reader. -/
def rrd (s : ByteArray) (k : Nat) (b : Bool) : AObj := .cells false [.str s, .int (k : Nat), .v (.bool b)]
def NextP (i : Nat) (s : ByteArray) (p : Nat) (H : List AObj) (T : List Nat) (v : AV) (s' : ASt) : Prop :=
  (∃ b : UInt8, s.toList[p]? = some b ∧ v = .int (b.toNat : Nat) ∧ s' = ⟨H.set i (rrd s (p + 1) false), T⟩) ∨ (s.size ≤ p ∧ v = .int 0 ∧ s' = ⟨H.set i (rrd s p true), T⟩)
theorem next_sh {i : Nat} {s : ByteArray} {p : Nat} {H : List AObj} {T : List Nat} (hi : H[i]? = some (rrd s p false)) (hp : p ≤ s.size) (hs : s.size ≤ capB) :
    Sh md pfs 62 [.ptr i 0] ⟨H, T⟩ (NextP i s p H T) fun _ _ => False := by
  refine sh_of pf62_is (Nat.le_of_ble_eq_true rfl) ?_
  unfold rrd at hi
  cases hb : decide ((p : Int) ≥ s.size)
  · have hlt2 : p < s.size := by simp only [decide_eq_false_iff_not] at hb; omega
    have hlt3 : p < s.toList.length := by rw [toList_len]; omega
    have hget : s.toList[p]? = some s.toList[p] := List.getElem?_eq_getElem hlt3
    generalize s.toList[p] = b at hget
    have hbl : b.toNat < 256 := b.toNat_lt
    have hadd : IntKind.i64.wrap ((p : Int) + 1) = ((p + 1 : Nat) : Int) := by rw [wrap_in (by unfold in64; unfold capB at hs; omega)]; omega
    have hsub : IntKind.i64.wrap (((p + 1 : Nat) : Int) - 1) = (p : Int) := by rw [wrap_in (by unfold in64; unfold capB at hs; omega)]; omega
    have hcv : IntKind.i64.wrap (b.toNat : Int) = b.toNat := wrap_in (by unfold in64; omega)
    have hi2 : ∀ x, (H.set i x)[i]? = some x := fun x => get_set hi
    have h0 : (0 ≤ (p : Int)) = True := eq_true (Int.natCast_nonneg _)
    simp only [pf62, ↓wpre, wset, wcore, ne_eq, if_true, if_false, exists_eq_left', true_implies, false_implies, exists_const, exists_eq_right, binA, intA, loadA, storeA, pickC, setAt, mapO, argsE, X.isC, resA, oneA, unA, boundA, eqiA, eqsA, fillA, fillE, ASt.fz, strA, Nat.reduceEqDiff, Nat.reduceLT, ↓reduceIte, reduceCtorEq, Nat.reduceAdd, Nat.reduceLeDiff, Int.reduceBEq, Int.reduceBNe, Int.reduceLT, Int.reduceLE, Int.reduceGT, Int.reduceGE, Nat.reduceDiv, Nat.reduceMul, Nat.reduceBEq, Nat.reduceMod, Nat.reduceSub, hi, hi2, hb, hadd, hsub, hget, hcv, h0]
    exact Or.inl ⟨b, hget, rfl, rfl⟩
  · simp only [pf62, ↓wpre, wset, wcore, ne_eq, if_true, if_false, exists_eq_left', true_implies, false_implies, exists_const, exists_eq_right, binA, intA, loadA, storeA, pickC, setAt, mapO, argsE, X.isC, resA, oneA, unA, boundA, eqiA, eqsA, fillA, fillE, ASt.fz, strA, Nat.reduceEqDiff, Nat.reduceLT, ↓reduceIte, reduceCtorEq, Nat.reduceAdd, Nat.reduceLeDiff, Int.reduceBEq, Int.reduceBNe, Int.reduceLT, Int.reduceLE, Int.reduceGT, Int.reduceGE, Nat.reduceDiv, Nat.reduceMul, Nat.reduceBEq, Nat.reduceMod, Nat.reduceSub, hi, hb]
    exact Or.inr ⟨by simp only [decide_eq_true_eq] at hb; omega, rfl, rfl⟩
theorem rnumber_bad {i : Nat} {s : ByteArray} {p : Nat} {H : List AObj} {T : List Nat} (hi : H[i]? = some (rrd s p true)) : Sh md pfs 45 [.ptr i 0] ⟨H, T⟩ (fun v s' => v = .int 0 ∧ s' = ⟨H, T⟩) fun _ _ => False := by
  refine sh_of pf45_is (Nat.le_of_ble_eq_true rfl) ?_
  have hs2 := set_self hi
  unfold rrd at hi hs2
  simp only [pf45, ↓wpre, wset, wcore, ne_eq, if_true, if_false, exists_eq_left', true_implies, false_implies, exists_const, exists_eq_right, binA, intA, loadA, storeA, pickC, setAt, mapO, argsE, X.isC, resA, oneA, unA, boundA, eqiA, eqsA, fillA, fillE, ASt.fz, strA, Nat.reduceEqDiff, Nat.reduceLT, ↓reduceIte, reduceCtorEq, Nat.reduceAdd, Nat.reduceLeDiff, Int.reduceBEq, Int.reduceBNe, Int.reduceLT, Int.reduceLE, Int.reduceGT, Int.reduceGE, Nat.reduceDiv, Nat.reduceMul, Nat.reduceBEq, Nat.reduceMod, Nat.reduceSub]
  refine W_loopE (fun j => 5 - j) (fun j E H' T' => H' = H ∧ T' = T ∧ E 0 = .ptr i 0 ∧ E 5 = .int 0) ?_ 0 ⟨rfl, rfl, rfl, rfl⟩
  rintro j E H' T' ⟨rfl, rfl, e0, e5⟩
  have hd : decide ((0 : Int) < 5) = true := rfl
  simp only [↓wpre, wset, wcore, ne_eq, if_true, if_false, exists_eq_left', true_implies, false_implies, exists_const, exists_eq_right, binA, intA, loadA, storeA, pickC, setAt, mapO, argsE, X.isC, resA, oneA, unA, boundA, eqiA, eqsA, fillA, fillE, ASt.fz, strA, Nat.reduceEqDiff, Nat.reduceLT, ↓reduceIte, reduceCtorEq, Nat.reduceAdd, Nat.reduceLeDiff, Int.reduceBEq, Int.reduceBNe, Int.reduceLT, Int.reduceLE, Int.reduceGT, Int.reduceGE, Nat.reduceDiv, Nat.reduceMul, Nat.reduceBEq, Nat.reduceMod, Nat.reduceSub, e0, e5, hd, hi, hs2]
theorem i_unit {c j : Nat} (hc : c < 128) (hj : j ≤ 4) : IntKind.i64.wrap ((c : Int) * ((128 ^ j : Nat) : Int)) = ((c * 128 ^ j : Nat) : Int) := by
  have h3 : 128 ^ j ≤ 128 ^ 4 := Nat.pow_le_pow_right (by omega) hj
  have h4 : c * 128 ^ j ≤ 127 * 128 ^ 4 := Nat.mul_le_mul (by omega) h3
  rw [← Int.natCast_mul, wrap_in (by unfold in64; omega)]
def RNumP (i : Nat) (s : ByteArray) (p : Nat) (H : List AObj) (T : List Nat) (v : AV) (s' : ASt) : Prop :=
  (∃ n k, getN (s.toList.drop p) = some (n, k) ∧ v = .int (n : Nat) ∧ s' = ⟨H.set i (rrd s (p + k) false), T⟩) ∨ (getN (s.toList.drop p) = none ∧ ∃ n k : Nat, v = .int (n : Nat) ∧ n < 34359738368 ∧ s' = ⟨H.set i (rrd s k true), T⟩ ∧ k ≤ s.size)
theorem rnumber_sh {i : Nat} {s : ByteArray} {p : Nat} {H : List AObj} {T : List Nat} (hi : H[i]? = some (rrd s p false)) (hp : p ≤ s.size) (hs : s.size ≤ capB) :
    Sh md pfs 45 [.ptr i 0] ⟨H, T⟩ (RNumP i s p H T) fun _ _ => False := by
  refine sh_of pf45_is (Nat.le_of_ble_eq_true rfl) ?_
  simp only [pf45, ↓wpre, wset, wcore, ne_eq, if_true, if_false, exists_eq_left', true_implies, false_implies, exists_const, exists_eq_right, binA, intA, loadA, storeA, pickC, setAt, mapO, argsE, X.isC, resA, oneA, unA, boundA, eqiA, eqsA, fillA, fillE, ASt.fz, strA, Nat.reduceEqDiff, Nat.reduceLT, ↓reduceIte, reduceCtorEq, Nat.reduceAdd, Nat.reduceLeDiff, Int.reduceBEq, Int.reduceBNe, Int.reduceLT, Int.reduceLE, Int.reduceGT, Int.reduceGE, Nat.reduceDiv, Nat.reduceMul, Nat.reduceBEq, Nat.reduceMod, Nat.reduceSub]
  refine W_loopE (fun j => 5 - j) (fun j E H' T' => T' = T ∧ E 0 = .ptr i 0 ∧ E 5 = .int (j : Nat) ∧ j ≤ 5 ∧ E 4 = .int ((128 ^ j : Nat) : Int) ∧ ∃ acc, E 3 = .int (acc : Nat) ∧ acc < 128 ^ j ∧ H'[i]? = some (rrd s (p + j) false) ∧ (∀ x, H'.set i x = H.set i x) ∧ p + j ≤ s.size ∧ getN (s.toList.drop p) = (rdN (5 - j) j acc (s.toList.drop (p + j))).map fun x => (x.1, x.2 + j)) ?_ 0 ⟨rfl, rfl, rfl, by omega, rfl, 0, rfl, by simp, hi, fun _ => rfl, hp, by simp [getN]⟩
  rintro j E H' T' ⟨rfl, e0, e5, hj, e4, acc, e3, hacc, hi', hset, hpj, hn⟩
  have hpow : 128 ^ j ≤ 34359738368 := by
    have := Nat.pow_le_pow_right (n := 128) (by omega) hj
    have h5 : (128 : Nat) ^ 5 = 34359738368 := by decide
    omega
  rcases Nat.lt_or_ge j 5 with hlt | hge
  · have hd : decide ((j : Int) < 5) = true := by simp; omega
    have h5 : 5 - j = (4 - j) + 1 := by omega
    have hi2 : ∀ x, (H'.set i x)[i]? = some x := fun x => get_set hi'
    have hset2 : ∀ x y, (H'.set i x).set i y = H.set i y := fun x y => by rw [List.set_set, hset]
    obtain ⟨_, _, hq, hc⟩ := (next_sh hi' hpj hs (T := T')).callRet rfl
    unfold rrd at hi'
    rcases hq with ⟨b, hget, rfl, rfl⟩ | ⟨hend, rfl, rfl⟩
    · unfold rrd at hc
      have hlt3 : p + j < s.toList.length := (List.getElem?_eq_some_iff.1 hget).1
      have hlt2 : p + j < s.size := by rw [toList_len] at hlt3; exact hlt3
      have hdrop : s.toList.drop (p + j) = b :: s.toList.drop (p + j + 1) := by
        rw [List.drop_eq_getElem_cons hlt3, (List.getElem?_eq_some_iff.1 hget).2]
      have hbl : b.toNat < 256 := b.toNat_lt
      have hun := i_unit (c := b.toNat % 128) (j := j) (by omega) (by omega)
      have hnext : acc + b.toNat % 128 * 128 ^ j < 128 ^ (j + 1) := by
        have : b.toNat % 128 * 128 ^ j ≤ 127 * 128 ^ j := Nat.mul_le_mul_right _ (by omega)
        rw [Nat.pow_succ]; omega
      have hpow1 : 128 ^ (j + 1) ≤ 34359738368 := by
        have := Nat.pow_le_pow_right (n := 128) (by omega) (show j + 1 ≤ 5 by omega)
        have h5 : (128 : Nat) ^ 5 = 34359738368 := by decide
        omega
      have hadd : IntKind.i64.wrap ((acc : Int) + ((b.toNat % 128 * 128 ^ j : Nat) : Int)) = ((acc + b.toNat % 128 * 128 ^ j : Nat) : Int) := by rw [wrap_in (by unfold in64; omega)]; omega
      have hmul : IntKind.i64.wrap (((128 ^ j : Nat) : Int) * 128) = ((128 ^ (j + 1) : Nat) : Int) := by
        rw [Nat.pow_succ] at hpow1 ⊢
        rw [wrap_in (by unfold in64; omega)]; omega
      rw [h5, hdrop, rdN] at hn
      cases hb1 : decide ((b.toNat : Int) < 128)
      · have hge1 : ¬ b.toNat < 128 := by simp only [decide_eq_false_iff_not] at hb1; omega
        rw [if_neg hge1, Option.map_map] at hn
        simp only [↓wpre, wset, wcore, ne_eq, if_true, if_false, exists_eq_left', true_implies, false_implies, exists_const, exists_eq_right, binA, intA, loadA, storeA, pickC, setAt, mapO, argsE, X.isC, resA, oneA, unA, boundA, eqiA, eqsA, fillA, fillE, ASt.fz, strA, Nat.reduceEqDiff, Nat.reduceLT, ↓reduceIte, reduceCtorEq, Nat.reduceAdd, Nat.reduceLeDiff, Int.reduceBEq, Int.reduceBNe, Int.reduceLT, Int.reduceLE, Int.reduceGT, Int.reduceGE, Nat.reduceDiv, Nat.reduceMul, Nat.reduceBEq, Nat.reduceMod, Nat.reduceSub, e0, e5, e4, e3, hd, hi', hc, hi2, i_rem, z128, hun, hadd, hmul, hb1]
        refine EQ_in ⟨j + 1, by omega, rfl, e0, next_ixv (by unfold lenB; omega), by omega, rfl, _, rfl, hnext, hi2 _, fun x => by rw [List.set_set, hset], by omega, ?_⟩
        rw [hn, show 5 - (j + 1) = 4 - j by omega, show p + (j + 1) = p + j + 1 by omega]
        congr 1
        funext x
        simp only [Function.comp]
        rw [show x.2 + 1 + j = x.2 + (j + 1) by omega]
      · have hlt1 : b.toNat < 128 := by simp only [decide_eq_true_eq] at hb1; omega
        rw [if_pos hlt1] at hn
        have hbad : (b.toNat = 0 ∧ 0 < j ∨ acc + b.toNat % 128 * 128 ^ j > mostN) → getN (s.toList.drop p) = none := fun h => by rw [hn, if_pos h]; rfl
        have hgood : ¬ (b.toNat = 0 ∧ 0 < j ∨ acc + b.toNat % 128 * 128 ^ j > mostN) → getN (s.toList.drop p) = some (acc + b.toNat % 128 * 128 ^ j, 1 + j) := fun h => by rw [hn, if_neg h]; rfl
        have hfin : ¬ (b.toNat = 0 ∧ 0 < j ∨ acc + b.toNat % 128 * 128 ^ j > mostN) → RNumP i s p H T' (AV.int ((acc + b.toNat % 128 * 128 ^ j : Nat) : Int)) ⟨H'.set i (.cells false [.str s, .int ((p + j + 1 : Nat) : Int), .v (.bool false)]), T'⟩ := fun h =>
          Or.inl ⟨_, _, hgood h, rfl, by rw [hset, show p + (1 + j) = p + j + 1 by omega]; rfl⟩
        have hbadf : (b.toNat = 0 ∧ 0 < j ∨ acc + b.toNat % 128 * 128 ^ j > mostN) → RNumP i s p H T' (AV.int ((acc + b.toNat % 128 * 128 ^ j : Nat) : Int)) ⟨H.set i (.cells false [.str s, .int ((p + j + 1 : Nat) : Int), .v (.bool true)]), T'⟩ := fun h =>
          Or.inr ⟨hbad h, _, _, rfl, by omega, rfl, by omega⟩
        cases hz : ((b.toNat : Int) == 0)
        · have hz' : b.toNat ≠ 0 := by simp only [beq_eq_false_iff_ne] at hz; omega
          cases hm : decide (((acc + b.toNat % 128 * 128 ^ j : Nat) : Int) > 2147483647)
          · simp only [↓wpre, wset, wcore, ne_eq, if_true, if_false, exists_eq_left', true_implies, false_implies, exists_const, exists_eq_right, binA, intA, loadA, storeA, pickC, setAt, mapO, argsE, X.isC, resA, oneA, unA, boundA, eqiA, eqsA, fillA, fillE, ASt.fz, strA, Nat.reduceEqDiff, Nat.reduceLT, ↓reduceIte, reduceCtorEq, Nat.reduceAdd, Nat.reduceLeDiff, Int.reduceBEq, Int.reduceBNe, Int.reduceLT, Int.reduceLE, Int.reduceGT, Int.reduceGE, Nat.reduceDiv, Nat.reduceMul, Nat.reduceBEq, Nat.reduceMod, Nat.reduceSub, e0, e5, e4, e3, hd, hi', hc, hi2, i_rem, z128, hun, hadd, hmul, hb1, hz, hm]
            exact hfin (by unfold mostN; simp only [decide_eq_false_iff_not] at hm; omega)
          · simp only [↓wpre, wset, wcore, ne_eq, if_true, if_false, exists_eq_left', true_implies, false_implies, exists_const, exists_eq_right, binA, intA, loadA, storeA, pickC, setAt, mapO, argsE, X.isC, resA, oneA, unA, boundA, eqiA, eqsA, fillA, fillE, ASt.fz, strA, Nat.reduceEqDiff, Nat.reduceLT, ↓reduceIte, reduceCtorEq, Nat.reduceAdd, Nat.reduceLeDiff, Int.reduceBEq, Int.reduceBNe, Int.reduceLT, Int.reduceLE, Int.reduceGT, Int.reduceGE, Nat.reduceDiv, Nat.reduceMul, Nat.reduceBEq, Nat.reduceMod, Nat.reduceSub, e0, e5, e4, e3, hd, hi', hc, hi2, hset2, i_rem, z128, hun, hadd, hmul, hb1, hz, hm]
            exact hbadf (by unfold mostN; simp only [decide_eq_true_eq] at hm; omega)
        · have hz' : b.toNat = 0 := by simp only [beq_iff_eq] at hz; omega
          cases hj0 : decide ((j : Int) > 0)
          · cases hm : decide (((acc + b.toNat % 128 * 128 ^ j : Nat) : Int) > 2147483647)
            · simp only [↓wpre, wset, wcore, ne_eq, if_true, if_false, exists_eq_left', true_implies, false_implies, exists_const, exists_eq_right, binA, intA, loadA, storeA, pickC, setAt, mapO, argsE, X.isC, resA, oneA, unA, boundA, eqiA, eqsA, fillA, fillE, ASt.fz, strA, Nat.reduceEqDiff, Nat.reduceLT, ↓reduceIte, reduceCtorEq, Nat.reduceAdd, Nat.reduceLeDiff, Int.reduceBEq, Int.reduceBNe, Int.reduceLT, Int.reduceLE, Int.reduceGT, Int.reduceGE, Nat.reduceDiv, Nat.reduceMul, Nat.reduceBEq, Nat.reduceMod, Nat.reduceSub, e0, e5, e4, e3, hd, hi', hc, hi2, i_rem, z128, hun, hadd, hmul, hb1, hz, hj0, hm]
              exact hfin (by unfold mostN; simp only [decide_eq_false_iff_not] at hm hj0; omega)
            · simp only [↓wpre, wset, wcore, ne_eq, if_true, if_false, exists_eq_left', true_implies, false_implies, exists_const, exists_eq_right, binA, intA, loadA, storeA, pickC, setAt, mapO, argsE, X.isC, resA, oneA, unA, boundA, eqiA, eqsA, fillA, fillE, ASt.fz, strA, Nat.reduceEqDiff, Nat.reduceLT, ↓reduceIte, reduceCtorEq, Nat.reduceAdd, Nat.reduceLeDiff, Int.reduceBEq, Int.reduceBNe, Int.reduceLT, Int.reduceLE, Int.reduceGT, Int.reduceGE, Nat.reduceDiv, Nat.reduceMul, Nat.reduceBEq, Nat.reduceMod, Nat.reduceSub, e0, e5, e4, e3, hd, hi', hc, hi2, hset2, i_rem, z128, hun, hadd, hmul, hb1, hz, hj0, hm]
              exact hbadf (by unfold mostN; simp only [decide_eq_true_eq] at hm; omega)
          · simp only [↓wpre, wset, wcore, ne_eq, if_true, if_false, exists_eq_left', true_implies, false_implies, exists_const, exists_eq_right, binA, intA, loadA, storeA, pickC, setAt, mapO, argsE, X.isC, resA, oneA, unA, boundA, eqiA, eqsA, fillA, fillE, ASt.fz, strA, Nat.reduceEqDiff, Nat.reduceLT, ↓reduceIte, reduceCtorEq, Nat.reduceAdd, Nat.reduceLeDiff, Int.reduceBEq, Int.reduceBNe, Int.reduceLT, Int.reduceLE, Int.reduceGT, Int.reduceGE, Nat.reduceDiv, Nat.reduceMul, Nat.reduceBEq, Nat.reduceMod, Nat.reduceSub, e0, e5, e4, e3, hd, hi', hc, hi2, hset2, i_rem, z128, hun, hadd, hmul, hb1, hz, hj0]
            exact hbadf (by simp only [decide_eq_true_eq] at hj0; omega)
    · unfold rrd at hc
      have hd0 : s.toList.drop (p + j) = [] := List.drop_eq_nil_of_le (by rw [toList_len]; omega)
      rw [hd0, h5, rdN] at hn
      have hN : getN (s.toList.drop p) = none := by simpa using hn
      have hz0 : ((0 : Int) == 0) = true := rfl
      have hl0 : decide ((0 : Int) < 128) = true := rfl
      have hun : IntKind.i64.wrap ((0 : Int) * ((128 ^ j : Nat) : Int)) = 0 := by rw [Int.zero_mul]; rfl
      have hr0 : (0 : Int).tmod 128 = 0 := rfl
      have hadd : IntKind.i64.wrap ((acc : Int) + 0) = (acc : Int) := by rw [wrap_in (by unfold in64; omega)]; omega
      cases hj0 : decide ((j : Int) > 0)
      · cases hm : decide ((acc : Int) > 2147483647)
        · simp only [↓wpre, wset, wcore, ne_eq, if_true, if_false, exists_eq_left', true_implies, false_implies, exists_const, exists_eq_right, binA, intA, loadA, storeA, pickC, setAt, mapO, argsE, X.isC, resA, oneA, unA, boundA, eqiA, eqsA, fillA, fillE, ASt.fz, strA, Nat.reduceEqDiff, Nat.reduceLT, ↓reduceIte, reduceCtorEq, Nat.reduceAdd, Nat.reduceLeDiff, Int.reduceBEq, Int.reduceBNe, Int.reduceLT, Int.reduceLE, Int.reduceGT, Int.reduceGE, Nat.reduceDiv, Nat.reduceMul, Nat.reduceBEq, Nat.reduceMod, Nat.reduceSub, e0, e5, e4, e3, hd, hi', hc, hi2, hset2, hr0, z128, hun, hadd, hl0, hz0, hj0, hm]
          exact Or.inr ⟨hN, acc, p + j, rfl, by omega, by rw [hset]; rfl, hpj⟩
        · simp only [↓wpre, wset, wcore, ne_eq, if_true, if_false, exists_eq_left', true_implies, false_implies, exists_const, exists_eq_right, binA, intA, loadA, storeA, pickC, setAt, mapO, argsE, X.isC, resA, oneA, unA, boundA, eqiA, eqsA, fillA, fillE, ASt.fz, strA, Nat.reduceEqDiff, Nat.reduceLT, ↓reduceIte, reduceCtorEq, Nat.reduceAdd, Nat.reduceLeDiff, Int.reduceBEq, Int.reduceBNe, Int.reduceLT, Int.reduceLE, Int.reduceGT, Int.reduceGE, Nat.reduceDiv, Nat.reduceMul, Nat.reduceBEq, Nat.reduceMod, Nat.reduceSub, e0, e5, e4, e3, hd, hi', hc, hi2, hset2, hr0, z128, hun, hadd, hl0, hz0, hj0, hm]
          exact Or.inr ⟨hN, acc, p + j, rfl, by omega, rfl, hpj⟩
      · simp only [↓wpre, wset, wcore, ne_eq, if_true, if_false, exists_eq_left', true_implies, false_implies, exists_const, exists_eq_right, binA, intA, loadA, storeA, pickC, setAt, mapO, argsE, X.isC, resA, oneA, unA, boundA, eqiA, eqsA, fillA, fillE, ASt.fz, strA, Nat.reduceEqDiff, Nat.reduceLT, ↓reduceIte, reduceCtorEq, Nat.reduceAdd, Nat.reduceLeDiff, Int.reduceBEq, Int.reduceBNe, Int.reduceLT, Int.reduceLE, Int.reduceGT, Int.reduceGE, Nat.reduceDiv, Nat.reduceMul, Nat.reduceBEq, Nat.reduceMod, Nat.reduceSub, e0, e5, e4, e3, hd, hi', hc, hi2, hset2, hr0, z128, hun, hadd, hl0, hz0, hj0]
        exact Or.inr ⟨hN, acc, p + j, rfl, by omega, rfl, hpj⟩
  · have hd : decide ((j : Int) < 5) = false := by simp; omega
    have hj5 : j = 5 := by omega
    subst hj5
    have hset2 : ∀ y, H'.set i y = H.set i y := hset
    unfold rrd at hi'
    simp only [↓wpre, wset, wcore, ne_eq, if_true, if_false, exists_eq_left', true_implies, false_implies, exists_const, exists_eq_right, binA, intA, loadA, storeA, pickC, setAt, mapO, argsE, X.isC, resA, oneA, unA, boundA, eqiA, eqsA, fillA, fillE, ASt.fz, strA, Nat.reduceEqDiff, Nat.reduceLT, ↓reduceIte, reduceCtorEq, Nat.reduceAdd, Nat.reduceLeDiff, Int.reduceBEq, Int.reduceBNe, Int.reduceLT, Int.reduceLE, Int.reduceGT, Int.reduceGE, Nat.reduceDiv, Nat.reduceMul, Nat.reduceBEq, Nat.reduceMod, Nat.reduceSub, e0, e5, e4, e3, hd, hi', hset2]
    exact Or.inr ⟨by rw [hn]; rfl, 0, p + 5, rfl, by omega, rfl, hpj⟩
def RTextP (i : Nat) (s : ByteArray) (p : Nat) (H : List AObj) (T : List Nat) (v : AV) (s' : ASt) : Prop :=
  (∃ a k, getS (s.toList.drop p) = some (a, k) ∧ p + k ≤ s.size ∧ v = .str (strOf a) ∧ s' = ⟨H.set i (rrd s (p + k) false), T⟩) ∨ (getS (s.toList.drop p) = none ∧ ∃ k : Nat, v = .str ⟨#[]⟩ ∧ s' = ⟨H.set i (rrd s k true), T⟩ ∧ k ≤ s.size)
theorem rtext_sh {i : Nat} {s : ByteArray} {p : Nat} {H : List AObj} {T : List Nat} (hi : H[i]? = some (rrd s p false)) (hp : p ≤ s.size) (hs : s.size ≤ capB) :
    Sh md pfs 50 [.ptr i 0] ⟨H, T⟩ (RTextP i s p H T) fun _ _ => False := by
  refine sh_of pf50_is (Nat.le_of_ble_eq_true rfl) ?_
  have hi2 : ∀ x, (H.set i x)[i]? = some x := fun x => get_set hi
  have hset : ∀ x y, (H.set i x).set i y = H.set i y := fun x y => by rw [List.set_set]
  obtain ⟨_, _, hq, hc⟩ := (rnumber_sh hi hp hs (T := T)).callRet rfl
  rcases hq with ⟨n, k, h1, rfl, rfl⟩ | ⟨h1, n, k, rfl, _, rfl, hk⟩
  · obtain ⟨hn, hpk⟩ := getN_le h1 hp
    have hsub : IntKind.i64.wrap ((s.size : Int) - ((p + k : Nat) : Int)) = ((s.size - (p + k) : Nat) : Int) := by rw [wrap_in (by unfold in64; unfold capB at hs; omega)]; omega
    have hlen : (s.toList.drop p).length - k = s.size - (p + k) := by rw [List.length_drop, toList_len]; omega
    have hS : getS (s.toList.drop p) = if n > 65536 ∨ n > s.size - (p + k) then none else some (((s.toList.drop p).drop k).take n, k + n) := by rw [getS, h1]; simp only [Option.bind_some, hlen]
    unfold rrd at hc
    cases b1 : decide ((n : Int) > 65536)
    · cases b2 : decide ((n : Int) > ((s.size - (p + k) : Nat) : Int))
      · have hadd : IntKind.i64.wrap (((p + k : Nat) : Int) + (n : Int)) = ((p + k + n : Nat) : Int) := by
          simp only [decide_eq_false_iff_not] at b2
          rw [wrap_in (by unfold in64; unfold capB at hs; omega)]; omega
        have hsb : IntKind.i64.wrap (((p + k + n : Nat) : Int) - (n : Int)) = ((p + k : Nat) : Int) := by
          simp only [decide_eq_false_iff_not] at b2
          rw [wrap_in (by unfold in64; unfold capB at hs; omega)]; omega
        simp only [decide_eq_false_iff_not] at b1 b2
        have b1' : decide ((n : Int) > 65536) = false := by simpa using b1
        have b2' : decide ((n : Int) > ((s.size - (p + k) : Nat) : Int)) = false := by simpa using b2
        have hb3 : (((p + k : Nat) : Int) ≤ (s.size : Int)) = True := eq_true (by omega)
        have hb4 : (((p + k + n : Nat) : Int) ≤ (s.size : Int)) = True := eq_true (by omega)
        have hb5 : (p + k ≤ p + k + n) = True := eq_true (by omega)
        have hex := extract_str s (l := p + k) (h := p + k + n) (by omega) (by omega)
        simp only [pf50, ↓wpre, wset, wcore, ne_eq, if_true, if_false, exists_eq_left', true_implies, false_implies, exists_const, exists_eq_right, binA, intA, loadA, storeA, pickC, setAt, mapO, argsE, X.isC, resA, oneA, unA, boundA, eqiA, eqsA, fillA, fillE, ASt.fz, strA, Nat.reduceEqDiff, Nat.reduceLT, ↓reduceIte, reduceCtorEq, Nat.reduceAdd, Nat.reduceLeDiff, Int.reduceBEq, Int.reduceBNe, Int.reduceLT, Int.reduceLE, Int.reduceGT, Int.reduceGE, Nat.reduceDiv, Nat.reduceMul, Nat.reduceBEq, Nat.reduceMod, Nat.reduceSub, hc, hi2, hset, hsub, b1', b2', hadd, hsb, hb3, hb4, hb5, hex]
        refine Or.inl ⟨_, _, by rw [hS, if_neg (by omega)], by omega, ?_, ?_⟩
        · rw [List.drop_drop, Nat.add_sub_cancel_left]
        · rw [Nat.add_assoc]; rfl
      · simp only [pf50, ↓wpre, wset, wcore, ne_eq, if_true, if_false, exists_eq_left', true_implies, false_implies, exists_const, exists_eq_right, binA, intA, loadA, storeA, pickC, setAt, mapO, argsE, X.isC, resA, oneA, unA, boundA, eqiA, eqsA, fillA, fillE, ASt.fz, strA, Nat.reduceEqDiff, Nat.reduceLT, ↓reduceIte, reduceCtorEq, Nat.reduceAdd, Nat.reduceLeDiff, Int.reduceBEq, Int.reduceBNe, Int.reduceLT, Int.reduceLE, Int.reduceGT, Int.reduceGE, Nat.reduceDiv, Nat.reduceMul, Nat.reduceBEq, Nat.reduceMod, Nat.reduceSub, hc, hi2, hset, hsub, b1, b2]
        exact Or.inr ⟨by rw [hS, if_pos (.inr (by simp only [decide_eq_true_eq] at b2; omega))], p + k, rfl, rfl, hpk⟩
    · simp only [pf50, ↓wpre, wset, wcore, ne_eq, if_true, if_false, exists_eq_left', true_implies, false_implies, exists_const, exists_eq_right, binA, intA, loadA, storeA, pickC, setAt, mapO, argsE, X.isC, resA, oneA, unA, boundA, eqiA, eqsA, fillA, fillE, ASt.fz, strA, Nat.reduceEqDiff, Nat.reduceLT, ↓reduceIte, reduceCtorEq, Nat.reduceAdd, Nat.reduceLeDiff, Int.reduceBEq, Int.reduceBNe, Int.reduceLT, Int.reduceLE, Int.reduceGT, Int.reduceGE, Nat.reduceDiv, Nat.reduceMul, Nat.reduceBEq, Nat.reduceMod, Nat.reduceSub, hc, hi2, hset, hsub, b1]
      exact Or.inr ⟨by rw [hS, if_pos (.inl (by simp only [decide_eq_true_eq] at b1; omega))], p + k, rfl, rfl, hpk⟩
  · unfold rrd at hc
    simp only [pf50, ↓wpre, wset, wcore, ne_eq, if_true, if_false, exists_eq_left', true_implies, false_implies, exists_const, exists_eq_right, binA, intA, loadA, storeA, pickC, setAt, mapO, argsE, X.isC, resA, oneA, unA, boundA, eqiA, eqsA, fillA, fillE, ASt.fz, strA, Nat.reduceEqDiff, Nat.reduceLT, ↓reduceIte, reduceCtorEq, Nat.reduceAdd, Nat.reduceLeDiff, Int.reduceBEq, Int.reduceBNe, Int.reduceLT, Int.reduceLE, Int.reduceGT, Int.reduceGE, Nat.reduceDiv, Nat.reduceMul, Nat.reduceBEq, Nat.reduceMod, Nat.reduceSub, hc, hi2, hset]
    exact Or.inr ⟨by rw [getS, h1]; rfl, k, rfl, rfl, hk⟩
end Go.Proofs.Eng
