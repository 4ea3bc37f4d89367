/- Numbers: got. No conditions beyond those in the theorems. -/
import Derived.Test.YtbcnlbnimabdeaaQ1
import Derived.Test.YtbcnlbnimabdeaaG5
set_option linter.all false
set_option linter.deprecated false
set_option linter.unnecessarySimpa false
set_option linter.unusedVariables false
set_option linter.unusedSimpArgs false
set_option linter.defProp false
namespace Go.Proofs.Eng
open Go Go.Proofs
set_option maxRecDepth 100000
set_option maxHeartbeats 4000000
def failV : AV := .iface 91 (.agg [])
theorem failV_pure : pureAV failV = true := rfl
theorem pz_fail {s : ASt} : purify 20 s failV = some failV := purify20 failV_pure
theorem fr_fail {s : ASt} : frz 20 s failV = s := fr_pure failV_pure
theorem Sh.callPan {f : FuncId} {args : List AV} {s : ASt} {PP : AV → ASt → Prop} (h : Sh md pfs f args s (fun _ _ => False) PP) (hm : md f = .shared) : ∃ v s', PP v s' ∧ ∀ K KP, CW (run md pfs) md false s f args K KP () = KP v s' := by
  rcases h.call hm with ⟨_, _, h, _⟩ | h
  · exact h.elim
  · exact h
theorem Sh.callRet {f : FuncId} {args : List AV} {s : ASt} {PR : AV → ASt → Prop} (h : Sh md pfs f args s PR fun _ _ => False) (hm : md f = .shared) : ∃ v s', PR v s' ∧ ∀ K KP, CW (run md pfs) md false s f args K KP () = K v s' := by
  rcases h.call hm with h | ⟨_, _, h, _⟩
  · exact h
  · exact h.elim
theorem fail_sh (a : AV) (s : ASt) : Sh md pfs 44 [a] s (fun _ _ => False) (fun v s' => v = failV ∧ s' = s) := by
  refine sh_of pf44_is (Nat.le_of_ble_eq_true rfl) ?_
  simp only [pf44, ↓wpre, wset, wcore, ne_eq, if_true, if_false, exists_eq_left', true_implies, false_implies, exists_const, exists_eq_right, binA, intA, loadA, storeA, pickC, setAt, mapO, argsE, X.isC, resA, oneA, unA, boundA, eqiA, eqsA, fillA, fillE, ASt.fz, strA, Nat.reduceEqDiff, Nat.reduceLT, ↓reduceIte, reduceCtorEq, Nat.reduceAdd, Nat.reduceLeDiff, Int.reduceBEq, Int.reduceBNe, Int.reduceLT, Int.reduceLE, Int.reduceGT, Int.reduceGE, Nat.reduceDiv, Nat.reduceMul, Nat.reduceBEq, Nat.reduceMod, Nat.reduceSub, SQ_pan]
  rfl
theorem set_self {α : Type} {H : List α} {i : Nat} {c : α} (h : H[i]? = some c) : H.set i c = H := by
  have hlt := (List.getElem?_eq_some_iff.1 h).1
  have := (List.getElem?_eq_some_iff.1 h).2
  rw [← this]; simp
theorem get_set {α : Type} {H : List α} {i : Nat} {c d : α} (h : H[i]? = some c) : (H.set i d)[i]? = some d := by
  have hlt := (List.getElem?_eq_some_iff.1 h).1
  simp [hlt]
/-- A reader's block. -/
def rdr (s : ByteArray) (k : Nat) : AObj := .cells false [.str s, .int (k : Nat)]
theorem i_shl {c j : Nat} (hc : c < 128) (hj : j ≤ 4) : IntKind.i64.wrap ((c : Int) * 2 ^ (min (7 * j) IntKind.i64.bits)) = ((c * 128 ^ j : Nat) : Int) := by
  have h1 : min (7 * j) IntKind.i64.bits = 7 * j := by
    rw [show IntKind.i64.bits = 64 from rfl]; omega
  have h2 : (2 : Int) ^ (7 * j) = ((128 ^ j : Nat) : Int) := by
    rw [Int.pow_mul]; simp
  have h3 : 128 ^ j ≤ 128 ^ 4 := Nat.pow_le_pow_right (by omega) hj
  have h4 : c * 128 ^ j ≤ 127 * 128 ^ 4 := Nat.mul_le_mul (by omega) h3
  rw [h1, h2, ← Int.natCast_mul, wrap_in (by unfold in64; omega)]
theorem i_or {a c j : Nat} (ha : a < 128 ^ j) (hc : c < 128) (hj : j ≤ 4) : IntKind.i64.wrap ((BitVec.ofInt IntKind.i64.bits (a : Int) ||| BitVec.ofInt IntKind.i64.bits ((c * 128 ^ j : Nat) : Int)).toNat : Int) = ((a + c * 128 ^ j : Nat) : Int) := by
  have h3 : 128 ^ j ≤ 128 ^ 4 := Nat.pow_le_pow_right (by omega) hj
  have h4 : c * 128 ^ j ≤ 127 * 128 ^ 4 := Nat.mul_le_mul (by omega) h3
  have h5 : (128 : Nat) ^ j = 2 ^ (7 * j) := by rw [Nat.pow_mul]
  rw [show IntKind.i64.bits = 64 from rfl, or_nat (by omega) (by omega), h5, or_add (by rw [← h5]; exact ha), ← h5, wrap_in (by unfold in64; omega)]
theorem number_sh {i : Nat} {s : ByteArray} {p : Nat} {H : List AObj} {T : List Nat} (hi : H[i]? = some (rdr s p)) (hp : p ≤ s.size) (hs : s.size ≤ capB) :
    Sh md pfs 34 [.ptr i 0] ⟨H, T⟩ (fun v s' => ∃ n k, getN (s.toList.drop p) = some (n, k) ∧ v = .int (n : Nat) ∧ s' = ⟨H.set i (rdr s (p + k)), T⟩) (fun v s' => getN (s.toList.drop p) = none ∧ v = failV ∧ ∃ k, s' = ⟨H.set i (rdr s k), T⟩ ∧ k ≤ s.size) := by
  refine sh_of pf34_is (Nat.le_of_ble_eq_true rfl) ?_
  simp only [pf34, ↓wpre, wset, wcore, ne_eq, if_true, if_false, exists_eq_left', true_implies, false_implies, exists_const, exists_eq_right, binA, intA, loadA, storeA, pickC, setAt, mapO, argsE, X.isC, resA, oneA, unA, boundA, eqiA, eqsA, fillA, fillE, ASt.fz, strA, Nat.reduceEqDiff, Nat.reduceLT, ↓reduceIte, reduceCtorEq, Nat.reduceAdd, Nat.reduceLeDiff, Int.reduceBEq, Int.reduceBNe, Int.reduceLT, Int.reduceLE, Int.reduceGT, Int.reduceGE, Nat.reduceDiv, Nat.reduceMul, Nat.reduceBEq, Nat.reduceMod, Nat.reduceSub]
  refine W_loopE (fun j => 5 - j) (fun j E H' T' => T' = T ∧ E 0 = .ptr i 0 ∧ E 6 = .int (j : Nat) ∧ j ≤ 5 ∧ ∃ acc, E 3 = .int (acc : Nat) ∧ acc < 128 ^ j ∧ H'[i]? = some (rdr s (p + j)) ∧ (∀ x, H'.set i x = H.set i x) ∧ p + j ≤ s.size ∧ getN (s.toList.drop p) = (rdN (5 - j) j acc (s.toList.drop (p + j))).map fun x => (x.1, x.2 + j)) ?_ 0 ⟨rfl, rfl, rfl, by omega, 0, rfl, by simp, hi, fun _ => rfl, hp, by simp [getN]⟩
  rintro j E H' T' ⟨rfl, e0, e6, hj, acc, e3, hacc, hi', hset, hpj, hn⟩
  unfold rdr at hi'
  rcases Nat.lt_or_ge j 5 with hlt | hge
  · have hd : decide ((j : Int) < 5) = true := by simp; omega
    obtain ⟨_, _, ⟨rfl, rfl⟩, hf⟩ := (fail_sh (.ptr i 0) ⟨H', T'⟩).callPan rfl
    have hend : ∀ k, H'[i]? = some (rdr s k) → k ≤ s.size → ∃ k', ({ H := H', T := T' } : ASt) = ⟨H.set i (rdr s k'), T'⟩ ∧ k' ≤ s.size := fun k hk hk2 => ⟨k, by rw [← hset, set_self hk], hk2⟩
    have h5 : 5 - j = (4 - j) + 1 := by omega
    cases hb : decide (((p + j : Nat) : Int) ≥ s.size)
    · have hlt2 : p + j < s.size := by simp only [decide_eq_false_iff_not] at hb; omega
      have hlt3 : p + j < s.toList.length := by rw [toList_len]; omega
      have hget : s.toList[p + j]? = some s.toList[p + j] := List.getElem?_eq_getElem hlt3
      have hdrop : s.toList.drop (p + j) = s.toList[p + j] :: s.toList.drop (p + j + 1) := List.drop_eq_getElem_cons hlt3
      generalize s.toList[p + j] = b at hget hdrop
      have hbl : b.toNat < 256 := b.toNat_lt
      have h0 : (0 ≤ ((p + j : Nat) : Int)) = True := eq_true (Int.natCast_nonneg _)
      have hcv : IntKind.i64.wrap (b.toNat : Int) = b.toNat := wrap_in (by unfold in64; omega)
      have hadd : IntKind.i64.wrap (((p + j : Nat) : Int) + 1) = ((p + j + 1 : Nat) : Int) := by rw [wrap_in (by unfold in64; unfold capB at hs; omega)]; omega
      have h7 : IntKind.i64.wrap (7 * (j : Int)) = ((7 * j : Nat) : Int) := by rw [wrap_in (by unfold in64; omega)]; omega
      have h70 : (0 ≤ ((7 * j : Nat) : Int)) = True := eq_true (Int.natCast_nonneg _)
      have hsh := i_shl (c := b.toNat % 128) (j := j) (by omega) (by omega)
      have hor := i_or (c := b.toNat % 128) hacc (by omega) (show j ≤ 4 by omega)
      have hnext : acc + b.toNat % 128 * 128 ^ j < 128 ^ (j + 1) := by
        have : b.toNat % 128 * 128 ^ j ≤ 127 * 128 ^ j := Nat.mul_le_mul_right _ (by omega)
        rw [Nat.pow_succ]; omega
      have hi2 : ∀ x, (H'.set i x)[i]? = some x := fun x => get_set hi'
      have hend2 : ({ H := H'.set i (.cells false [.str s, .int ((p + j + 1 : Nat) : Int)]), T := T' } : ASt) = ⟨H.set i (rdr s (p + j + 1)), T'⟩ := by rw [hset]; rfl
      obtain ⟨_, _, ⟨rfl, rfl⟩, hf2⟩ := (fail_sh (.ptr i 0) ⟨H'.set i (.cells false [.str s, .int ((p + j + 1 : Nat) : Int)]), T'⟩).callPan rfl
      rw [h5, hdrop, rdN] at hn
      cases hb1 : decide ((b.toNat : Int) < 128)
      · have hge1 : ¬ b.toNat < 128 := by simp only [decide_eq_false_iff_not] at hb1; omega
        rw [if_neg hge1, Option.map_map] at hn
        simp only [↓wpre, wset, wcore, ne_eq, if_true, if_false, exists_eq_left', true_implies, false_implies, exists_const, exists_eq_right, binA, intA, loadA, storeA, pickC, setAt, mapO, argsE, X.isC, resA, oneA, unA, boundA, eqiA, eqsA, fillA, fillE, ASt.fz, strA, Nat.reduceEqDiff, Nat.reduceLT, ↓reduceIte, reduceCtorEq, Nat.reduceAdd, Nat.reduceLeDiff, Int.reduceBEq, Int.reduceBNe, Int.reduceLT, Int.reduceLE, Int.reduceGT, Int.reduceGE, Nat.reduceDiv, Nat.reduceMul, Nat.reduceBEq, Nat.reduceMod, Nat.reduceSub, e0, e6, e3, hd, hi', hb, hget, h0, hcv, hadd, i_rem, z128, h7, h70, hsh, hor, hb1]
        refine EQ_in ⟨j + 1, by omega, rfl, e0, next_ixv (by unfold lenB; omega), by omega, _, rfl, hnext, hi2 _, fun x => by rw [List.set_set, hset], by omega, ?_⟩
        rw [hn, show 5 - (j + 1) = 4 - j by omega, show p + (j + 1) = p + j + 1 by omega]
        congr 1
        funext x
        simp only [Function.comp]
        rw [show x.2 + 1 + j = x.2 + (j + 1) by omega]
      · have hlt1 : b.toNat < 128 := by simp only [decide_eq_true_eq] at hb1; omega
        rw [if_pos hlt1] at hn
        have hbad : (b.toNat = 0 ∧ 0 < j ∨ acc + b.toNat % 128 * 128 ^ j > mostN) → getN (s.toList.drop p) = none := fun h => by rw [hn, if_pos h]; rfl
        have hgood : ¬ (b.toNat = 0 ∧ 0 < j ∨ acc + b.toNat % 128 * 128 ^ j > mostN) → getN (s.toList.drop p) = some (acc + b.toNat % 128 * 128 ^ j, 1 + j) := fun h => by rw [hn, if_neg h]; rfl
        have hfin : ¬ (b.toNat = 0 ∧ 0 < j ∨ acc + b.toNat % 128 * 128 ^ j > mostN) → ∃ n k, getN (s.toList.drop p) = some (n, k) ∧ AV.int ((acc + b.toNat % 128 * 128 ^ j : Nat) : Int) = .int (n : Nat) ∧ ({ H := H'.set i (.cells false [.str s, .int ((p + j + 1 : Nat) : Int)]), T := T' } : ASt) = ⟨H.set i (rdr s (p + k)), T'⟩ := fun h =>
          ⟨_, _, hgood h, rfl, by rw [hend2, show p + j + 1 = p + (1 + j) by omega]⟩
        have hbadfin : (b.toNat = 0 ∧ 0 < j ∨ acc + b.toNat % 128 * 128 ^ j > mostN) → getN (s.toList.drop p) = none ∧ ∃ k, ({ H := H'.set i (.cells false [.str s, .int ((p + j + 1 : Nat) : Int)]), T := T' } : ASt) = ⟨H.set i (rdr s k), T'⟩ ∧ k ≤ s.size := fun h =>
          ⟨hbad h, _, hend2, by omega⟩
        cases hz : ((b.toNat : Int) == 0)
        · have hz' : b.toNat ≠ 0 := by simp only [beq_eq_false_iff_ne] at hz; omega
          cases hm : decide (((acc + b.toNat % 128 * 128 ^ j : Nat) : Int) > 2147483647)
          · simp only [↓wpre, wset, wcore, ne_eq, if_true, if_false, exists_eq_left', true_implies, false_implies, exists_const, exists_eq_right, binA, intA, loadA, storeA, pickC, setAt, mapO, argsE, X.isC, resA, oneA, unA, boundA, eqiA, eqsA, fillA, fillE, ASt.fz, strA, Nat.reduceEqDiff, Nat.reduceLT, ↓reduceIte, reduceCtorEq, Nat.reduceAdd, Nat.reduceLeDiff, Int.reduceBEq, Int.reduceBNe, Int.reduceLT, Int.reduceLE, Int.reduceGT, Int.reduceGE, Nat.reduceDiv, Nat.reduceMul, Nat.reduceBEq, Nat.reduceMod, Nat.reduceSub, e0, e6, e3, hd, hi', hb, hget, h0, hcv, hadd, i_rem, z128, h7, h70, hsh, hor, hb1, hz, hm]
            exact hfin (by unfold mostN; simp only [decide_eq_false_iff_not] at hm; omega)
          · simp only [↓wpre, wset, wcore, ne_eq, if_true, if_false, exists_eq_left', true_implies, false_implies, exists_const, exists_eq_right, binA, intA, loadA, storeA, pickC, setAt, mapO, argsE, X.isC, resA, oneA, unA, boundA, eqiA, eqsA, fillA, fillE, ASt.fz, strA, Nat.reduceEqDiff, Nat.reduceLT, ↓reduceIte, reduceCtorEq, Nat.reduceAdd, Nat.reduceLeDiff, Int.reduceBEq, Int.reduceBNe, Int.reduceLT, Int.reduceLE, Int.reduceGT, Int.reduceGE, Nat.reduceDiv, Nat.reduceMul, Nat.reduceBEq, Nat.reduceMod, Nat.reduceSub, e0, e6, e3, hd, hi', hb, hget, h0, hcv, hadd, i_rem, z128, h7, h70, hsh, hor, hb1, hz, hm, hf2, SQ_pan, pz_fail, fr_fail]
            exact hbadfin (by unfold mostN; simp only [decide_eq_true_eq] at hm; omega)
        · have hz' : b.toNat = 0 := by simp only [beq_iff_eq] at hz; omega
          cases hj0 : decide ((j : Int) > 0)
          · cases hm : decide (((acc + b.toNat % 128 * 128 ^ j : Nat) : Int) > 2147483647)
            · simp only [↓wpre, wset, wcore, ne_eq, if_true, if_false, exists_eq_left', true_implies, false_implies, exists_const, exists_eq_right, binA, intA, loadA, storeA, pickC, setAt, mapO, argsE, X.isC, resA, oneA, unA, boundA, eqiA, eqsA, fillA, fillE, ASt.fz, strA, Nat.reduceEqDiff, Nat.reduceLT, ↓reduceIte, reduceCtorEq, Nat.reduceAdd, Nat.reduceLeDiff, Int.reduceBEq, Int.reduceBNe, Int.reduceLT, Int.reduceLE, Int.reduceGT, Int.reduceGE, Nat.reduceDiv, Nat.reduceMul, Nat.reduceBEq, Nat.reduceMod, Nat.reduceSub, e0, e6, e3, hd, hi', hb, hget, h0, hcv, hadd, i_rem, z128, h7, h70, hsh, hor, hb1, hz, hm, hj0]
              exact hfin (by unfold mostN; simp only [decide_eq_false_iff_not] at hm hj0; omega)
            · simp only [↓wpre, wset, wcore, ne_eq, if_true, if_false, exists_eq_left', true_implies, false_implies, exists_const, exists_eq_right, binA, intA, loadA, storeA, pickC, setAt, mapO, argsE, X.isC, resA, oneA, unA, boundA, eqiA, eqsA, fillA, fillE, ASt.fz, strA, Nat.reduceEqDiff, Nat.reduceLT, ↓reduceIte, reduceCtorEq, Nat.reduceAdd, Nat.reduceLeDiff, Int.reduceBEq, Int.reduceBNe, Int.reduceLT, Int.reduceLE, Int.reduceGT, Int.reduceGE, Nat.reduceDiv, Nat.reduceMul, Nat.reduceBEq, Nat.reduceMod, Nat.reduceSub, e0, e6, e3, hd, hi', hb, hget, h0, hcv, hadd, i_rem, z128, h7, h70, hsh, hor, hb1, hz, hm, hj0, hf2, SQ_pan, pz_fail, fr_fail]
              exact hbadfin (by unfold mostN; simp only [decide_eq_true_eq] at hm; omega)
          · simp only [↓wpre, wset, wcore, ne_eq, if_true, if_false, exists_eq_left', true_implies, false_implies, exists_const, exists_eq_right, binA, intA, loadA, storeA, pickC, setAt, mapO, argsE, X.isC, resA, oneA, unA, boundA, eqiA, eqsA, fillA, fillE, ASt.fz, strA, Nat.reduceEqDiff, Nat.reduceLT, ↓reduceIte, reduceCtorEq, Nat.reduceAdd, Nat.reduceLeDiff, Int.reduceBEq, Int.reduceBNe, Int.reduceLT, Int.reduceLE, Int.reduceGT, Int.reduceGE, Nat.reduceDiv, Nat.reduceMul, Nat.reduceBEq, Nat.reduceMod, Nat.reduceSub, e0, e6, e3, hd, hi', hb, hget, h0, hcv, hadd, i_rem, z128, h7, h70, hsh, hor, hb1, hz, hj0, hf2, SQ_pan, pz_fail, fr_fail]
            exact hbadfin (by simp only [decide_eq_true_eq] at hj0; omega)
    · have hlt2 : ¬ p + j < s.size := by simp only [decide_eq_true_eq] at hb; omega
      have hd0 : s.toList.drop (p + j) = [] := List.drop_eq_nil_of_le (by rw [toList_len]; omega)
      rw [hd0, h5, rdN] at hn
      simp only [↓wpre, wset, wcore, ne_eq, if_true, if_false, exists_eq_left', true_implies, false_implies, exists_const, exists_eq_right, binA, intA, loadA, storeA, pickC, setAt, mapO, argsE, X.isC, resA, oneA, unA, boundA, eqiA, eqsA, fillA, fillE, ASt.fz, strA, Nat.reduceEqDiff, Nat.reduceLT, ↓reduceIte, reduceCtorEq, Nat.reduceAdd, Nat.reduceLeDiff, Int.reduceBEq, Int.reduceBNe, Int.reduceLT, Int.reduceLE, Int.reduceGT, Int.reduceGE, Nat.reduceDiv, Nat.reduceMul, Nat.reduceBEq, Nat.reduceMod, Nat.reduceSub, e0, e6, e3, hd, hi', hb, hf, SQ_pan, pz_fail, fr_fail]
      exact ⟨by simpa using hn, hend _ hi' hpj⟩
  · have hd : decide ((j : Int) < 5) = false := by simp; omega
    have hj5 : j = 5 := by omega
    subst hj5
    obtain ⟨_, _, ⟨rfl, rfl⟩, hf⟩ := (fail_sh (.ptr i 0) ⟨H', T'⟩).callPan rfl
    simp only [↓wpre, wset, wcore, ne_eq, if_true, if_false, exists_eq_left', true_implies, false_implies, exists_const, exists_eq_right, binA, intA, loadA, storeA, pickC, setAt, mapO, argsE, X.isC, resA, oneA, unA, boundA, eqiA, eqsA, fillA, fillE, ASt.fz, strA, Nat.reduceEqDiff, Nat.reduceLT, ↓reduceIte, reduceCtorEq, Nat.reduceAdd, Nat.reduceLeDiff, Int.reduceBEq, Int.reduceBNe, Int.reduceLT, Int.reduceLE, Int.reduceGT, Int.reduceGE, Nat.reduceDiv, Nat.reduceMul, Nat.reduceBEq, Nat.reduceMod, Nat.reduceSub, e0, e6, e3, hd, hf, SQ_pan, pz_fail, fr_fail]
    exact ⟨by rw [hn]; rfl, p + 5, by rw [← hset]; exact congrArg (ASt.mk · T') (set_self hi').symm, hpj⟩
end Go.Proofs.Eng
