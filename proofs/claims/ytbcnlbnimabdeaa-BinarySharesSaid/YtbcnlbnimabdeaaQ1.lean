/- Numbers: put. No conditions. -/
import Derived.Test.YtbcnlbnimabdeaaQ0
set_option linter.all false
set_option linter.deprecated false
set_option linter.unnecessarySimpa false
set_option linter.unusedVariables false
set_option linter.unusedSimpArgs false
set_option linter.defProp false
namespace Go.Proofs.Eng
open Go Go.Proofs
set_option maxRecDepth 100000
abbrev bigN : Nat := 4611686018427387904
theorem encN_big {n : Nat} (h : n < bigN) : (encN n).length ≤ 9 := encN_len 8 n (by unfold bigN at h; omega)
theorem bytes_snoc (l : List UInt8) {m : Nat} (h : m < 256) : bytes l ++ [AV.v (.int .u8 (m : Int))] = bytes (l ++ [UInt8.ofNat m]) := by
  simp only [bytes, List.map_append, List.map_cons, List.map_nil, byteA, u8_nat h]
theorem z128 : ((128 : Int) = 0) = False := by simp
/-- appendNumber: bytes are appended. -/
theorem appendNumber_rw {l : List UInt8} {n : Nat} (hn : n < bigN) (hl : l.length + 9 ≤ capB) {H : List AObj} {T : List Nat} {t : Tl} (h : App T (bytes l) t) :
    Rw 30 [.sl (bytes l) t, .int n] ⟨H, T⟩ fun v s => ∃ t' T', v = .sl (bytes (l ++ encN n)) t' ∧ s = ⟨H, T'⟩ ∧ App T' (bytes (l ++ encN n)) t' ∧ Oth T t T' t' := by
  refine rw_of pf30_is (Nat.le_of_ble_eq_true rfl) ?_
  have hb := encN_big hn
  simp only [pf30, ↓wpre, wset, wcore, ne_eq, if_true, if_false, exists_eq_left', true_implies, false_implies, exists_const, exists_eq_right, binA, intA, loadA, storeA, pickC, setAt, mapO, argsE, X.isC, resA, oneA, unA, boundA, eqiA, eqsA, fillA, fillE, ASt.fz, strA, Nat.reduceEqDiff, Nat.reduceLT, ↓reduceIte, reduceCtorEq, Nat.reduceAdd, Nat.reduceLeDiff, Int.reduceBEq, Int.reduceBNe, Int.reduceLT, Int.reduceLE, Int.reduceGT, Int.reduceGE, Nat.reduceDiv, Nat.reduceMul, Nat.reduceBEq, Nat.reduceMod, Nat.reduceSub]
  refine W_loopE (fun m => m) (fun m E H' T' => H' = H ∧ ∃ cur t', E 0 = .sl (bytes cur) t' ∧ E 1 = .int (m : Nat) ∧ m < bigN ∧ cur ++ encN m = l ++ encN n ∧ App T' (bytes cur) t' ∧ Oth T t T' t') ?_ n ⟨rfl, l, t, rfl, rfl, hn, rfl, h, .refl _ _⟩
  rintro m E H' T' ⟨rfl, cur, t', e0, e1, hm, hc, ha, ho⟩
  have hlen : cur.length + (encN m).length = l.length + (encN n).length := by simpa using congrArg List.length hc
  have hpos := encN_pos m
  have hal := bytes_all cur
  rcases Nat.lt_or_ge m 128 with hlt | hge
  · have hd : decide ((m : Int) ≥ 128) = false := by simp; omega
    have hw := u8wrap (n := m) (by omega)
    obtain ⟨t2, T2, f1, f2, f3⟩ := app_many (es := 1) (xs := [.v (.int .u8 m)]) ha (by rw [bytes_len]; simp; omega) hal rfl
    rw [bytes_snoc _ (by omega)] at f1 f2
    simp only [↓wpre, wset, wcore, ne_eq, if_true, if_false, exists_eq_left', true_implies, false_implies, exists_const, exists_eq_right, binA, intA, loadA, storeA, pickC, setAt, mapO, argsE, X.isC, resA, oneA, unA, boundA, eqiA, eqsA, fillA, fillE, ASt.fz, strA, Nat.reduceEqDiff, Nat.reduceLT, ↓reduceIte, reduceCtorEq, Nat.reduceAdd, Nat.reduceLeDiff, Int.reduceBEq, Int.reduceBNe, Int.reduceLT, Int.reduceLE, Int.reduceGT, Int.reduceGE, Nat.reduceDiv, Nat.reduceMul, Nat.reduceBEq, Nat.reduceMod, Nat.reduceSub, e0, e1, hd, hw, srcA_sl, f1, BQ_e', BQ_e, AQ_ret, AQ_normal]
    rw [encN_lt hlt] at hc
    rw [hc] at f2 ⊢
    exact ⟨_, _, rfl, rfl, f2, ho.trans f3⟩
  · have hd : decide ((m : Int) ≥ 128) = true := by simp; omega
    have hw := u8wrap (n := m % 128) (by omega)
    have hor := u8_or (m := m % 128) (by omega)
    have hdv := i_div (m := m) hm
    obtain ⟨t2, T2, f1, f2, f3⟩ := app_many (es := 1) (xs := [.v (.int .u8 ((m % 128 + 128 : Nat)))]) ha (by rw [bytes_len]; simp; omega) hal rfl
    rw [bytes_snoc _ (by omega)] at f1 f2
    simp only [↓wpre, wset, wcore, ne_eq, if_true, if_false, exists_eq_left', true_implies, false_implies, exists_const, exists_eq_right, binA, intA, loadA, storeA, pickC, setAt, mapO, argsE, X.isC, resA, oneA, unA, boundA, eqiA, eqsA, fillA, fillE, ASt.fz, strA, Nat.reduceEqDiff, Nat.reduceLT, ↓reduceIte, reduceCtorEq, Nat.reduceAdd, Nat.reduceLeDiff, Int.reduceBEq, Int.reduceBNe, Int.reduceLT, Int.reduceLE, Int.reduceGT, Int.reduceGE, Nat.reduceDiv, Nat.reduceMul, Nat.reduceBEq, Nat.reduceMod, Nat.reduceSub, e0, e1, hd, i_rem, hw, hor, hdv, z128, srcA_sl, f1, BQ_e', BQ_e, AQ_ret, AQ_normal]
    refine EQ_in ⟨m / 128, by omega, rfl, _, _, rfl, rfl, by omega, ?_, f2, ho.trans f3⟩
    rw [encN_ge hge] at hc
    simpa using hc

def strOf (l : List UInt8) : ByteArray := ⟨l.toArray⟩
theorem strOf_size (l : List UInt8) : (strOf l).size = l.length := by simp [strOf, ByteArray.size]
theorem strOf_toList (l : List UInt8) : (strOf l).toList = l := by rw [ByteArray.toList_eq]; simp [strOf]
theorem strOf_inj {a b : List UInt8} (h : strOf a = strOf b) : a = b := by rw [← strOf_toList a, h, strOf_toList]
theorem of_str (s : ByteArray) : strOf s.toList = s := by apply ByteArray.ext; rw [ByteArray.toList_eq]; simp [strOf]
end Go.Proofs.Eng
