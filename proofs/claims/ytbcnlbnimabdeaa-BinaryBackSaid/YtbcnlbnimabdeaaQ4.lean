/- Strings: put and got. No conditions beyond those in the theorems. -/
import Derived.Test.YtbcnlbnimabdeaaQ3
set_option linter.all false
set_option linter.deprecated false
set_option linter.unnecessarySimpa false
set_option linter.unusedVariables false
set_option linter.unusedSimpArgs false
set_option linter.defProp false
namespace Go.Proofs.Eng
open Go Go.Proofs
set_option maxRecDepth 100000
set_option maxHeartbeats 4000000
theorem app_toList (a b : ByteArray) : (a ++ b).toList = a.toList ++ b.toList := by
  have h : a ++ b = strOf (a.toList ++ b.toList) := by rw [← strOf_app, of_str, of_str]
  rw [h, strOf_toList]
theorem app_size (a b : ByteArray) : (a ++ b).size = a.size + b.size := by rw [← toList_len, app_toList, List.length_append, toList_len, toList_len]
theorem extract_str (s : ByteArray) {l h : Nat} (hlh : l ≤ h) (hh : h ≤ s.size) : s.extract l h = strOf ((s.toList.drop l).take (h - l)) := by
  apply ByteArray.ext
  rw [ByteArray.data_extract]
  apply Array.ext'
  rw [Array.toList_extract]
  simp only [strOf, ByteArray.toList_eq, List.extract_eq_take_drop]
/-- Reading a string: the string; how many bytes were read. -/
def getS (s : List UInt8) : Option (List UInt8 × Nat) := (getN s).bind fun x => if x.1 > 65536 ∨ x.1 > s.length - x.2 then none else some ((s.drop x.2).take x.1, x.2 + x.1)
theorem getN_le {s : ByteArray} {p n k : Nat} (h : getN (s.toList.drop p) = some (n, k)) (hp : p ≤ s.size) : n ≤ mostN ∧ p + k ≤ s.size := by
  have h1 := getN_one h
  have h2 := h1.2.1
  rw [List.length_drop, toList_len] at h2
  exact ⟨h1.1, by omega⟩
theorem text_sh {i : Nat} {s : ByteArray} {p : Nat} {H : List AObj} {T : List Nat} (hi : H[i]? = some (rdr s p)) (hp : p ≤ s.size) (hs : s.size ≤ capB) :
    Sh md pfs 49 [.ptr i 0] ⟨H, T⟩ (fun v s' => ∃ a k, getS (s.toList.drop p) = some (a, k) ∧ p + k ≤ s.size ∧ v = .str (strOf a) ∧ s' = ⟨H.set i (rdr s (p + k)), T⟩) (fun v s' => getS (s.toList.drop p) = none ∧ v = failV ∧ ∃ k, s' = ⟨H.set i (rdr s k), T⟩ ∧ k ≤ s.size) := by
  refine sh_of pf49_is (Nat.le_of_ble_eq_true rfl) ?_
  rcases (number_sh hi hp hs (T := T)).call rfl with ⟨_, _, ⟨n, k, h1, rfl, rfl⟩, hc⟩ | ⟨_, _, ⟨h1, rfl, k, rfl, hk⟩, hc⟩
  · obtain ⟨hn, hpk⟩ := getN_le h1 hp
    have hi2 : ∀ x, (H.set i x)[i]? = some x := fun x => get_set hi
    have hset : ∀ x y, (H.set i x).set i y = H.set i y := fun x y => by rw [List.set_set]
    obtain ⟨_, _, ⟨rfl, rfl⟩, hf⟩ := (fail_sh (.ptr i 0) ⟨H.set i (rdr s (p + k)), T⟩).callPan rfl
    have hsub : IntKind.i64.wrap ((s.size : Int) - ((p + k : Nat) : Int)) = ((s.size - (p + k) : Nat) : Int) := by rw [wrap_in (by unfold in64; unfold capB at hs; omega)]; omega
    have hlen : (s.toList.drop p).length - k = s.size - (p + k) := by rw [List.length_drop, toList_len]; omega
    have hS : getS (s.toList.drop p) = if n > 65536 ∨ n > s.size - (p + k) then none else some (((s.toList.drop p).drop k).take n, k + n) := by rw [getS, h1]; simp only [Option.bind_some, hlen]
    unfold rdr at hc hf hi2
    cases b1 : decide ((n : Int) > 65536)
    · cases b2 : decide ((n : Int) > ((s.size - (p + k) : Nat) : Int))
      · have hadd : IntKind.i64.wrap (((p + k : Nat) : Int) + (n : Int)) = ((p + k + n : Nat) : Int) := by
          simp only [decide_eq_false_iff_not] at b2
          rw [wrap_in (by unfold in64; unfold capB at hs; omega)]; omega
        have hsb : IntKind.i64.wrap (((p + k + n : Nat) : Int) - (n : Int)) = ((p + k : Nat) : Int) := by
          simp only [decide_eq_false_iff_not] at b2
          rw [wrap_in (by unfold in64; unfold capB at hs; omega)]; omega
        simp only [decide_eq_false_iff_not] at b1 b2
        have b1' : decide ((n : Int) > 65536) = false := by simpa using b1
        have b2' : decide ((n : Int) > ((s.size - (p + k) : Nat) : Int)) = false := by simpa using b2
        have hb3 : (((p + k : Nat) : Int) ≤ (s.size : Int)) = True := eq_true (by omega)
        have hb4 : (((p + k + n : Nat) : Int) ≤ (s.size : Int)) = True := eq_true (by omega)
        have hb5 : (p + k ≤ p + k + n) = True := eq_true (by omega)
        have hex := extract_str s (l := p + k) (h := p + k + n) (by omega) (by omega)
        simp only [pf49, ↓wpre, wset, wcore, ne_eq, if_true, if_false, exists_eq_left', true_implies, false_implies, exists_const, exists_eq_right, binA, intA, loadA, storeA, pickC, setAt, mapO, argsE, X.isC, resA, oneA, unA, boundA, eqiA, eqsA, fillA, fillE, ASt.fz, strA, Nat.reduceEqDiff, Nat.reduceLT, ↓reduceIte, reduceCtorEq, Nat.reduceAdd, Nat.reduceLeDiff, Int.reduceBEq, Int.reduceBNe, Int.reduceLT, Int.reduceLE, Int.reduceGT, Int.reduceGE, Nat.reduceDiv, Nat.reduceMul, Nat.reduceBEq, Nat.reduceMod, Nat.reduceSub, hc, hi2, hset, hsub, b1', b2', hadd, hsb, hb3, hb4, hb5, hex]
        refine ⟨_, _, by rw [hS, if_neg (by omega)], by omega, ?_, ?_⟩
        · rw [List.drop_drop, Nat.add_sub_cancel_left]
        · rw [Nat.add_assoc]; rfl
      · simp only [pf49, ↓wpre, wset, wcore, ne_eq, if_true, if_false, exists_eq_left', true_implies, false_implies, exists_const, exists_eq_right, binA, intA, loadA, storeA, pickC, setAt, mapO, argsE, X.isC, resA, oneA, unA, boundA, eqiA, eqsA, fillA, fillE, ASt.fz, strA, Nat.reduceEqDiff, Nat.reduceLT, ↓reduceIte, reduceCtorEq, Nat.reduceAdd, Nat.reduceLeDiff, Int.reduceBEq, Int.reduceBNe, Int.reduceLT, Int.reduceLE, Int.reduceGT, Int.reduceGE, Nat.reduceDiv, Nat.reduceMul, Nat.reduceBEq, Nat.reduceMod, Nat.reduceSub, hc, hi2, hset, hsub, b1, b2, hf, SQ_pan, pz_fail, fr_fail]
        exact ⟨by rw [hS, if_pos (.inr (by simp only [decide_eq_true_eq] at b2; omega))], _, rfl, hpk⟩
    · simp only [pf49, ↓wpre, wset, wcore, ne_eq, if_true, if_false, exists_eq_left', true_implies, false_implies, exists_const, exists_eq_right, binA, intA, loadA, storeA, pickC, setAt, mapO, argsE, X.isC, resA, oneA, unA, boundA, eqiA, eqsA, fillA, fillE, ASt.fz, strA, Nat.reduceEqDiff, Nat.reduceLT, ↓reduceIte, reduceCtorEq, Nat.reduceAdd, Nat.reduceLeDiff, Int.reduceBEq, Int.reduceBNe, Int.reduceLT, Int.reduceLE, Int.reduceGT, Int.reduceGE, Nat.reduceDiv, Nat.reduceMul, Nat.reduceBEq, Nat.reduceMod, Nat.reduceSub, hc, hi2, hset, hsub, b1, hf, SQ_pan, pz_fail, fr_fail]
      exact ⟨by rw [hS, if_pos (.inl (by simp only [decide_eq_true_eq] at b1; omega))], _, rfl, hpk⟩
  · simp only [pf49, ↓wpre, wset, wcore, ne_eq, if_true, if_false, exists_eq_left', true_implies, false_implies, exists_const, exists_eq_right, binA, intA, loadA, storeA, pickC, setAt, mapO, argsE, X.isC, resA, oneA, unA, boundA, eqiA, eqsA, fillA, fillE, ASt.fz, strA, Nat.reduceEqDiff, Nat.reduceLT, ↓reduceIte, reduceCtorEq, Nat.reduceAdd, Nat.reduceLeDiff, Int.reduceBEq, Int.reduceBNe, Int.reduceLT, Int.reduceLE, Int.reduceGT, Int.reduceGE, Nat.reduceDiv, Nat.reduceMul, Nat.reduceBEq, Nat.reduceMod, Nat.reduceSub, hc, SQ_pan, pz_fail, fr_fail]
    exact ⟨by rw [getS, h1]; rfl, k, rfl, hk⟩
end Go.Proofs.Eng
