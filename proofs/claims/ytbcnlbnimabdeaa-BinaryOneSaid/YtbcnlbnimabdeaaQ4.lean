/- Strings: put and got. No conditions beyond those in the theorems. -/
import Derived.Test.YtbcnlbnimabdeaaQ3
set_option linter.all false
set_option linter.deprecated false
set_option linter.unnecessarySimpa false
set_option linter.unusedVariables false
set_option linter.unusedSimpArgs false
set_option linter.defProp false
namespace Go.Proofs.Eng
open Go Go.Proofs
set_option maxRecDepth 100000
set_option maxHeartbeats 4000000
theorem extract_str (s : ByteArray) {l h : Nat} (hlh : l ≤ h) (hh : h ≤ s.size) : s.extract l h = strOf ((s.toList.drop l).take (h - l)) := by
  apply ByteArray.ext
  rw [ByteArray.data_extract]
  apply Array.ext'
  rw [Array.toList_extract]
  simp only [strOf, ByteArray.toList_eq, List.extract_eq_take_drop]
/-- Reading a string: the string; how many bytes were read. -/
def getS (s : List UInt8) : Option (List UInt8 × Nat) := (getN s).bind fun x => if x.1 > 65536 ∨ x.1 > s.length - x.2 then none else some ((s.drop x.2).take x.1, x.2 + x.1)
theorem getN_le {s : ByteArray} {p n k : Nat} (h : getN (s.toList.drop p) = some (n, k)) (hp : p ≤ s.size) : n ≤ mostN ∧ p + k ≤ s.size := by
  have h1 := getN_one h
  have h2 := h1.2.1
  rw [List.length_drop, toList_len] at h2
  exact ⟨h1.1, by omega⟩
theorem text_sh {i : Nat} {s : ByteArray} {p : Nat} {H : List AObj} {T : List Nat} (hi : H[i]? = some (rdr s p)) (hp : p ≤ s.size) (hs : s.size ≤ capB) :
    Sh md pfs 49 [.ptr i 0] ⟨H, T⟩ (fun v s' => ∃ a k, getS (s.toList.drop p) = some (a, k) ∧ p + k ≤ s.size ∧ v = .str (strOf a) ∧ s' = ⟨H.set i (rdr s (p + k)), T⟩) (fun v s' => getS (s.toList.drop p) = none ∧ v = failV ∧ ∃ k, s' = ⟨H.set i (rdr s k), T⟩ ∧ k ≤ s.size) := by
  refine sh_of pf49_is (Nat.le_of_ble_eq_true rfl) ?_
  rcases (number_sh hi hp hs (T := T)).call rfl with ⟨_, _, ⟨n, k, h1, rfl, rfl⟩, hc⟩ | ⟨_, _, ⟨h1, rfl, k, rfl, hk⟩, hc⟩
  · obtain ⟨hn, hpk⟩ := getN_le h1 hp
    have hi2 : ∀ x, (H.set i x)[i]? = some x := fun x => get_set hi
    have hset : ∀ x y, (H.set i x).set i y = H.set i y := fun x y => by rw [List.set_set]
    obtain ⟨_, _, ⟨rfl, rfl⟩, hf⟩ := (fail_sh (.ptr i 0) ⟨H.set i (rdr s (p + k)), T⟩).callPan rfl
    have hsub : IntKind.i64.wrap ((s.size : Int) - ((p + k : Nat) : Int)) = ((s.size - (p + k) : Nat) : Int) := by rw [wrap_in (by unfold in64; unfold capB at hs; omega)]; omega
    have hlen : (s.toList.drop p).length - k = s.size - (p + k) := by rw [List.length_drop, toList_len]; omega
    have hS : getS (s.toList.drop p) = if n > 65536 ∨ n > s.size - (p + k) then none else some (((s.toList.drop p).drop k).take n, k + n) := by rw [getS, h1]; simp only [Option.bind_some, hlen]
    unfold rdr at hc hf hi2
    cases b1 : decide ((n : Int) > 65536)
    · cases b2 : decide ((n : Int) > ((s.size - (p + k) : Nat) : Int))
      · have hadd : IntKind.i64.wrap (((p + k : Nat) : Int) + (n : Int)) = ((p + k + n : Nat) : Int) := by
          simp only [decide_eq_false_iff_not] at b2
          rw [wrap_in (by unfold in64; unfold capB at hs; omega)]; omega
        have hsb : IntKind.i64.wrap (((p + k + n : Nat) : Int) - (n : Int)) = ((p + k : Nat) : Int) := by
          simp only [decide_eq_false_iff_not] at b2
          rw [wrap_in (by unfold in64; unfold capB at hs; omega)]; omega
        simp only [decide_eq_false_iff_not] at b1 b2
        have b1' : decide ((n : Int) > 65536) = false := by simpa using b1
        have b2' : decide ((n : Int) > ((s.size - (p + k) : Nat) : Int)) = false := by simpa using b2
        have hb3 : (((p + k : Nat) : Int) ≤ (s.size : Int)) = True := eq_true (by omega)
        have hb4 : (((p + k + n : Nat) : Int) ≤ (s.size : Int)) = True := eq_true (by omega)
        have hb5 : (p + k ≤ p + k + n) = True := eq_true (by omega)
        have hex := extract_str s (l := p + k) (h := p + k + n) (by omega) (by omega)
        simp only [pf49, ↓wpre, wset, wcore, ne_eq, if_true, if_false, exists_eq_left', true_implies, false_implies, exists_const, exists_eq_right, binA, intA, loadA, storeA, pickC, setAt, mapO, argsE, X.isC, resA, oneA, unA, boundA, eqiA, eqsA, fillA, fillE, ASt.fz, strA, Nat.reduceEqDiff, Nat.reduceLT, ↓reduceIte, reduceCtorEq, Nat.reduceAdd, Nat.reduceLeDiff, Int.reduceBEq, Int.reduceBNe, Int.reduceLT, Int.reduceLE, Int.reduceGT, Int.reduceGE, Nat.reduceDiv, Nat.reduceMul, Nat.reduceBEq, Nat.reduceMod, Nat.reduceSub, hc, hi2, hset, hsub, b1', b2', hadd, hsb, hb3, hb4, hb5, hex]
        refine ⟨_, _, by rw [hS, if_neg (by omega)], by omega, ?_, ?_⟩
        · rw [List.drop_drop, Nat.add_sub_cancel_left]
        · rw [Nat.add_assoc]; rfl
      · simp only [pf49, ↓wpre, wset, wcore, ne_eq, if_true, if_false, exists_eq_left', true_implies, false_implies, exists_const, exists_eq_right, binA, intA, loadA, storeA, pickC, setAt, mapO, argsE, X.isC, resA, oneA, unA, boundA, eqiA, eqsA, fillA, fillE, ASt.fz, strA, Nat.reduceEqDiff, Nat.reduceLT, ↓reduceIte, reduceCtorEq, Nat.reduceAdd, Nat.reduceLeDiff, Int.reduceBEq, Int.reduceBNe, Int.reduceLT, Int.reduceLE, Int.reduceGT, Int.reduceGE, Nat.reduceDiv, Nat.reduceMul, Nat.reduceBEq, Nat.reduceMod, Nat.reduceSub, hc, hi2, hset, hsub, b1, b2, hf, SQ_pan, pz_fail, fr_fail]
        exact ⟨by rw [hS, if_pos (.inr (by simp only [decide_eq_true_eq] at b2; omega))], _, rfl, hpk⟩
    · simp only [pf49, ↓wpre, wset, wcore, ne_eq, if_true, if_false, exists_eq_left', true_implies, false_implies, exists_const, exists_eq_right, binA, intA, loadA, storeA, pickC, setAt, mapO, argsE, X.isC, resA, oneA, unA, boundA, eqiA, eqsA, fillA, fillE, ASt.fz, strA, Nat.reduceEqDiff, Nat.reduceLT, ↓reduceIte, reduceCtorEq, Nat.reduceAdd, Nat.reduceLeDiff, Int.reduceBEq, Int.reduceBNe, Int.reduceLT, Int.reduceLE, Int.reduceGT, Int.reduceGE, Nat.reduceDiv, Nat.reduceMul, Nat.reduceBEq, Nat.reduceMod, Nat.reduceSub, hc, hi2, hset, hsub, b1, hf, SQ_pan, pz_fail, fr_fail]
      exact ⟨by rw [hS, if_pos (.inl (by simp only [decide_eq_true_eq] at b1; omega))], _, rfl, hpk⟩
  · simp only [pf49, ↓wpre, wset, wcore, ne_eq, if_true, if_false, exists_eq_left', true_implies, false_implies, exists_const, exists_eq_right, binA, intA, loadA, storeA, pickC, setAt, mapO, argsE, X.isC, resA, oneA, unA, boundA, eqiA, eqsA, fillA, fillE, ASt.fz, strA, Nat.reduceEqDiff, Nat.reduceLT, ↓reduceIte, reduceCtorEq, Nat.reduceAdd, Nat.reduceLeDiff, Int.reduceBEq, Int.reduceBNe, Int.reduceLT, Int.reduceLE, Int.reduceGT, Int.reduceGE, Nat.reduceDiv, Nat.reduceMul, Nat.reduceBEq, Nat.reduceMod, Nat.reduceSub, hc, SQ_pan, pz_fail, fr_fail]
    exact ⟨by rw [getS, h1]; rfl, k, rfl, hk⟩
abbrev c0s : AObj := .cells false [.str ⟨#[]⟩]
theorem getString1_sh {s : ByteArray} {r o : Nat} {H : List AObj} {T : List Nat} (hr : H[r]? = some (rdr s 0)) (ho : H[o]? = some c0s) (hro : r ≠ o) (hs : s.size ≤ capB) :
    Sh md pfs 48 [.ptr r 0, .ptr o 0] ⟨H, T⟩ (fun _ s' => ∃ a k, getS s.toList = some (a, k) ∧ s' = ⟨(H.set r (rdr s k)).set o (.cells false [.str (strOf a)]), T⟩) (fun v s' => getS s.toList = none ∧ v = failV ∧ ∃ k, s' = ⟨H.set r (rdr s k), T⟩) := by
  refine sh_of pf48_is (Nat.le_of_ble_eq_true rfl) ?_
  rcases (text_sh hr (Nat.zero_le _) hs (T := T)).call rfl with ⟨_, _, ⟨a, k, h1, _, rfl, rfl⟩, hc⟩ | ⟨_, _, ⟨h1, rfl, k, rfl, _⟩, hc⟩
  · rw [List.drop_zero] at h1
    have ho2 : ∀ x, (H.set r x)[o]? = some c0s := fun x => by rw [List.getElem?_set_ne hro]; exact ho
    simp only [pf48, ↓wpre, wset, wcore, ne_eq, if_true, if_false, exists_eq_left', true_implies, false_implies, exists_const, exists_eq_right, binA, intA, loadA, storeA, pickC, setAt, mapO, argsE, X.isC, resA, oneA, unA, boundA, eqiA, eqsA, fillA, fillE, ASt.fz, strA, Nat.reduceEqDiff, Nat.reduceLT, ↓reduceIte, reduceCtorEq, Nat.reduceAdd, Nat.reduceLeDiff, Int.reduceBEq, Int.reduceBNe, Int.reduceLT, Int.reduceLE, Int.reduceGT, Int.reduceGE, Nat.reduceDiv, Nat.reduceMul, Nat.reduceBEq, Nat.reduceMod, Nat.reduceSub, hc, ho2, Nat.zero_add]
    exact ⟨a, k, h1, rfl⟩
  · rw [List.drop_zero] at h1
    simp only [pf48, ↓wpre, wset, wcore, ne_eq, if_true, if_false, exists_eq_left', true_implies, false_implies, exists_const, exists_eq_right, binA, intA, loadA, storeA, pickC, setAt, mapO, argsE, X.isC, resA, oneA, unA, boundA, eqiA, eqsA, fillA, fillE, ASt.fz, strA, Nat.reduceEqDiff, Nat.reduceLT, ↓reduceIte, reduceCtorEq, Nat.reduceAdd, Nat.reduceLeDiff, Int.reduceBEq, Int.reduceBNe, Int.reduceLT, Int.reduceLE, Int.reduceGT, Int.reduceGE, Nat.reduceDiv, Nat.reduceMul, Nat.reduceBEq, Nat.reduceMod, Nat.reduceSub, hc, SQ_pan, pz_fail, fr_fail]
    exact ⟨h1, k, rfl⟩
/-- GetString's results. -/
def getStrR (s : ByteArray) : AV := match getS s.toList with
  | some (a, k) => .tup [.str (strOf a), .int (k : Nat), .int 0]
  | none => .tup [.str ⟨#[]⟩, .int 0, .int 28]
theorem GetString_ret {s : ByteArray} (hs : s.size ≤ capB) : Out md pfs 25 [.str s] (· = getStrR s) fun _ => False := by
  refine out_of pf25_is (Nat.le_of_ble_eq_true rfl) ?_
  have hsh := getString1_sh (s := s) (r := 3) (o := 0) (H := [c0s] ++ [c0, c0, rdr s 0]) (T := []) rfl rfl (by omega) hs
  obtain ⟨v, s2, ⟨s1, hs1, hs2⟩, hc⟩ := (read_sh (H0 := [c0s]) rfl hsh (by
    rintro v s1 ⟨n, k, h1, rfl⟩
    exact ⟨rfl, rfl, k, rfl⟩) (by
    rintro v s1 ⟨h1, rfl, k, rfl⟩
    exact ⟨rfl, rfl, rfl⟩)).callRet rfl
  have h0 := hs2 0 (by simp)
  obtain ⟨H2, T2⟩ := s2
  simp only at h0
  rcases hs1 with ⟨u, k', ⟨n, k, h1, rfl⟩, h3, rfl⟩ | ⟨⟨h1, _, k, rfl⟩, rfl⟩
  · have hk : k' = k := by
      have : some (rdr s k) = some (rdr s k') := h3
      simp [rdr] at this; omega
    subst hk
    have h0' : H2[0]? = some (.cells false [.str (strOf n)]) := h0
    simp only [pf25, ↓wpre, wset, wcore, ne_eq, if_true, if_false, exists_eq_left', true_implies, false_implies, exists_const, exists_eq_right, binA, intA, loadA, storeA, pickC, setAt, mapO, argsE, X.isC, resA, oneA, unA, boundA, eqiA, eqsA, fillA, fillE, ASt.fz, strA, Nat.reduceEqDiff, Nat.reduceLT, ↓reduceIte, reduceCtorEq, Nat.reduceAdd, Nat.reduceLeDiff, Int.reduceBEq, Int.reduceBNe, Int.reduceLT, Int.reduceLE, Int.reduceGT, Int.reduceGE, Nat.reduceDiv, Nat.reduceMul, Nat.reduceBEq, Nat.reduceMod, Nat.reduceSub, hc, h0']
    simp only [getStrR, h1]
  · simp only [pf25, ↓wpre, wset, wcore, ne_eq, if_true, if_false, exists_eq_left', true_implies, false_implies, exists_const, exists_eq_right, binA, intA, loadA, storeA, pickC, setAt, mapO, argsE, X.isC, resA, oneA, unA, boundA, eqiA, eqsA, fillA, fillE, ASt.fz, strA, Nat.reduceEqDiff, Nat.reduceLT, ↓reduceIte, reduceCtorEq, Nat.reduceAdd, Nat.reduceLeDiff, Int.reduceBEq, Int.reduceBNe, Int.reduceLT, Int.reduceLE, Int.reduceGT, Int.reduceGE, Nat.reduceDiv, Nat.reduceMul, Nat.reduceBEq, Nat.reduceMod, Nat.reduceSub, hc]
    simp only [getStrR, h1]
/-- PutString's results. -/
def putS (x : ByteArray) : List UInt8 × Int := if x.size > 65536 then ([], 5) else (encN x.size ++ x.toList, 0)
theorem PutString_ret (x : ByteArray) : Out md pfs 28 [.str x] (· = .tup [.str (strOf (putS x).1), .int (putS x).2]) fun _ => False := by
  refine out_of pf28_is (Nat.le_of_ble_eq_true rfl) ?_
  cases h1 : decide ((x.size : Int) > 65536)
  · have h1' : ¬ x.size > 65536 := by simp only [decide_eq_false_iff_not] at h1; omega
    obtain ⟨_, _, ⟨t', T', rfl, rfl, ha, ho⟩, hc⟩ := (appendNumber_rw (l := []) (n := x.size) (H := []) (T := []) (by unfold bigN; omega) (by unfold capB; simp) (app_start [])).call rfl
    rw [show bytes [] = [] from rfl, List.nil_append] at hc
    have hb := encN_big (n := x.size) (by unfold bigN; omega)
    have hsz : (ByteArray.mk (encN x.size).toArray).size + x.size ≤ 1073741824 := by rw [show (ByteArray.mk (encN x.size).toArray) = strOf (encN x.size) from rfl, strOf_size]; omega
    simp only [pf28, ↓wpre, wset, wcore, ne_eq, if_true, if_false, exists_eq_left', true_implies, false_implies, exists_const, exists_eq_right, binA, intA, loadA, storeA, pickC, setAt, mapO, argsE, X.isC, resA, oneA, unA, boundA, eqiA, eqsA, fillA, fillE, ASt.fz, strA, Nat.reduceEqDiff, Nat.reduceLT, ↓reduceIte, reduceCtorEq, Nat.reduceAdd, Nat.reduceLeDiff, Int.reduceBEq, Int.reduceBNe, Int.reduceLT, Int.reduceLE, Int.reduceGT, Int.reduceGE, Nat.reduceDiv, Nat.reduceMul, Nat.reduceBEq, Nat.reduceMod, Nat.reduceSub, h1, hc, elemsA_sl, bytesA_bytes, hsz]
    rw [putS, if_neg h1']
    show AV.tup [.str (strOf (encN x.size) ++ x), _] = _
    rw [← strOf_app, of_str]
  · simp only [pf28, ↓wpre, wset, wcore, ne_eq, if_true, if_false, exists_eq_left', true_implies, false_implies, exists_const, exists_eq_right, binA, intA, loadA, storeA, pickC, setAt, mapO, argsE, X.isC, resA, oneA, unA, boundA, eqiA, eqsA, fillA, fillE, ASt.fz, strA, Nat.reduceEqDiff, Nat.reduceLT, ↓reduceIte, reduceCtorEq, Nat.reduceAdd, Nat.reduceLeDiff, Int.reduceBEq, Int.reduceBNe, Int.reduceLT, Int.reduceLE, Int.reduceGT, Int.reduceGE, Nat.reduceDiv, Nat.reduceMul, Nat.reduceBEq, Nat.reduceMod, Nat.reduceSub, h1]
    rw [putS, if_pos (by simp only [decide_eq_true_eq] at h1; omega)]; rfl
end Go.Proofs.Eng
