/- The reference's encoding of an entry. No conditions beyond those in the theorems. -/
import Derived.Test.YtbcnlbnimabdeaaT9
set_option linter.all false
set_option linter.deprecated false
set_option linter.unnecessarySimpa false
set_option linter.unusedVariables false
set_option linter.unusedSimpArgs false
set_option linter.defProp false
namespace Go.Proofs.Eng
open Go Go.Proofs
set_option maxRecDepth 100000
set_option maxHeartbeats 8000000
theorem rentry_ret {Tb : List Tm} {e : Tm} {al : List AV} {t : Tl} {a : AV} (hT : LIs Tm.Is Tb al) (ht : t.pure = true) (hl : al.length ≤ capB) (h : e.Is a) (hr : e.right = true) (hk : ∀ x ∈ e.kids, x ∈ Tb) (hsz : (entryT (fun x => Tb.idxOf x) e).length ≤ 1073741824) :
    Out md pfs 40 [.sl al t, a] (· = .str (strOf (entryT (fun x => Tb.idxOf x) e))) fun _ => False := by
  obtain ⟨hf, hv, hl8, hn6, hi⟩ := right_facts hr
  obtain ⟨k, i, n, ls, kids⟩ := e
  obtain ⟨nl, rfl⟩ : ∃ nl, n = strOf nl := ⟨n.toList, (of_str n).symm⟩
  have hpu := tmPure _ h
  obtain ⟨t1, t2, las, kas, rfl, g1, g2, g3, g4, g5, g6, g7, g8, g9⟩ := h.opn
  have hl1 := g8.len
  have hl2 := g9.len
  have hTl := hT.len
  have hap := tmsPure hT
  obtain ⟨_, hrk, r3, r4, r5, r6, r7, r8⟩ := (right_iff k i (strOf nl) ls kids).1 hr
  obtain ⟨hk0, hk12⟩ := kidsN_range (k := k) (by omega)
  obtain ⟨kn, rfl⟩ : ∃ kn : Nat, k = kn := ⟨k.toNat, by omega⟩
  obtain ⟨_, rfl, k1⟩ := (rnum_ret (n := kn) (by omega)).call rfl (by simp [pvs_cons, pvs_nil, pv_v])
  have hall := g8.all lvAgg
  have hallk := g9.all tmAgg
  have hE : entryT (fun x => Tb.idxOf x) (.mk kn i (strOf nl) ls kids) = encN kn ++ ((Tm.mk kn i (strOf nl) ls kids).pay ++ kids.flatMap fun x => encN (Tb.idxOf x)) := rfl
  have hlen : (entryT (fun x => Tb.idxOf x) (.mk kn i (strOf nl) ls kids)).length = (encN kn).length + ((Tm.mk kn i (strOf nl) ls kids).pay.length + (kids.flatMap fun x => encN (Tb.idxOf x)).length) := by rw [hE]; simp only [List.length_append]
  refine out_of pf40_is (Nat.le_of_ble_eq_true rfl) ?_
  by_cases h0 : kn = 0
  · have hii := r7 (by omega)
    obtain ⟨m, rfl⟩ : ∃ m : Nat, i = m := ⟨i.toNat, by omega⟩
    have hpay : (Tm.mk kn (m : Int) (strOf nl) ls kids).pay = encN m := by
      show (if (kn : Int) = 0 ∨ (kn : Int) = 12 then encN (m : Int).toNat else _) = _
      rw [if_pos (by omega)]; rfl
    have hpl := congrArg List.length hpay
    obtain ⟨_, rfl, k2⟩ := (rnum_ret (n := m) (by omega)).call rfl (by simp [pvs_cons, pvs_nil, pv_v])
    have s1 : (strOf (encN kn)).size + (strOf (encN m)).size ≤ 1073741824 := by rw [strOf_size, strOf_size]; omega
    have q0 : ((kn : Int) == 0) = true := by simp; omega
    simp only [pf40, ↓wpre, wset, wcore, ne_eq, if_true, if_false, exists_eq_left', true_implies, false_implies, exists_const, exists_eq_right, binA, intA, loadA, storeA, pickC, setAt, mapO, argsE, X.isC, resA, oneA, unA, boundA, eqiA, eqsA, fillA, fillE, ASt.fz, strA, Nat.reduceEqDiff, Nat.reduceLT, ↓reduceIte, reduceCtorEq, Nat.reduceAdd, Nat.reduceLeDiff, Int.reduceBEq, Int.reduceBNe, Int.reduceLT, Int.reduceLE, Int.reduceGT, Int.reduceGE, Nat.reduceDiv, Nat.reduceMul, Nat.reduceBEq, Nat.reduceMod, Nat.reduceSub, q0, k1, k2, s1, strOf_app]
    refine W_loopE (fun j => kas.length - j) (fun j E H T => ∃ cur, H = [.cells false [.int kn, .int (m : Int), .str (strOf nl), .sl las t1, .sl kas t2]] ∧ E 0 = .sl al t ∧ E 3 = .ptr 0 0 ∧ E 5 = .str (strOf cur) ∧ E 7 = .int (j : Nat) ∧ j ≤ kas.length ∧ cur = encN kn ++ ((Tm.mk kn (m : Int) (strOf nl) ls kids).pay ++ (kids.take j).flatMap fun x => encN (Tb.idxOf x))) ?_ 0 ⟨_, rfl, rfl, rfl, rfl, rfl, Nat.zero_le _, by rw [hpay]; simp⟩
    rintro j E H T ⟨cur, rfl, e0, e3, e5, e7, hj, hcur⟩
    rcases Nat.lt_or_ge j kas.length with hlt | hge
    · have hdec : decide ((j : Int) < kas.length) = true := by simpa using hlt
      obtain ⟨x, c, d0, d1, d3, d4, d5, d6, d7, d8⟩ := g9.get tmAgg hlt
      have hxm := hk x d3
      have hfl := flat_le (f := fun x => encN (Tb.idxOf x)) d0
      have hlc : cur.length = (encN kn).length + ((Tm.mk kn (m : Int) (strOf nl) ls kids).pay.length + ((kids.take j).flatMap fun x => encN (Tb.idxOf x)).length) := by rw [hcur]; simp only [List.length_append]
      have hpos : posT Tb x = ((Tb.idxOf x : Nat) : Int) := by rw [posT, if_pos hxm]
      have hix : Tb.idxOf x < Tb.length := List.idxOf_lt_length_of_mem hxm
      obtain ⟨_, rfl, c4⟩ := (position_ret hT ht (by unfold lenB; unfold capB at hl; omega) d8).call rfl (by simp [pvs_cons, pvs_nil, pv_sl, hap, ht, tmPure _ d8])
      rw [hpos] at c4
      obtain ⟨_, rfl, c5⟩ := (rnum_ret (n := Tb.idxOf x) (by unfold capB at hl; omega)).call rfl (by simp [pvs_cons, pvs_nil, pv_v])
      have s9 : (strOf cur).size + (strOf (encN (Tb.idxOf x))).size ≤ 1073741824 := by rw [strOf_size, strOf_size]; omega
      simp only [↓wpre, wset, wcore, ne_eq, if_true, if_false, exists_eq_left', true_implies, false_implies, exists_const, exists_eq_right, binA, intA, loadA, storeA, pickC, setAt, mapO, argsE, X.isC, resA, oneA, unA, boundA, eqiA, eqsA, fillA, fillE, ASt.fz, strA, Nat.reduceEqDiff, Nat.reduceLT, ↓reduceIte, reduceCtorEq, Nat.reduceAdd, Nat.reduceLeDiff, Int.reduceBEq, Int.reduceBNe, Int.reduceLT, Int.reduceLE, Int.reduceGT, Int.reduceGE, Nat.reduceDiv, Nat.reduceMul, Nat.reduceBEq, Nat.reduceMod, Nat.reduceSub, e0, e3, e5, e7, hdec, d4, d5, d6, hallk, c4, c5, s9, strOf_app]
      exact EQ_in ⟨j + 1, by omega, _, rfl, e0, e3, rfl, next_ixv (by unfold lenB at *; omega), by omega, by rw [flat_step d0, hcur]; simp only [List.append_assoc]⟩
    · have hdec : decide ((j : Int) < kas.length) = false := by simpa using hge
      rw [List.take_of_length_le (by omega)] at hcur
      rw [← hE] at hcur
      subst hcur
      simp only [↓wpre, wset, wcore, ne_eq, if_true, if_false, exists_eq_left', true_implies, false_implies, exists_const, exists_eq_right, binA, intA, loadA, storeA, pickC, setAt, mapO, argsE, X.isC, resA, oneA, unA, boundA, eqiA, eqsA, fillA, fillE, ASt.fz, strA, Nat.reduceEqDiff, Nat.reduceLT, ↓reduceIte, reduceCtorEq, Nat.reduceAdd, Nat.reduceLeDiff, Int.reduceBEq, Int.reduceBNe, Int.reduceLT, Int.reduceLE, Int.reduceGT, Int.reduceGE, Nat.reduceDiv, Nat.reduceMul, Nat.reduceBEq, Nat.reduceMod, Nat.reduceSub, e0, e3, e5, e7, hdec]
  by_cases h12 : kn = 12
  · have hii := r7 (by omega)
    obtain ⟨m, rfl⟩ : ∃ m : Nat, i = m := ⟨i.toNat, by omega⟩
    have hpay : (Tm.mk kn (m : Int) (strOf nl) ls kids).pay = encN m := by
      show (if (kn : Int) = 0 ∨ (kn : Int) = 12 then encN (m : Int).toNat else _) = _
      rw [if_pos (by omega)]; rfl
    have hpl := congrArg List.length hpay
    obtain ⟨_, rfl, k2⟩ := (rnum_ret (n := m) (by omega)).call rfl (by simp [pvs_cons, pvs_nil, pv_v])
    have s1 : (strOf (encN kn)).size + (strOf (encN m)).size ≤ 1073741824 := by rw [strOf_size, strOf_size]; omega
    have q0 : ((kn : Int) == 0) = false := by simp only [beq_eq_false_iff_ne, ne_eq]; omega
    have q12 : ((kn : Int) == 12) = true := by simp; omega
    simp only [pf40, ↓wpre, wset, wcore, ne_eq, if_true, if_false, exists_eq_left', true_implies, false_implies, exists_const, exists_eq_right, binA, intA, loadA, storeA, pickC, setAt, mapO, argsE, X.isC, resA, oneA, unA, boundA, eqiA, eqsA, fillA, fillE, ASt.fz, strA, Nat.reduceEqDiff, Nat.reduceLT, ↓reduceIte, reduceCtorEq, Nat.reduceAdd, Nat.reduceLeDiff, Int.reduceBEq, Int.reduceBNe, Int.reduceLT, Int.reduceLE, Int.reduceGT, Int.reduceGE, Nat.reduceDiv, Nat.reduceMul, Nat.reduceBEq, Nat.reduceMod, Nat.reduceSub, q0, q12, k1, k2, s1, strOf_app]
    refine W_loopE (fun j => kas.length - j) (fun j E H T => ∃ cur, H = [.cells false [.int kn, .int (m : Int), .str (strOf nl), .sl las t1, .sl kas t2]] ∧ E 0 = .sl al t ∧ E 3 = .ptr 0 0 ∧ E 5 = .str (strOf cur) ∧ E 7 = .int (j : Nat) ∧ j ≤ kas.length ∧ cur = encN kn ++ ((Tm.mk kn (m : Int) (strOf nl) ls kids).pay ++ (kids.take j).flatMap fun x => encN (Tb.idxOf x))) ?_ 0 ⟨_, rfl, rfl, rfl, rfl, rfl, Nat.zero_le _, by rw [hpay]; simp⟩
    rintro j E H T ⟨cur, rfl, e0, e3, e5, e7, hj, hcur⟩
    rcases Nat.lt_or_ge j kas.length with hlt | hge
    · have hdec : decide ((j : Int) < kas.length) = true := by simpa using hlt
      obtain ⟨x, c, d0, d1, d3, d4, d5, d6, d7, d8⟩ := g9.get tmAgg hlt
      have hxm := hk x d3
      have hfl := flat_le (f := fun x => encN (Tb.idxOf x)) d0
      have hlc : cur.length = (encN kn).length + ((Tm.mk kn (m : Int) (strOf nl) ls kids).pay.length + ((kids.take j).flatMap fun x => encN (Tb.idxOf x)).length) := by rw [hcur]; simp only [List.length_append]
      have hpos : posT Tb x = ((Tb.idxOf x : Nat) : Int) := by rw [posT, if_pos hxm]
      have hix : Tb.idxOf x < Tb.length := List.idxOf_lt_length_of_mem hxm
      obtain ⟨_, rfl, c4⟩ := (position_ret hT ht (by unfold lenB; unfold capB at hl; omega) d8).call rfl (by simp [pvs_cons, pvs_nil, pv_sl, hap, ht, tmPure _ d8])
      rw [hpos] at c4
      obtain ⟨_, rfl, c5⟩ := (rnum_ret (n := Tb.idxOf x) (by unfold capB at hl; omega)).call rfl (by simp [pvs_cons, pvs_nil, pv_v])
      have s9 : (strOf cur).size + (strOf (encN (Tb.idxOf x))).size ≤ 1073741824 := by rw [strOf_size, strOf_size]; omega
      simp only [↓wpre, wset, wcore, ne_eq, if_true, if_false, exists_eq_left', true_implies, false_implies, exists_const, exists_eq_right, binA, intA, loadA, storeA, pickC, setAt, mapO, argsE, X.isC, resA, oneA, unA, boundA, eqiA, eqsA, fillA, fillE, ASt.fz, strA, Nat.reduceEqDiff, Nat.reduceLT, ↓reduceIte, reduceCtorEq, Nat.reduceAdd, Nat.reduceLeDiff, Int.reduceBEq, Int.reduceBNe, Int.reduceLT, Int.reduceLE, Int.reduceGT, Int.reduceGE, Nat.reduceDiv, Nat.reduceMul, Nat.reduceBEq, Nat.reduceMod, Nat.reduceSub, e0, e3, e5, e7, hdec, d4, d5, d6, hallk, c4, c5, s9, strOf_app]
      exact EQ_in ⟨j + 1, by omega, _, rfl, e0, e3, rfl, next_ixv (by unfold lenB at *; omega), by omega, by rw [flat_step d0, hcur]; simp only [List.append_assoc]⟩
    · have hdec : decide ((j : Int) < kas.length) = false := by simpa using hge
      rw [List.take_of_length_le (by omega)] at hcur
      rw [← hE] at hcur
      subst hcur
      simp only [↓wpre, wset, wcore, ne_eq, if_true, if_false, exists_eq_left', true_implies, false_implies, exists_const, exists_eq_right, binA, intA, loadA, storeA, pickC, setAt, mapO, argsE, X.isC, resA, oneA, unA, boundA, eqiA, eqsA, fillA, fillE, ASt.fz, strA, Nat.reduceEqDiff, Nat.reduceLT, ↓reduceIte, reduceCtorEq, Nat.reduceAdd, Nat.reduceLeDiff, Int.reduceBEq, Int.reduceBNe, Int.reduceLT, Int.reduceLE, Int.reduceGT, Int.reduceGE, Nat.reduceDiv, Nat.reduceMul, Nat.reduceBEq, Nat.reduceMod, Nat.reduceSub, e0, e3, e5, e7, hdec]
  by_cases h2 : kn = 2
  · have hls := r3 (by omega)
    obtain ⟨lv, rfl⟩ : ∃ lv, ls = [lv] := by
      match ls, hls with
      | [lv], _ => exact ⟨lv, rfl⟩
    have hpay : (Tm.mk kn i (strOf nl) [lv] kids).pay = encL lv := by
      show (if (kn : Int) = 0 ∨ (kn : Int) = 12 then encN i.toNat else if (kn : Int) = 2 then encL lv else _) = _
      rw [if_neg (by omega), if_pos (by omega)]
    have hpl := congrArg List.length hpay
    obtain ⟨x, c, d0, d1, d3, d4, d5, d6, d7, d8⟩ := g8.get lvAgg (i := 0) (by rw [hl1]; exact Nat.zero_lt_one)
    have hx : lv = x := Option.some.inj d0
    subst hx
    obtain ⟨_, rfl, k2⟩ := (rlevel_ret d8 (hv lv (List.mem_cons_self)) (by omega)).call rfl (by simp [pvs_cons, pvs_nil, lvPure d8])
    have s1 : (strOf (encN kn)).size + (strOf (encL lv)).size ≤ 1073741824 := by rw [strOf_size, strOf_size]; omega
    have q0 : ((kn : Int) == 0) = false := by simp only [beq_eq_false_iff_ne, ne_eq]; omega
    have q12 : ((kn : Int) == 12) = false := by simp only [beq_eq_false_iff_ne, ne_eq]; omega
    have q2 : ((kn : Int) == 2) = true := by simp; omega
    simp only [pf40, ↓wpre, wset, wcore, ne_eq, if_true, if_false, exists_eq_left', true_implies, false_implies, exists_const, exists_eq_right, binA, intA, loadA, storeA, pickC, setAt, mapO, argsE, X.isC, resA, oneA, unA, boundA, eqiA, eqsA, fillA, fillE, ASt.fz, strA, Nat.reduceEqDiff, Nat.reduceLT, ↓reduceIte, reduceCtorEq, Nat.reduceAdd, Nat.reduceLeDiff, Int.reduceBEq, Int.reduceBNe, Int.reduceLT, Int.reduceLE, Int.reduceGT, Int.reduceGE, Nat.reduceDiv, Nat.reduceMul, Nat.reduceBEq, Nat.reduceMod, Nat.reduceSub, q0, q12, q2, k1, k2, s1, strOf_app, d4, d5, d6, hall]
    refine W_loopE (fun j => kas.length - j) (fun j E H T => ∃ cur, H = [.cells false [.int kn, .int i, .str (strOf nl), .sl las t1, .sl kas t2]] ∧ E 0 = .sl al t ∧ E 3 = .ptr 0 0 ∧ E 5 = .str (strOf cur) ∧ E 7 = .int (j : Nat) ∧ j ≤ kas.length ∧ cur = encN kn ++ ((Tm.mk kn i (strOf nl) [lv] kids).pay ++ (kids.take j).flatMap fun x => encN (Tb.idxOf x))) ?_ 0 ⟨_, rfl, rfl, rfl, rfl, rfl, Nat.zero_le _, by rw [hpay]; simp⟩
    rintro j E H T ⟨cur, rfl, e0, e3, e5, e7, hj, hcur⟩
    rcases Nat.lt_or_ge j kas.length with hlt | hge
    · have hdec : decide ((j : Int) < kas.length) = true := by simpa using hlt
      obtain ⟨x, c, d0, d1, d3, d4, d5, d6, d7, d8⟩ := g9.get tmAgg hlt
      have hxm := hk x d3
      have hfl := flat_le (f := fun x => encN (Tb.idxOf x)) d0
      have hlc : cur.length = (encN kn).length + ((Tm.mk kn i (strOf nl) [lv] kids).pay.length + ((kids.take j).flatMap fun x => encN (Tb.idxOf x)).length) := by rw [hcur]; simp only [List.length_append]
      have hpos : posT Tb x = ((Tb.idxOf x : Nat) : Int) := by rw [posT, if_pos hxm]
      have hix : Tb.idxOf x < Tb.length := List.idxOf_lt_length_of_mem hxm
      obtain ⟨_, rfl, c4⟩ := (position_ret hT ht (by unfold lenB; unfold capB at hl; omega) d8).call rfl (by simp [pvs_cons, pvs_nil, pv_sl, hap, ht, tmPure _ d8])
      rw [hpos] at c4
      obtain ⟨_, rfl, c5⟩ := (rnum_ret (n := Tb.idxOf x) (by unfold capB at hl; omega)).call rfl (by simp [pvs_cons, pvs_nil, pv_v])
      have s9 : (strOf cur).size + (strOf (encN (Tb.idxOf x))).size ≤ 1073741824 := by rw [strOf_size, strOf_size]; omega
      simp only [↓wpre, wset, wcore, ne_eq, if_true, if_false, exists_eq_left', true_implies, false_implies, exists_const, exists_eq_right, binA, intA, loadA, storeA, pickC, setAt, mapO, argsE, X.isC, resA, oneA, unA, boundA, eqiA, eqsA, fillA, fillE, ASt.fz, strA, Nat.reduceEqDiff, Nat.reduceLT, ↓reduceIte, reduceCtorEq, Nat.reduceAdd, Nat.reduceLeDiff, Int.reduceBEq, Int.reduceBNe, Int.reduceLT, Int.reduceLE, Int.reduceGT, Int.reduceGE, Nat.reduceDiv, Nat.reduceMul, Nat.reduceBEq, Nat.reduceMod, Nat.reduceSub, e0, e3, e5, e7, hdec, d4, d5, d6, hallk, c4, c5, s9, strOf_app]
      exact EQ_in ⟨j + 1, by omega, _, rfl, e0, e3, rfl, next_ixv (by unfold lenB at *; omega), by omega, by rw [flat_step d0, hcur]; simp only [List.append_assoc]⟩
    · have hdec : decide ((j : Int) < kas.length) = false := by simpa using hge
      rw [List.take_of_length_le (by omega)] at hcur
      rw [← hE] at hcur
      subst hcur
      simp only [↓wpre, wset, wcore, ne_eq, if_true, if_false, exists_eq_left', true_implies, false_implies, exists_const, exists_eq_right, binA, intA, loadA, storeA, pickC, setAt, mapO, argsE, X.isC, resA, oneA, unA, boundA, eqiA, eqsA, fillA, fillE, ASt.fz, strA, Nat.reduceEqDiff, Nat.reduceLT, ↓reduceIte, reduceCtorEq, Nat.reduceAdd, Nat.reduceLeDiff, Int.reduceBEq, Int.reduceBNe, Int.reduceLT, Int.reduceLE, Int.reduceGT, Int.reduceGE, Nat.reduceDiv, Nat.reduceMul, Nat.reduceBEq, Nat.reduceMod, Nat.reduceSub, e0, e3, e5, e7, hdec]
  have q0 : ((kn : Int) == 0) = false := by simp only [beq_eq_false_iff_ne, ne_eq]; omega
  have q12 : ((kn : Int) == 12) = false := by simp only [beq_eq_false_iff_ne, ne_eq]; omega
  have q2 : ((kn : Int) == 2) = false := by simp only [beq_eq_false_iff_ne, ne_eq]; omega
  by_cases h3 : kn = 3
  · have hls := r4 (by omega)
    have hpay : (Tm.mk kn i (strOf nl) ls kids).pay = encN nl.length ++ (nl ++ (encN las.length ++ ls.flatMap encL)) := by
      show (if (kn : Int) = 0 ∨ (kn : Int) = 12 then encN i.toNat else if (kn : Int) = 2 then encL (ls.headD ⟨0, []⟩) else if (kn : Int) = 3 then encN (strOf nl).size ++ ((strOf nl).toList ++ (encN ls.length ++ ls.flatMap encL)) else []) = _
      rw [if_neg (by omega), if_neg (by omega), if_pos (by omega), strOf_size, strOf_toList, hl1]
    have hpl := congrArg List.length hpay
    simp only [List.length_append] at hpl
    replace hn6 : nl.length ≤ 65536 := by
      have : (strOf nl).size ≤ 65536 := hn6
      rwa [strOf_size] at this
    obtain ⟨_, rfl, k2⟩ := (rnum_ret (n := nl.length) (by omega)).call rfl (by simp [pvs_cons, pvs_nil, pv_v])
    obtain ⟨_, rfl, k3⟩ := (rnum_ret (n := las.length) (by omega)).call rfl (by simp [pvs_cons, pvs_nil, pv_v])
    have s1 : (strOf (encN nl.length)).size + (strOf nl).size ≤ 1073741824 := by rw [strOf_size, strOf_size]; omega
    have s2 : (strOf (encN nl.length ++ nl)).size + (strOf (encN las.length)).size ≤ 1073741824 := by rw [strOf_size, strOf_size, List.length_append]; omega
    have s3 : (strOf (encN kn)).size + (strOf (encN nl.length ++ nl ++ encN las.length)).size ≤ 1073741824 := by rw [strOf_size, strOf_size]; simp only [List.length_append]; omega
    have q3 : ((kn : Int) == 3) = true := by simp; omega
    have hnsz : (strOf nl).size = nl.length := strOf_size nl
    simp only [pf40, ↓wpre, wset, wcore, ne_eq, if_true, if_false, exists_eq_left', true_implies, false_implies, exists_const, exists_eq_right, binA, intA, loadA, storeA, pickC, setAt, mapO, argsE, X.isC, resA, oneA, unA, boundA, eqiA, eqsA, fillA, fillE, ASt.fz, strA, Nat.reduceEqDiff, Nat.reduceLT, ↓reduceIte, reduceCtorEq, Nat.reduceAdd, Nat.reduceLeDiff, Int.reduceBEq, Int.reduceBNe, Int.reduceLT, Int.reduceLE, Int.reduceGT, Int.reduceGE, Nat.reduceDiv, Nat.reduceMul, Nat.reduceBEq, Nat.reduceMod, Nat.reduceSub, q0, q12, q2, q3, k1, hnsz, k2, k3]
    simp only [hnsz] at s1
    simp only [strOf_app, s1, s2, s3, ↓wpre, wset, wcore, ne_eq, if_true, if_false, exists_eq_left', true_implies, false_implies, exists_const, exists_eq_right, binA, intA, loadA, storeA, pickC, setAt, mapO, argsE, X.isC, resA, oneA, unA, boundA, eqiA, eqsA, fillA, fillE, ASt.fz, strA, Nat.reduceEqDiff, Nat.reduceLT, ↓reduceIte, reduceCtorEq, Nat.reduceAdd, Nat.reduceLeDiff, Int.reduceBEq, Int.reduceBNe, Int.reduceLT, Int.reduceLE, Int.reduceGT, Int.reduceGE, Nat.reduceDiv, Nat.reduceMul, Nat.reduceBEq, Nat.reduceMod, Nat.reduceSub]
    refine W_loopE (fun j => las.length - j) (fun j E H T => ∃ cur, H = [.cells false [.int kn, .int i, .str (strOf nl), .sl las t1, .sl kas t2]] ∧ E 0 = .sl al t ∧ E 3 = .ptr 0 0 ∧ E 5 = .str (strOf cur) ∧ E 6 = .int (j : Nat) ∧ j ≤ las.length ∧ cur = encN kn ++ (encN nl.length ++ nl ++ encN las.length) ++ (ls.take j).flatMap encL) ?_ 0 ⟨_, rfl, rfl, rfl, rfl, rfl, Nat.zero_le _, by simp⟩
    rintro j E H T ⟨cur, rfl, e0, e3, e5, e6, hj, hcur⟩
    rcases Nat.lt_or_ge j las.length with hlt | hge
    · have hdec : decide ((j : Int) < las.length) = true := by simpa using hlt
      obtain ⟨x, c, d0, d1, d3, d4, d5, d6, d7, d8⟩ := g8.get lvAgg hlt
      have hfl := flat_le (f := encL) d0
      have hlc : cur.length = (encN kn).length + ((encN nl.length).length + nl.length + (encN las.length).length) + ((ls.take j).flatMap encL).length := by rw [hcur]; simp only [List.length_append]
      obtain ⟨_, rfl, c4⟩ := (rlevel_ret d8 (hv x d3) (by omega)).call rfl (by simp [pvs_cons, pvs_nil, lvPure d8])
      have s9 : (strOf cur).size + (strOf (encL x)).size ≤ 1073741824 := by rw [strOf_size, strOf_size]; omega
      simp only [↓wpre, wset, wcore, ne_eq, if_true, if_false, exists_eq_left', true_implies, false_implies, exists_const, exists_eq_right, binA, intA, loadA, storeA, pickC, setAt, mapO, argsE, X.isC, resA, oneA, unA, boundA, eqiA, eqsA, fillA, fillE, ASt.fz, strA, Nat.reduceEqDiff, Nat.reduceLT, ↓reduceIte, reduceCtorEq, Nat.reduceAdd, Nat.reduceLeDiff, Int.reduceBEq, Int.reduceBNe, Int.reduceLT, Int.reduceLE, Int.reduceGT, Int.reduceGE, Nat.reduceDiv, Nat.reduceMul, Nat.reduceBEq, Nat.reduceMod, Nat.reduceSub, e0, e3, e5, e6, hdec, d4, d5, d6, hall, c4, s9, strOf_app]
      exact EQ_in ⟨j + 1, by omega, _, rfl, e0, e3, rfl, next_ixv (by unfold lenB at *; omega), by omega, by rw [flat_step d0, hcur]; simp only [List.append_assoc]⟩
    · have hdec : decide ((j : Int) < las.length) = false := by simpa using hge
      rw [List.take_of_length_le (by omega)] at hcur
      simp only [↓wpre, wset, wcore, ne_eq, if_true, if_false, exists_eq_left', true_implies, false_implies, exists_const, exists_eq_right, binA, intA, loadA, storeA, pickC, setAt, mapO, argsE, X.isC, resA, oneA, unA, boundA, eqiA, eqsA, fillA, fillE, ASt.fz, strA, Nat.reduceEqDiff, Nat.reduceLT, ↓reduceIte, reduceCtorEq, Nat.reduceAdd, Nat.reduceLeDiff, Int.reduceBEq, Int.reduceBNe, Int.reduceLT, Int.reduceLE, Int.reduceGT, Int.reduceGE, Nat.reduceDiv, Nat.reduceMul, Nat.reduceBEq, Nat.reduceMod, Nat.reduceSub, e0, e3, e5, e6, hdec]
      refine W_loopE (fun j => kas.length - j) (fun j E H T => ∃ cur, H = [.cells false [.int kn, .int i, .str (strOf nl), .sl las t1, .sl kas t2]] ∧ E 0 = .sl al t ∧ E 3 = .ptr 0 0 ∧ E 5 = .str (strOf cur) ∧ E 7 = .int (j : Nat) ∧ j ≤ kas.length ∧ cur = encN kn ++ ((Tm.mk kn i (strOf nl) ls kids).pay ++ (kids.take j).flatMap fun x => encN (Tb.idxOf x))) ?_ 0 ⟨_, rfl, e0, e3, e5, rfl, Nat.zero_le _, by rw [hcur, hpay]; simp [List.append_assoc]⟩
      clear e0 e3 e5 e6 hj hcur hge hdec E T
      rintro j E H T ⟨cur, rfl, e0, e3, e5, e7, hj, hcur⟩
      rcases Nat.lt_or_ge j kas.length with hlt | hge
      · have hdec : decide ((j : Int) < kas.length) = true := by simpa using hlt
        obtain ⟨x, c, d0, d1, d3, d4, d5, d6, d7, d8⟩ := g9.get tmAgg hlt
        have hxm := hk x d3
        have hfl := flat_le (f := fun x => encN (Tb.idxOf x)) d0
        have hlc : cur.length = (encN kn).length + ((Tm.mk kn i (strOf nl) ls kids).pay.length + ((kids.take j).flatMap fun x => encN (Tb.idxOf x)).length) := by rw [hcur]; simp only [List.length_append]
        have hpos : posT Tb x = ((Tb.idxOf x : Nat) : Int) := by rw [posT, if_pos hxm]
        have hix : Tb.idxOf x < Tb.length := List.idxOf_lt_length_of_mem hxm
        obtain ⟨_, rfl, c4⟩ := (position_ret hT ht (by unfold lenB; unfold capB at hl; omega) d8).call rfl (by simp [pvs_cons, pvs_nil, pv_sl, hap, ht, tmPure _ d8])
        rw [hpos] at c4
        obtain ⟨_, rfl, c5⟩ := (rnum_ret (n := Tb.idxOf x) (by unfold capB at hl; omega)).call rfl (by simp [pvs_cons, pvs_nil, pv_v])
        have s9 : (strOf cur).size + (strOf (encN (Tb.idxOf x))).size ≤ 1073741824 := by rw [strOf_size, strOf_size]; omega
        simp only [↓wpre, wset, wcore, ne_eq, if_true, if_false, exists_eq_left', true_implies, false_implies, exists_const, exists_eq_right, binA, intA, loadA, storeA, pickC, setAt, mapO, argsE, X.isC, resA, oneA, unA, boundA, eqiA, eqsA, fillA, fillE, ASt.fz, strA, Nat.reduceEqDiff, Nat.reduceLT, ↓reduceIte, reduceCtorEq, Nat.reduceAdd, Nat.reduceLeDiff, Int.reduceBEq, Int.reduceBNe, Int.reduceLT, Int.reduceLE, Int.reduceGT, Int.reduceGE, Nat.reduceDiv, Nat.reduceMul, Nat.reduceBEq, Nat.reduceMod, Nat.reduceSub, e0, e3, e5, e7, hdec, d4, d5, d6, hallk, c4, c5, s9, strOf_app]
        exact EQ_in ⟨j + 1, by omega, _, rfl, e0, e3, rfl, next_ixv (by unfold lenB at *; omega), by omega, by rw [flat_step d0, hcur]; simp only [List.append_assoc]⟩
      · have hdec : decide ((j : Int) < kas.length) = false := by simpa using hge
        rw [List.take_of_length_le (by omega)] at hcur
        rw [← hE] at hcur
        subst hcur
        simp only [↓wpre, wset, wcore, ne_eq, if_true, if_false, exists_eq_left', true_implies, false_implies, exists_const, exists_eq_right, binA, intA, loadA, storeA, pickC, setAt, mapO, argsE, X.isC, resA, oneA, unA, boundA, eqiA, eqsA, fillA, fillE, ASt.fz, strA, Nat.reduceEqDiff, Nat.reduceLT, ↓reduceIte, reduceCtorEq, Nat.reduceAdd, Nat.reduceLeDiff, Int.reduceBEq, Int.reduceBNe, Int.reduceLT, Int.reduceLE, Int.reduceGT, Int.reduceGE, Nat.reduceDiv, Nat.reduceMul, Nat.reduceBEq, Nat.reduceMod, Nat.reduceSub, e0, e3, e5, e7, hdec]
  · have hpay : (Tm.mk kn i (strOf nl) ls kids).pay = [] := by
      show (if (kn : Int) = 0 ∨ (kn : Int) = 12 then encN i.toNat else if (kn : Int) = 2 then encL (ls.headD ⟨0, []⟩) else if (kn : Int) = 3 then encN (strOf nl).size ++ ((strOf nl).toList ++ (encN ls.length ++ ls.flatMap encL)) else []) = _
      rw [if_neg (by omega), if_neg (by omega), if_neg (by omega)]
    have hpl := congrArg List.length hpay
    have q3 : ((kn : Int) == 3) = false := by simp only [beq_eq_false_iff_ne, ne_eq]; omega
    simp only [pf40, ↓wpre, wset, wcore, ne_eq, if_true, if_false, exists_eq_left', true_implies, false_implies, exists_const, exists_eq_right, binA, intA, loadA, storeA, pickC, setAt, mapO, argsE, X.isC, resA, oneA, unA, boundA, eqiA, eqsA, fillA, fillE, ASt.fz, strA, Nat.reduceEqDiff, Nat.reduceLT, ↓reduceIte, reduceCtorEq, Nat.reduceAdd, Nat.reduceLeDiff, Int.reduceBEq, Int.reduceBNe, Int.reduceLT, Int.reduceLE, Int.reduceGT, Int.reduceGE, Nat.reduceDiv, Nat.reduceMul, Nat.reduceBEq, Nat.reduceMod, Nat.reduceSub, q0, q12, q2, q3, k1]
    refine W_loopE (fun j => kas.length - j) (fun j E H T => ∃ cur, H = [.cells false [.int kn, .int i, .str (strOf nl), .sl las t1, .sl kas t2]] ∧ E 0 = .sl al t ∧ E 3 = .ptr 0 0 ∧ E 5 = .str (strOf cur) ∧ E 7 = .int (j : Nat) ∧ j ≤ kas.length ∧ cur = encN kn ++ ((Tm.mk kn i (strOf nl) ls kids).pay ++ (kids.take j).flatMap fun x => encN (Tb.idxOf x))) ?_ 0 ⟨_, rfl, rfl, rfl, rfl, rfl, Nat.zero_le _, by rw [hpay]; simp⟩
    rintro j E H T ⟨cur, rfl, e0, e3, e5, e7, hj, hcur⟩
    rcases Nat.lt_or_ge j kas.length with hlt | hge
    · have hdec : decide ((j : Int) < kas.length) = true := by simpa using hlt
      obtain ⟨x, c, d0, d1, d3, d4, d5, d6, d7, d8⟩ := g9.get tmAgg hlt
      have hxm := hk x d3
      have hfl := flat_le (f := fun x => encN (Tb.idxOf x)) d0
      have hlc : cur.length = (encN kn).length + ((Tm.mk kn i (strOf nl) ls kids).pay.length + ((kids.take j).flatMap fun x => encN (Tb.idxOf x)).length) := by rw [hcur]; simp only [List.length_append]
      have hpos : posT Tb x = ((Tb.idxOf x : Nat) : Int) := by rw [posT, if_pos hxm]
      have hix : Tb.idxOf x < Tb.length := List.idxOf_lt_length_of_mem hxm
      obtain ⟨_, rfl, c4⟩ := (position_ret hT ht (by unfold lenB; unfold capB at hl; omega) d8).call rfl (by simp [pvs_cons, pvs_nil, pv_sl, hap, ht, tmPure _ d8])
      rw [hpos] at c4
      obtain ⟨_, rfl, c5⟩ := (rnum_ret (n := Tb.idxOf x) (by unfold capB at hl; omega)).call rfl (by simp [pvs_cons, pvs_nil, pv_v])
      have s9 : (strOf cur).size + (strOf (encN (Tb.idxOf x))).size ≤ 1073741824 := by rw [strOf_size, strOf_size]; omega
      simp only [↓wpre, wset, wcore, ne_eq, if_true, if_false, exists_eq_left', true_implies, false_implies, exists_const, exists_eq_right, binA, intA, loadA, storeA, pickC, setAt, mapO, argsE, X.isC, resA, oneA, unA, boundA, eqiA, eqsA, fillA, fillE, ASt.fz, strA, Nat.reduceEqDiff, Nat.reduceLT, ↓reduceIte, reduceCtorEq, Nat.reduceAdd, Nat.reduceLeDiff, Int.reduceBEq, Int.reduceBNe, Int.reduceLT, Int.reduceLE, Int.reduceGT, Int.reduceGE, Nat.reduceDiv, Nat.reduceMul, Nat.reduceBEq, Nat.reduceMod, Nat.reduceSub, e0, e3, e5, e7, hdec, d4, d5, d6, hallk, c4, c5, s9, strOf_app]
      exact EQ_in ⟨j + 1, by omega, _, rfl, e0, e3, rfl, next_ixv (by unfold lenB at *; omega), by omega, by rw [flat_step d0, hcur]; simp only [List.append_assoc]⟩
    · have hdec : decide ((j : Int) < kas.length) = false := by simpa using hge
      rw [List.take_of_length_le (by omega)] at hcur
      rw [← hE] at hcur
      subst hcur
      simp only [↓wpre, wset, wcore, ne_eq, if_true, if_false, exists_eq_left', true_implies, false_implies, exists_const, exists_eq_right, binA, intA, loadA, storeA, pickC, setAt, mapO, argsE, X.isC, resA, oneA, unA, boundA, eqiA, eqsA, fillA, fillE, ASt.fz, strA, Nat.reduceEqDiff, Nat.reduceLT, ↓reduceIte, reduceCtorEq, Nat.reduceAdd, Nat.reduceLeDiff, Int.reduceBEq, Int.reduceBNe, Int.reduceLT, Int.reduceLE, Int.reduceGT, Int.reduceGE, Nat.reduceDiv, Nat.reduceMul, Nat.reduceBEq, Nat.reduceMod, Nat.reduceSub, e0, e3, e5, e7, hdec]
end Go.Proofs.Eng
