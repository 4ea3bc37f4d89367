/- The reference's PutTerms. No conditions beyond those in the theorems. -/
import Derived.Test.YtbcnlbnimabdeaaT10
set_option linter.all false
set_option linter.deprecated false
set_option linter.unnecessarySimpa false
set_option linter.unusedVariables false
set_option linter.unusedSimpArgs false
set_option linter.defProp false
namespace Go.Proofs.Eng
open Go Go.Proofs
set_option maxRecDepth 100000
set_option maxHeartbeats 8000000
theorem allR_subs (t : Tm) : t.allR = true → ∀ x ∈ t.subs, x.right = true := by
  induction t using Tm.ind with
  | h k i n ls kids ih =>
    intro h x hx
    rw [Tm.allR, Bool.and_eq_true] at h
    rw [Tm.subs] at hx
    rcases List.mem_cons.1 hx with rfl | hx
    · exact h.1
    · obtain ⟨y, hy, hxy⟩ := mem_subsL.1 hx
      exact ih y hy ((allRL_iff kids).1 h.2 y hy) x hxy
theorem allRL_subs {l : List Tm} (h : allRL l = true) : ∀ x ∈ subsL l, x.right = true := fun x hx => by
  obtain ⟨y, hy, hxy⟩ := mem_subsL.1 hx
  exact allR_subs y ((allRL_iff l).1 h y hy) x hxy
theorem allRL_take {l : List Tm} {j : Nat} {x : Tm} (h : allRL (l.take j) = true) (d0 : l[j]? = some x) (hx : x.allR = true) : allRL (l.take (j + 1)) = true :=
  (allRL_iff _).2 (take_next (P := fun x => x.allR = true) d0 ((allRL_iff _).1 h) hx)
/-- PutTerms' results, for terms that are neither too large nor too deep. -/
def putR (l : List Tm) : List UInt8 × Int := if allRL l = true then (putT l, 0) else ([], 3)
theorem table_ok {l : List Tm} (h : allRL l = true) : EnterOK [] (enterL [] l) (· ∈ subsL l) ∧ entL [] l = (l.map fun x => (enterL [] l).idxOf x, textT (enterL [] l)) := by
  have := enterL_ok (l := l) (fun t _ => enter_ok t) Good.nil fun x hx => (right_facts (allRL_subs h x hx)).1
  rwa [show textT [] = [] from rfl] at this
theorem rPutTerms_ret {l : List Tm} {al : List AV} {t : Tl} (h : LIs Tm.Is l al) (ht : t.pure = true) (hl : al.length ≤ 65536) (hs : ∀ e ∈ l, e.sz ≤ 4096 ∧ e.dp ≤ 200) (hz : tszL l ≤ 536870912) (hp : allRL l = true → (putT l).length ≤ 1073741824) : Out md pfs 18 [.sl al t] (· = .tup [.str (strOf (putR l).1), .int (putR l).2]) fun _ => False := by
  have hl2 := h.len
  have hall := h.all tmAgg
  have d1 : decide ((al.length : Int) > 65536) = false := by simp only [decide_eq_false_iff_not]; omega
  refine out_of pf18_is (Nat.le_of_ble_eq_true rfl) ?_
  simp only [pf18, ↓wpre, wset, wcore, ne_eq, if_true, if_false, exists_eq_left', true_implies, false_implies, exists_const, exists_eq_right, binA, intA, loadA, storeA, pickC, setAt, mapO, argsE, X.isC, resA, oneA, unA, boundA, eqiA, eqsA, fillA, fillE, ASt.fz, strA, Nat.reduceEqDiff, Nat.reduceLT, ↓reduceIte, reduceCtorEq, Nat.reduceAdd, Nat.reduceLeDiff, Int.reduceBEq, Int.reduceBNe, Int.reduceLT, Int.reduceLE, Int.reduceGT, Int.reduceGE, Nat.reduceDiv, Nat.reduceMul, Nat.reduceBEq, Nat.reduceMod, Nat.reduceSub, d1]
  refine W_loopE (fun j => al.length - j) (fun j E H T => ∃ tb tt, E 0 = .sl al t ∧ E 4 = .sl tb tt ∧ E 5 = .int (j : Nat) ∧ j ≤ al.length ∧ LIs Tm.Is (enterL [] (l.take j)) tb ∧ App T tb tt ∧ tb.length ≤ tszL (l.take j) ∧ allRL (l.take j) = true) ?_ 0 ⟨[], .nil, rfl, rfl, rfl, Nat.zero_le _, by rw [List.take_zero, enterL]; trivial, app_start [], by simp, by simp [allRL]⟩
  rintro j E H T ⟨tb, tt, e0, e4, e5, hj, hT, hA, hle, har⟩
  rcases Nat.lt_or_ge j al.length with hlt | hge
  · have hdec : decide ((j : Int) < al.length) = true := by simpa using hlt
    obtain ⟨x, c, d0, d2, d3, d4, d5, d6, d7, d8⟩ := h.get tmAgg hlt
    obtain ⟨s1, s2⟩ := tsz_split d0
    obtain ⟨_, rfl, c1⟩ := (rEncodable_ret d8 (hs x d3).1 (hs x d3).2).call rfl (by simp [pvs_cons, pvs_nil, tmPure _ d8])
    cases hx : x.allR
    · have he : encErr x = 3 := by simp [encErr, hx]
      rw [he] at c1
      have n3 : ((3 : Int) != 0) = true := rfl
      simp only [↓wpre, wset, wcore, ne_eq, if_true, if_false, exists_eq_left', true_implies, false_implies, exists_const, exists_eq_right, binA, intA, loadA, storeA, pickC, setAt, mapO, argsE, X.isC, resA, oneA, unA, boundA, eqiA, eqsA, fillA, fillE, ASt.fz, strA, Nat.reduceEqDiff, Nat.reduceLT, ↓reduceIte, reduceCtorEq, Nat.reduceAdd, Nat.reduceLeDiff, Int.reduceBEq, Int.reduceBNe, Int.reduceLT, Int.reduceLE, Int.reduceGT, Int.reduceGE, Nat.reduceDiv, Nat.reduceMul, Nat.reduceBEq, Nat.reduceMod, Nat.reduceSub, e0, e4, e5, hdec, d4, d5, d6, hall, c1, n3]
      have : putR l = ([], 3) := by
        rw [putR, if_neg]
        intro ha
        have := (allRL_iff l).1 ha x d3
        rw [hx] at this; cases this
      rw [this]; rfl
    · have he : encErr x = 0 := by simp [encErr, hx]
      rw [he] at c1
      have n3 : ((0 : Int) != 0) = false := rfl
      obtain ⟨_, _, ⟨al2, t3, T2, G2, rfl, rfl, q1, q2, q3, q4⟩, cv⟩ := (rEnter_rw x (Tb := enterL [] (l.take j)) (H := H) (T := T) hT d8 (by unfold capB; omega) hA).call rfl
      simp only [↓wpre, wset, wcore, ne_eq, if_true, if_false, exists_eq_left', true_implies, false_implies, exists_const, exists_eq_right, binA, intA, loadA, storeA, pickC, setAt, mapO, argsE, X.isC, resA, oneA, unA, boundA, eqiA, eqsA, fillA, fillE, ASt.fz, strA, Nat.reduceEqDiff, Nat.reduceLT, ↓reduceIte, reduceCtorEq, Nat.reduceAdd, Nat.reduceLeDiff, Int.reduceBEq, Int.reduceBNe, Int.reduceLT, Int.reduceLE, Int.reduceGT, Int.reduceGE, Nat.reduceDiv, Nat.reduceMul, Nat.reduceBEq, Nat.reduceMod, Nat.reduceSub, e0, e4, e5, hdec, d4, d5, d6, hall, c1, n3, cv]
      exact EQ_in ⟨j + 1, by omega, _, _, e0, rfl, next_ixv (by unfold lenB; omega), by omega, by rw [enterL_take d0]; exact q1, q2, by omega, allRL_take har d0 hx⟩
  · have hdec : decide ((j : Int) < al.length) = false := by simpa using hge
    rw [List.take_of_length_le (by omega)] at hT hle har
    obtain ⟨ok, hent⟩ := table_ok har
    have hp := hp har
    have hTl := hT.len
    have hR : putR l = (putT l, 0) := by rw [putR, if_pos har]
    have hTcap : tb.length ≤ capB := by unfold capB; omega
    have hP : putT l = encN tb.length ++ ((textT (enterL [] l)).flatten ++ (encN al.length ++ l.flatMap fun t => encN ((enterL [] l).idxOf t))) := by unfold putT; rw [hTl, hl2]
    have hPl : (putT l).length = (encN tb.length).length + ((textT (enterL [] l)).flatten.length + ((encN al.length).length + (l.flatMap fun t => encN ((enterL [] l).idxOf t)).length)) := by rw [hP]; simp only [List.length_append]
    have hflat : (textT (enterL [] l)).flatten = (enterL [] l).flatMap (entryT fun x => (enterL [] l).idxOf x) := by unfold textT; rw [List.flatMap_def]
    rw [hflat] at hPl
    have htp := tmsPure hT
    have hallt := hT.all tmAgg
    obtain ⟨_, rfl, k1⟩ := (rnum_ret (n := tb.length) (by unfold capB at hTcap; omega)).call rfl (by simp [pvs_cons, pvs_nil, pv_v])
    obtain ⟨_, rfl, k2⟩ := (rnum_ret (n := al.length) (by omega)).call rfl (by simp [pvs_cons, pvs_nil, pv_v])
    simp only [↓wpre, wset, wcore, ne_eq, if_true, if_false, exists_eq_left', true_implies, false_implies, exists_const, exists_eq_right, binA, intA, loadA, storeA, pickC, setAt, mapO, argsE, X.isC, resA, oneA, unA, boundA, eqiA, eqsA, fillA, fillE, ASt.fz, strA, Nat.reduceEqDiff, Nat.reduceLT, ↓reduceIte, reduceCtorEq, Nat.reduceAdd, Nat.reduceLeDiff, Int.reduceBEq, Int.reduceBNe, Int.reduceLT, Int.reduceLE, Int.reduceGT, Int.reduceGE, Nat.reduceDiv, Nat.reduceMul, Nat.reduceBEq, Nat.reduceMod, Nat.reduceSub, e0, e4, e5, hdec, k1]
    rw [hR]
    clear hj hge hdec hle e5
    refine W_loopE (fun j => tb.length - j) (fun j E H' T => ∃ cur, E 0 = .sl al t ∧ E 4 = .sl tb tt ∧ E 7 = .str (strOf cur) ∧ E 8 = .int (j : Nat) ∧ j ≤ tb.length ∧ cur = encN tb.length ++ ((enterL [] l).take j).flatMap (entryT fun x => (enterL [] l).idxOf x)) ?_ 0 ⟨_, e0, e4, rfl, rfl, Nat.zero_le _, by simp⟩
    clear e0 e4 E
    rintro j E H' T' ⟨cur, e0, e4, e7, e8, hj, hcur⟩
    rcases Nat.lt_or_ge j tb.length with hlt | hge
    · have hdec : decide ((j : Int) < tb.length) = true := by simpa using hlt
      obtain ⟨x, c, d0, d2, d3, d4, d5, d6, d7, d8⟩ := hT.get tmAgg hlt
      have hfl := flat_le (f := entryT fun x => (enterL [] l).idxOf x) d0
      have hxr : x.right = true := by
        rcases (ok.mem x).1 d3 with hm | hm
        · cases hm
        · exact allRL_subs har x hm
      have hlc : cur.length = (encN tb.length).length + (((enterL [] l).take j).flatMap (entryT fun x => (enterL [] l).idxOf x)).length := by rw [hcur]; simp only [List.length_append]
      obtain ⟨_, rfl, c1⟩ := call_sl (t := tt) (rentry_ret hT (strip_pure tt) hTcap d8 hxr (ok.good.all x d3).2 (by omega)) rfl htp (tmPure _ d8) ⟨H', T'⟩
      have s9 : (strOf cur).size + (strOf (entryT (fun x => (enterL [] l).idxOf x) x)).size ≤ 1073741824 := by rw [strOf_size, strOf_size]; omega
      simp only [↓wpre, wset, wcore, ne_eq, if_true, if_false, exists_eq_left', true_implies, false_implies, exists_const, exists_eq_right, binA, intA, loadA, storeA, pickC, setAt, mapO, argsE, X.isC, resA, oneA, unA, boundA, eqiA, eqsA, fillA, fillE, ASt.fz, strA, Nat.reduceEqDiff, Nat.reduceLT, ↓reduceIte, reduceCtorEq, Nat.reduceAdd, Nat.reduceLeDiff, Int.reduceBEq, Int.reduceBNe, Int.reduceLT, Int.reduceLE, Int.reduceGT, Int.reduceGE, Nat.reduceDiv, Nat.reduceMul, Nat.reduceBEq, Nat.reduceMod, Nat.reduceSub, e0, e4, e7, e8, hdec, d4, d5, d6, hallt, c1, s9, strOf_app]
      exact EQ_in ⟨j + 1, by omega, _, e0, e4, rfl, next_ixv (by unfold lenB; unfold capB at hTcap; omega), by omega, by rw [flat_step d0, hcur]; simp only [List.append_assoc]⟩
    · have hdec : decide ((j : Int) < tb.length) = false := by simpa using hge
      rw [List.take_of_length_le (by omega)] at hcur
      have hlc : cur.length = (encN tb.length).length + ((enterL [] l).flatMap (entryT fun x => (enterL [] l).idxOf x)).length := by rw [hcur]; simp only [List.length_append]
      have s9 : (strOf cur).size + (strOf (encN al.length)).size ≤ 1073741824 := by rw [strOf_size, strOf_size]; omega
      simp only [↓wpre, wset, wcore, ne_eq, if_true, if_false, exists_eq_left', true_implies, false_implies, exists_const, exists_eq_right, binA, intA, loadA, storeA, pickC, setAt, mapO, argsE, X.isC, resA, oneA, unA, boundA, eqiA, eqsA, fillA, fillE, ASt.fz, strA, Nat.reduceEqDiff, Nat.reduceLT, ↓reduceIte, reduceCtorEq, Nat.reduceAdd, Nat.reduceLeDiff, Int.reduceBEq, Int.reduceBNe, Int.reduceLT, Int.reduceLE, Int.reduceGT, Int.reduceGE, Nat.reduceDiv, Nat.reduceMul, Nat.reduceBEq, Nat.reduceMod, Nat.reduceSub, e0, e4, e7, e8, hdec, k2, s9, strOf_app]
      refine W_loopE (fun j => al.length - j) (fun j E H' T => ∃ cur2, E 0 = .sl al t ∧ E 4 = .sl tb tt ∧ E 7 = .str (strOf cur2) ∧ E 9 = .int (j : Nat) ∧ j ≤ al.length ∧ cur2 = cur ++ encN al.length ++ (l.take j).flatMap fun t => encN ((enterL [] l).idxOf t)) ?_ 0 ⟨_, e0, e4, rfl, rfl, Nat.zero_le _, by simp⟩
      clear e0 e4 e7 e8 hj hge hdec s9 E T'
      rintro j E H' T' ⟨cur2, e0, e4, e7, e9, hj, hcur2⟩
      rcases Nat.lt_or_ge j al.length with hlt | hge
      · have hdec : decide ((j : Int) < al.length) = true := by simpa using hlt
        obtain ⟨x, c, d0, d2, d3, d4, d5, d6, d7, d8⟩ := h.get tmAgg hlt
        have hfl := flat_le (f := fun t => encN ((enterL [] l).idxOf t)) d0
        have hxm : x ∈ enterL [] l := (ok.mem x).2 (.inr (mem_subsL.2 ⟨x, d3, subs_self x⟩))
        have hpos : posT (enterL [] l) x = (((enterL [] l).idxOf x : Nat) : Int) := by rw [posT, if_pos hxm]
        have hix : (enterL [] l).idxOf x < (enterL [] l).length := List.idxOf_lt_length_of_mem hxm
        obtain ⟨_, rfl, c1⟩ := call_sl (t := tt) (position_ret hT (strip_pure tt) (by unfold lenB; unfold capB at hTcap; omega) d8) rfl htp (tmPure _ d8) ⟨H', T'⟩
        rw [hpos] at c1
        obtain ⟨_, rfl, c2⟩ := (rnum_ret (n := (enterL [] l).idxOf x) (by unfold capB at hTcap; omega)).call rfl (by simp [pvs_cons, pvs_nil, pv_v])
        have hlc2 : cur2.length = cur.length + (encN al.length).length + ((l.take j).flatMap fun t => encN ((enterL [] l).idxOf t)).length := by rw [hcur2]; simp only [List.length_append]
        have s9 : (strOf cur2).size + (strOf (encN ((enterL [] l).idxOf x))).size ≤ 1073741824 := by rw [strOf_size, strOf_size]; omega
        simp only [↓wpre, wset, wcore, ne_eq, if_true, if_false, exists_eq_left', true_implies, false_implies, exists_const, exists_eq_right, binA, intA, loadA, storeA, pickC, setAt, mapO, argsE, X.isC, resA, oneA, unA, boundA, eqiA, eqsA, fillA, fillE, ASt.fz, strA, Nat.reduceEqDiff, Nat.reduceLT, ↓reduceIte, reduceCtorEq, Nat.reduceAdd, Nat.reduceLeDiff, Int.reduceBEq, Int.reduceBNe, Int.reduceLT, Int.reduceLE, Int.reduceGT, Int.reduceGE, Nat.reduceDiv, Nat.reduceMul, Nat.reduceBEq, Nat.reduceMod, Nat.reduceSub, e0, e4, e7, e9, hdec, d4, d5, d6, hall, c1, c2, s9, strOf_app]
        exact EQ_in ⟨j + 1, by omega, _, e0, e4, rfl, next_ixv (by unfold lenB; omega), by omega, by rw [flat_step d0, hcur2]; simp only [List.append_assoc]⟩
      · have hdec : decide ((j : Int) < al.length) = false := by simpa using hge
        rw [List.take_of_length_le (by omega)] at hcur2
        simp only [↓wpre, wset, wcore, ne_eq, if_true, if_false, exists_eq_left', true_implies, false_implies, exists_const, exists_eq_right, binA, intA, loadA, storeA, pickC, setAt, mapO, argsE, X.isC, resA, oneA, unA, boundA, eqiA, eqsA, fillA, fillE, ASt.fz, strA, Nat.reduceEqDiff, Nat.reduceLT, ↓reduceIte, reduceCtorEq, Nat.reduceAdd, Nat.reduceLeDiff, Int.reduceBEq, Int.reduceBNe, Int.reduceLT, Int.reduceLE, Int.reduceGT, Int.reduceGE, Nat.reduceDiv, Nat.reduceMul, Nat.reduceBEq, Nat.reduceMod, Nat.reduceSub, e0, e4, e7, e9, hdec]
        rw [hcur2, hcur, hP, hflat]
        simp only [List.append_assoc]
end Go.Proofs.Eng
