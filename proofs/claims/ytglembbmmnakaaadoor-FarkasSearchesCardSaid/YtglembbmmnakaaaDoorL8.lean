/- FarkasSearches holds of all arguments. No conditions beyond those in the theorems. -/
import Derived.Test.YtglembbmmnakaaaDoorF25
import Derived.Test.YtglembbmmnakaaaDoorL4
import Derived.Test.YtglembbmmnakaaaDoorL5
set_option linter.all false
set_option linter.deprecated false
set_option linter.unnecessarySimpa false
set_option linter.unusedVariables false
set_option linter.unusedSimpArgs false
set_option linter.defProp false
namespace Go.Proofs.Eng
open Go Go.Proofs
set_option maxRecDepth 100000
set_option maxHeartbeats 16000000
/-- The numbers of a code. -/
def codeV (c : Nat) : List Int := [((c % 5 : Nat) : Int) - 2, ((c / 5 % 5 : Nat) : Int) - 2, ((c / 25 : Nat) : Int) - 2]
theorem searches_law {rows : List (List Int)} {al : List AV} {t u : Tl} {fs : List Int} (h : LIs RowIs rows al) (ht : t.pure = true) (hl : al.length ≤ lenB) (hu : u.pure = true) (hfl : fs.length ≤ lenB) : Out md pfs 8 [.sl al t, .sl (ints fs) u] (· = .bool true) fun _ => False := by
  have hln := h.len
  have hp := rowsPure h
  have hall := rows_all h
  obtain ⟨_, rfl, aw⟩ := awake_ret.call rfl (by simp [pvs_nil])
  obtain ⟨_, ⟨b, rfl, _⟩, kf⟩ := (few_ret h ht hl).call rfl (by simp [pvs_cons, pvs_nil, pv_sl, ht, hp])
  obtain ⟨_, rfl, c19⟩ := (right_ret (t := t) h hl).call rfl (by simp [pvs_cons, pvs_nil, pv_sl, ht, hp])
  obtain ⟨_, ⟨u', rfl, hu'⟩, k1⟩ := (refute_ret h ht hl).call rfl (by simp [pvs_cons, pvs_nil, pv_sl, ht, hp])
  obtain ⟨_, rfl, k3⟩ := (pcheck_ret h ht hl hu hfl).call rfl (by simp [pvs_cons, pvs_nil, pv_sl, ht, hp, hu, ints_pure])
  refine out_of pf8_is (Nat.le_of_ble_eq_true rfl) ?_
  cases b
  · simp only [pf8, ↓wpre, wset, wcore, ne_eq, if_true, if_false, exists_eq_left', true_implies, false_implies, exists_const, exists_eq_right, binA, intA, loadA, storeA, pickC, setAt, mapO, argsE, X.isC, resA, oneA, unA, boundA, eqiA, eqsA, fillA, fillE, ASt.fz, strA, Nat.reduceEqDiff, Nat.reduceLT, ↓reduceIte, reduceCtorEq, Nat.reduceAdd, Nat.reduceLeDiff, Int.reduceBEq, Int.reduceBNe, Int.reduceLT, Int.reduceLE, Int.reduceGT, Int.reduceGE, Nat.reduceDiv, Nat.reduceMul, Nat.reduceBEq, Nat.reduceMod, Nat.reduceSub, kf, aw]
  cases h30 : decide ((((ints fs).length : Nat) : Int) > 30)
  case true => simp only [pf8, ↓wpre, wset, wcore, ne_eq, if_true, if_false, exists_eq_left', true_implies, false_implies, exists_const, exists_eq_right, binA, intA, loadA, storeA, pickC, setAt, mapO, argsE, X.isC, resA, oneA, unA, boundA, eqiA, eqsA, fillA, fillE, ASt.fz, strA, Nat.reduceEqDiff, Nat.reduceLT, ↓reduceIte, reduceCtorEq, Nat.reduceAdd, Nat.reduceLeDiff, Int.reduceBEq, Int.reduceBNe, Int.reduceLT, Int.reduceLE, Int.reduceGT, Int.reduceGE, Nat.reduceDiv, Nat.reduceMul, Nat.reduceBEq, Nat.reduceMod, Nat.reduceSub, kf, h30, aw]
  by_cases hr : rightR rows = 0
  case neg =>
    have d1 : (rightR rows != 0) = true := by simpa using hr
    simp only [pf8, ↓wpre, wset, wcore, ne_eq, if_true, if_false, exists_eq_left', true_implies, false_implies, exists_const, exists_eq_right, binA, intA, loadA, storeA, pickC, setAt, mapO, argsE, X.isC, resA, oneA, unA, boundA, eqiA, eqsA, fillA, fillE, ASt.fz, strA, Nat.reduceEqDiff, Nat.reduceLT, ↓reduceIte, reduceCtorEq, Nat.reduceAdd, Nat.reduceLeDiff, Int.reduceBEq, Int.reduceBNe, Int.reduceLT, Int.reduceLE, Int.reduceGT, Int.reduceGE, Nat.reduceDiv, Nat.reduceMul, Nat.reduceBEq, Nat.reduceMod, Nat.reduceSub, kf, h30, c19, d1, aw]
  have d1 : (rightR rows != 0) = false := by rw [hr]; rfl
  by_cases h0 : rows.length = 0
  · have d2 : ((al.length : Int) == 0) = true := by rw [beq_iff_eq]; omega
    simp only [pf8, ↓wpre, wset, wcore, ne_eq, if_true, if_false, exists_eq_left', true_implies, false_implies, exists_const, exists_eq_right, binA, intA, loadA, storeA, pickC, setAt, mapO, argsE, X.isC, resA, oneA, unA, boundA, eqiA, eqsA, fillA, fillE, ASt.fz, strA, Nat.reduceEqDiff, Nat.reduceLT, ↓reduceIte, reduceCtorEq, Nat.reduceAdd, Nat.reduceLeDiff, Int.reduceBEq, Int.reduceBNe, Int.reduceLT, Int.reduceLE, Int.reduceGT, Int.reduceGE, Nat.reduceDiv, Nat.reduceMul, Nat.reduceBEq, Nat.reduceMod, Nat.reduceSub, kf, h30, c19, d1, d2, aw]
  have d2 : ((al.length : Int) == 0) = false := by rw [beq_eq_false_iff_ne]; omega
  obtain ⟨t0, g1, g2⟩ := head_of h (by omega)
  have hR := right_of hr
  obtain ⟨n, hn⟩ : ∃ n, (rows.headD []).length = n + 1 := ⟨(rows.headD []).length - 1, by have := (hR.pos (by omega)).1; omega⟩
  have hrl := ints_len (rows.headD [])
  rw [hn] at hrl
  by_cases h4 : n + 1 > 4
  · have d3 : decide (((n + 1 : Nat) : Int) > 4) = true := decide_eq_true (by omega)
    simp only [pf8, ↓wpre, wset, wcore, ne_eq, if_true, if_false, exists_eq_left', true_implies, false_implies, exists_const, exists_eq_right, binA, intA, loadA, storeA, pickC, setAt, mapO, argsE, X.isC, resA, oneA, unA, boundA, eqiA, eqsA, fillA, fillE, ASt.fz, strA, Nat.reduceEqDiff, Nat.reduceLT, ↓reduceIte, reduceCtorEq, Nat.reduceAdd, Nat.reduceLeDiff, Int.reduceBEq, Int.reduceBNe, Int.reduceLT, Int.reduceLE, Int.reduceGT, Int.reduceGE, Nat.reduceDiv, Nat.reduceMul, Nat.reduceBEq, Nat.reduceMod, Nat.reduceSub, kf, h30, c19, d1, d2, g1, hall, hrl, d3, aw]
  have d3 : decide (((n + 1 : Nat) : Int) > 4) = false := decide_eq_false (by omega)
  have hwr : IntKind.i64.wrap (((n + 1 : Nat) : Int) - 1) = (n : Int) := by rw [wrap_in (by unfold Eng.in64; omega)]; omega
  simp only [pf8, ↓wpre, wset, wcore, ne_eq, if_true, if_false, exists_eq_left', true_implies, false_implies, exists_const, exists_eq_right, binA, intA, loadA, storeA, pickC, setAt, mapO, argsE, X.isC, resA, oneA, unA, boundA, eqiA, eqsA, fillA, fillE, ASt.fz, strA, Nat.reduceEqDiff, Nat.reduceLT, ↓reduceIte, reduceCtorEq, Nat.reduceAdd, Nat.reduceLeDiff, Int.reduceBEq, Int.reduceBNe, Int.reduceLT, Int.reduceLE, Int.reduceGT, Int.reduceGE, Nat.reduceDiv, Nat.reduceMul, Nat.reduceBEq, Nat.reduceMod, Nat.reduceSub, kf, h30, c19, d1, d2, g1, hall, hrl, d3, hwr]
  refine W_loopE (fun c => 125 - c) (fun c E H T => ∃ b, E 0 = .sl al t ∧ E 1 = .sl (ints fs) u ∧ E 5 = .int (n : Nat) ∧ E 6 = .bool b ∧ E 43 = .int (c : Nat) ∧ c ≤ 125 ∧ (b = true → ∃ vals : List Int, vals.length = n ∧ satB rows vals = true)) ?_ 0 ⟨false, rfl, rfl, rfl, rfl, rfl, Nat.zero_le _, fun h => by cases h⟩
  rintro c E H T ⟨b, e0, e1, e5, e6, e43, hc, hb⟩
  rcases Nat.lt_or_ge c 125 with hlt | hge
  · have hdec : decide ((c : Int) < 125) = true := decide_eq_true (by omega)
    have z5 : ((5 : Int) = 0) = False := by simp
    have z25 : ((25 : Int) = 0) = False := by simp
    have m0 : (c : Int).tmod 5 = ((c % 5 : Nat) : Int) := rfl
    have m1 : IntKind.i64.wrap ((c : Int).tdiv 5) = ((c / 5 : Nat) : Int) := by
      rw [show (c : Int).tdiv 5 = ((c / 5 : Nat) : Int) from rfl]; exact wrap_in (by unfold Eng.in64; omega)
    have m2 : ((c / 5 : Nat) : Int).tmod 5 = ((c / 5 % 5 : Nat) : Int) := rfl
    have m3 : IntKind.i64.wrap ((c : Int).tdiv 25) = ((c / 25 : Nat) : Int) := by
      rw [show (c : Int).tdiv 25 = ((c / 25 : Nat) : Int) from rfl]; exact wrap_in (by unfold Eng.in64; omega)
    have s0 : IntKind.i64.wrap (((c % 5 : Nat) : Int) - 2) = ((c % 5 : Nat) : Int) - 2 := wrap_in (by unfold Eng.in64; omega)
    have s1 : IntKind.i64.wrap (((c / 5 % 5 : Nat) : Int) - 2) = ((c / 5 % 5 : Nat) : Int) - 2 := wrap_in (by unfold Eng.in64; omega)
    have s2 : IntKind.i64.wrap (((c / 25 : Nat) : Int) - 2) = ((c / 25 : Nat) : Int) - 2 := wrap_in (by unfold Eng.in64; omega)
    have hcI : ints (codeV c) = [.int (((c % 5 : Nat) : Int) - 2), .int (((c / 5 % 5 : Nat) : Int) - 2), .int (((c / 25 : Nat) : Int) - 2)] := rfl
    obtain ⟨tv, hv1, hv2⟩ := slice_some (es := 1) (l := ints (codeV c)) (t := .cap 3) (lo := 0) (hi := n) (Nat.zero_le _) (by rw [ints_len]; show n ≤ 3; omega) rfl
    rw [List.drop_zero, ints_take, hcI] at hv2
    have hbd : ((n : Int) ≤ 3) = True := eq_true (by omega)
    have hcl : ((codeV c).take n).length = n := by rw [List.length_take]; show min n 3 = n; omega
    have hcb : Bnd limP ((codeV c).take n) := fun y hy => by
      have := List.mem_of_mem_take hy
      simp only [codeV, List.mem_cons, List.not_mem_nil, or_false] at this
      unfold limP
      omega
    obtain ⟨_, rfl, k20⟩ := (satisfies_ret (vals := (codeV c).take n) (t := t) (u := tv) h hl (by omega) hcb hR.bnd).call rfl (by simp [pvs_cons, pvs_nil, pv_sl, ht, hp, hv1, ints_pure])
    cases b
    · simp only [↓wpre, wset, wcore, ne_eq, if_true, if_false, exists_eq_left', true_implies, false_implies, exists_const, exists_eq_right, binA, intA, loadA, storeA, pickC, setAt, mapO, argsE, X.isC, resA, oneA, unA, boundA, eqiA, eqsA, fillA, fillE, ASt.fz, strA, Nat.reduceEqDiff, Nat.reduceLT, ↓reduceIte, reduceCtorEq, Nat.reduceAdd, Nat.reduceLeDiff, Int.reduceBEq, Int.reduceBNe, Int.reduceLT, Int.reduceLE, Int.reduceGT, Int.reduceGE, Nat.reduceDiv, Nat.reduceMul, Nat.reduceBEq, Nat.reduceMod, Nat.reduceSub, List.length_append, List.append_assoc, app_get_len, app_get_add, app_set_len, app_set_add, e0, e1, e5, e6, e43, hdec, z5, z25, m0, m1, m2, m3, s0, s1, s2, hbd, hv2, k20]
      exact EQ_in ⟨c + 1, by omega, satB rows ((codeV c).take n), e0, e1, e5, rfl, next_ixv (by unfold lenB; omega), by omega, fun h => ⟨_, hcl, h⟩⟩
    · simp only [↓wpre, wset, wcore, ne_eq, if_true, if_false, exists_eq_left', true_implies, false_implies, exists_const, exists_eq_right, binA, intA, loadA, storeA, pickC, setAt, mapO, argsE, X.isC, resA, oneA, unA, boundA, eqiA, eqsA, fillA, fillE, ASt.fz, strA, Nat.reduceEqDiff, Nat.reduceLT, ↓reduceIte, reduceCtorEq, Nat.reduceAdd, Nat.reduceLeDiff, Int.reduceBEq, Int.reduceBNe, Int.reduceLT, Int.reduceLE, Int.reduceGT, Int.reduceGE, Nat.reduceDiv, Nat.reduceMul, Nat.reduceBEq, Nat.reduceMod, Nat.reduceSub, List.length_append, List.append_assoc, app_get_len, app_get_add, app_set_len, app_set_add, e0, e1, e5, e6, e43, hdec, z5, z25, m0, m1, m2, m3, s0, s1, s2, hbd, hv2]
      exact EQ_in ⟨c + 1, by omega, true, e0, e1, e5, rfl, next_ixv (by unfold lenB; omega), by omega, hb⟩
  · obtain rfl : c = 125 := by omega
    have hdec : decide (((125 : Nat) : Int) < 125) = false := rfl
    cases b
    · simp only [↓wpre, wset, wcore, ne_eq, if_true, if_false, exists_eq_left', true_implies, false_implies, exists_const, exists_eq_right, binA, intA, loadA, storeA, pickC, setAt, mapO, argsE, X.isC, resA, oneA, unA, boundA, eqiA, eqsA, fillA, fillE, ASt.fz, strA, Nat.reduceEqDiff, Nat.reduceLT, ↓reduceIte, reduceCtorEq, Nat.reduceAdd, Nat.reduceLeDiff, Int.reduceBEq, Int.reduceBNe, Int.reduceLT, Int.reduceLE, Int.reduceGT, Int.reduceGE, Nat.reduceDiv, Nat.reduceMul, Nat.reduceBEq, Nat.reduceMod, Nat.reduceSub, List.length_append, List.append_assoc, app_get_len, app_get_add, app_set_len, app_set_add, e0, e1, e5, e6, e43, hdec, k1, aw]
    · obtain ⟨vals, v1, v2⟩ := hb rfl
      obtain ⟨q1, q2⟩ := solved_not (fs := fs) hr hn v1 v2
      rw [q2] at k3
      by_cases he : (refuteR rows).2.2 = 0
      · have d4 : ((refuteR rows).2.2 == 0) = true := by rw [he]; rfl
        rw [q1 he] at k1
        simp only [↓wpre, wset, wcore, ne_eq, if_true, if_false, exists_eq_left', true_implies, false_implies, exists_const, exists_eq_right, binA, intA, loadA, storeA, pickC, setAt, mapO, argsE, X.isC, resA, oneA, unA, boundA, eqiA, eqsA, fillA, fillE, ASt.fz, strA, Nat.reduceEqDiff, Nat.reduceLT, ↓reduceIte, reduceCtorEq, Nat.reduceAdd, Nat.reduceLeDiff, Int.reduceBEq, Int.reduceBNe, Int.reduceLT, Int.reduceLE, Int.reduceGT, Int.reduceGE, Nat.reduceDiv, Nat.reduceMul, Nat.reduceBEq, Nat.reduceMod, Nat.reduceSub, List.length_append, List.append_assoc, app_get_len, app_get_add, app_set_len, app_set_add, e0, e1, e5, e6, e43, hdec, k1, d4, k3, aw]
      · have d4 : ((refuteR rows).2.2 == 0) = false := by simpa using he
        simp only [↓wpre, wset, wcore, ne_eq, if_true, if_false, exists_eq_left', true_implies, false_implies, exists_const, exists_eq_right, binA, intA, loadA, storeA, pickC, setAt, mapO, argsE, X.isC, resA, oneA, unA, boundA, eqiA, eqsA, fillA, fillE, ASt.fz, strA, Nat.reduceEqDiff, Nat.reduceLT, ↓reduceIte, reduceCtorEq, Nat.reduceAdd, Nat.reduceLeDiff, Int.reduceBEq, Int.reduceBNe, Int.reduceLT, Int.reduceLE, Int.reduceGT, Int.reduceGE, Nat.reduceDiv, Nat.reduceMul, Nat.reduceBEq, Nat.reduceMod, Nat.reduceSub, List.length_append, List.append_assoc, app_get_len, app_get_add, app_set_len, app_set_add, e0, e1, e5, e6, e43, hdec, k1, d4, k3, aw]
end Go.Proofs.Eng
