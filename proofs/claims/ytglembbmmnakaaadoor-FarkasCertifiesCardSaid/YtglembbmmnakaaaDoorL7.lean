/- FarkasCertifies holds of all arguments. No conditions beyond those in the theorems. -/
import Derived.Test.YtglembbmmnakaaaDoorF25
import Derived.Test.YtglembbmmnakaaaDoorL4
import Derived.Test.YtglembbmmnakaaaDoorL6
set_option linter.all false
set_option linter.deprecated false
set_option linter.unnecessarySimpa false
set_option linter.unusedVariables false
set_option linter.unusedSimpArgs false
set_option linter.defProp false
namespace Go.Proofs.Eng
open Go Go.Proofs
set_option maxRecDepth 100000
set_option maxHeartbeats 16000000
theorem pointL_pt {S : List (List Rw)} {n : Nat} : ∀ {j : Nat} {pt : List Int}, pt.length ≤ n → Bnd limP pt → (pointL S j pt).1.length ≤ n ∧ Bnd limP (pointL S j pt).1 ∧ ((pointL S j pt).2.2 ≠ 0 → (pointL S j pt).2.1 = false) ∧ ((pointL S j pt).2.1 = true → (pointL S j pt).2.2 = 0)
  | 0, pt, h1, h2 => ⟨h1, h2, fun h => absurd rfl h, fun _ => rfl⟩
  | j + 1, pt, h1, h2 => by
    rw [pointL]
    have hn : Bnd limP [] := by intro y hy; cases hy
    split
    · exact ⟨Nat.zero_le _, hn, fun _ => rfl, fun h => by cases h⟩
    · split
      · exact ⟨Nat.zero_le _, hn, fun _ => rfl, fun h => by cases h⟩
      · rename_i x _ hx
        exact pointL_pt (by rw [List.length_set]; exact h1) (fun y hy => by
          rcases List.mem_or_eq_of_mem_set hy with hy | rfl
          · exact h2 y hy
          · unfold limP; omega)
theorem pointR_pt {rows : List (List Int)} (hr : rightR rows = 0) : (pointR rows).1.length ≤ 9 ∧ Bnd limP (pointR rows).1 ∧ ((pointR rows).2.2 ≠ 0 → (pointR rows).2.1 = false) ∧ ((pointR rows).2.1 = true → (pointR rows).2.2 = 0) := by
  have hn : Bnd limP [] := by intro y hy; cases hy
  have hR := right_of hr
  unfold pointR
  rw [if_neg (by simp [hr])]
  split
  · exact ⟨Nat.zero_le _, hn, fun _ => rfl, fun h => by cases h⟩
  · exact ⟨Nat.zero_le _, hn, fun _ => rfl, fun h => by cases h⟩
  · refine pointL_pt ?_ fun y hy => by
      rw [List.eq_of_mem_replicate hy]; unfold limP; omega
    rw [List.length_replicate]
    cases rows with
    | nil => exact Nat.zero_le _
    | cons r rows => have := (hR.pos (by simp)).2; omega
/-- What a system's factors and point are. -/
theorem certify {rows : List (List Int)} (hr : rightR rows = 0) : ((refuteR rows).2.2 ≠ 0 → (refuteR rows).2.1 = false) ∧ ((refuteR rows).2.1 = true → checkR rows (refuteR rows).1 = true ∧ (pointR rows).2.1 = false) ∧ ((pointR rows).2.1 = true → 0 < rows.length → satB rows (pointR rows).1 = true) := by
  have hpt := pointR_pt hr
  refine ⟨fun h => ?_, fun h => ?_, fun h h0 => ?_⟩
  · unfold refuteR at h ⊢
    rw [if_neg (by simp [hr])] at h ⊢
    split at h
    · rfl
    · exact absurd rfl h
    · exact absurd rfl h
  · have hp := pointR_of hr
    unfold refuteR at h ⊢
    rw [if_neg (by simp [hr])] at h ⊢
    split at h
    · cases h
    · rename_i F hF
      rw [hF] at hp
      rw [hp]
      have h0 : 0 < rows.length := by
        cases rows with
        | nil => rw [elimA_nil] at hF; cases hF
        | cons r rows => simp
      exact ⟨check_refute hr h0 hF, rfl⟩
    · cases h
  · have hR := right_of hr
    obtain ⟨n, hn⟩ : ∃ n, (rows.headD []).length = n + 1 := ⟨(rows.headD []).length - 1, by have := (hR.pos h0).1; omega⟩
    have e : pointR rows = ((pointR rows).1, true, 0) := by
      have := hpt.2.2.2 h
      rw [← h, ← this]
    obtain ⟨q1, q2, _⟩ := point_sat hr hn e
    rw [hn] at hR
    exact sat_satB q2 hR.len q1
theorem certifies_law {rows : List (List Int)} {al : List AV} {t : Tl} (h : LIs RowIs rows al) (ht : t.pure = true) (hl : al.length ≤ lenB) : Out md pfs 7 [.sl al t] (· = .bool true) fun _ => False := by
  have hln := h.len
  have hp := rowsPure h
  obtain ⟨_, rfl, aw⟩ := awake_ret.call rfl (by simp [pvs_nil])
  obtain ⟨_, ⟨b, rfl, _⟩, kf⟩ := (few_ret h ht hl).call rfl (by simp [pvs_cons, pvs_nil, pv_sl, ht, hp])
  obtain ⟨_, rfl, c19⟩ := (right_ret (t := t) h hl).call rfl (by simp [pvs_cons, pvs_nil, pv_sl, ht, hp])
  obtain ⟨_, ⟨u, rfl, hu⟩, k1⟩ := (refute_ret h ht hl).call rfl (by simp [pvs_cons, pvs_nil, pv_sl, ht, hp])
  obtain ⟨_, ⟨v, rfl, hv⟩, k2⟩ := (point_ret h ht hl).call rfl (by simp [pvs_cons, pvs_nil, pv_sl, ht, hp])
  obtain ⟨_, rfl, k3⟩ := (pcheck_ret h ht hl hu (refuteR_len (rows := rows))).call rfl (by simp [pvs_cons, pvs_nil, pv_sl, ht, hp, hu, ints_pure])
  refine out_of pf7_is (Nat.le_of_ble_eq_true rfl) ?_
  cases b
  · simp only [pf7, ↓wpre, wset, wcore, ne_eq, if_true, if_false, exists_eq_left', true_implies, false_implies, exists_const, exists_eq_right, binA, intA, loadA, storeA, pickC, setAt, mapO, argsE, X.isC, resA, oneA, unA, boundA, eqiA, eqsA, fillA, fillE, ASt.fz, strA, Nat.reduceEqDiff, Nat.reduceLT, ↓reduceIte, reduceCtorEq, Nat.reduceAdd, Nat.reduceLeDiff, Int.reduceBEq, Int.reduceBNe, Int.reduceLT, Int.reduceLE, Int.reduceGT, Int.reduceGE, Nat.reduceDiv, Nat.reduceMul, Nat.reduceBEq, Nat.reduceMod, Nat.reduceSub, kf, aw]
  by_cases hr : rightR rows = 0
  · have d1 : (rightR rows != 0) = false := by rw [hr]; rfl
    obtain ⟨p1, p2, p3, p4⟩ := pointR_pt hr
    obtain ⟨q1, q2, q3⟩ := certify hr
    have hR := right_of hr
    obtain ⟨_, rfl, k4⟩ := (satisfies_ret (vals := (pointR rows).1) (t := t) (u := v) h hl p1 p2 hR.bnd).call rfl (by simp [pvs_cons, pvs_nil, pv_sl, ht, hp, hv, ints_pure])
    generalize refuteR rows = R at *
    generalize pointR rows = P at *
    obtain ⟨F, a, e⟩ := R
    obtain ⟨p, b, g⟩ := P
    simp only at k1 k2 k3 k4 p1 p2 p3 p4 q1 q2 q3
    by_cases he : e = 0
    · have d2 : (e != 0) = false := by rw [he]; rfl
      have d3 : (e == 0) = true := by rw [he]; rfl
      by_cases hg : g = 0
      · have d4 : (g != 0) = false := by rw [hg]; rfl
        cases a with
        | true =>
          obtain ⟨c1, rfl⟩ := q2 rfl
          rw [c1] at k3
          simp only [pf7, ↓wpre, wset, wcore, ne_eq, if_true, if_false, exists_eq_left', true_implies, false_implies, exists_const, exists_eq_right, binA, intA, loadA, storeA, pickC, setAt, mapO, argsE, X.isC, resA, oneA, unA, boundA, eqiA, eqsA, fillA, fillE, ASt.fz, strA, Nat.reduceEqDiff, Nat.reduceLT, ↓reduceIte, reduceCtorEq, Nat.reduceAdd, Nat.reduceLeDiff, Int.reduceBEq, Int.reduceBNe, Int.reduceLT, Int.reduceLE, Int.reduceGT, Int.reduceGE, Nat.reduceDiv, Nat.reduceMul, Nat.reduceBEq, Nat.reduceMod, Nat.reduceSub, kf, c19, d1, k1, k2, d2, d4, k3, aw]
        | false =>
          cases b with
          | true =>
            cases d5 : decide ((al.length : Int) > 0)
            · simp only [pf7, ↓wpre, wset, wcore, ne_eq, if_true, if_false, exists_eq_left', true_implies, false_implies, exists_const, exists_eq_right, binA, intA, loadA, storeA, pickC, setAt, mapO, argsE, X.isC, resA, oneA, unA, boundA, eqiA, eqsA, fillA, fillE, ASt.fz, strA, Nat.reduceEqDiff, Nat.reduceLT, ↓reduceIte, reduceCtorEq, Nat.reduceAdd, Nat.reduceLeDiff, Int.reduceBEq, Int.reduceBNe, Int.reduceLT, Int.reduceLE, Int.reduceGT, Int.reduceGE, Nat.reduceDiv, Nat.reduceMul, Nat.reduceBEq, Nat.reduceMod, Nat.reduceSub, kf, c19, d1, k1, k2, d2, d4, d5, aw]
            · rw [q3 rfl (by simp only [decide_eq_true_eq] at d5; omega)] at k4
              simp only [pf7, ↓wpre, wset, wcore, ne_eq, if_true, if_false, exists_eq_left', true_implies, false_implies, exists_const, exists_eq_right, binA, intA, loadA, storeA, pickC, setAt, mapO, argsE, X.isC, resA, oneA, unA, boundA, eqiA, eqsA, fillA, fillE, ASt.fz, strA, Nat.reduceEqDiff, Nat.reduceLT, ↓reduceIte, reduceCtorEq, Nat.reduceAdd, Nat.reduceLeDiff, Int.reduceBEq, Int.reduceBNe, Int.reduceLT, Int.reduceLE, Int.reduceGT, Int.reduceGE, Nat.reduceDiv, Nat.reduceMul, Nat.reduceBEq, Nat.reduceMod, Nat.reduceSub, kf, c19, d1, k1, k2, d2, d4, d5, k4, aw]
          | false =>
            simp only [pf7, ↓wpre, wset, wcore, ne_eq, if_true, if_false, exists_eq_left', true_implies, false_implies, exists_const, exists_eq_right, binA, intA, loadA, storeA, pickC, setAt, mapO, argsE, X.isC, resA, oneA, unA, boundA, eqiA, eqsA, fillA, fillE, ASt.fz, strA, Nat.reduceEqDiff, Nat.reduceLT, ↓reduceIte, reduceCtorEq, Nat.reduceAdd, Nat.reduceLeDiff, Int.reduceBEq, Int.reduceBNe, Int.reduceLT, Int.reduceLE, Int.reduceGT, Int.reduceGE, Nat.reduceDiv, Nat.reduceMul, Nat.reduceBEq, Nat.reduceMod, Nat.reduceSub, kf, c19, d1, k1, k2, d2, d4, aw]
      · have d4 : (g != 0) = true := by simpa using hg
        have d5 : (g == 0) = false := by simpa using hg
        obtain rfl := p3 hg
        simp only [pf7, ↓wpre, wset, wcore, ne_eq, if_true, if_false, exists_eq_left', true_implies, false_implies, exists_const, exists_eq_right, binA, intA, loadA, storeA, pickC, setAt, mapO, argsE, X.isC, resA, oneA, unA, boundA, eqiA, eqsA, fillA, fillE, ASt.fz, strA, Nat.reduceEqDiff, Nat.reduceLT, ↓reduceIte, reduceCtorEq, Nat.reduceAdd, Nat.reduceLeDiff, Int.reduceBEq, Int.reduceBNe, Int.reduceLT, Int.reduceLE, Int.reduceGT, Int.reduceGE, Nat.reduceDiv, Nat.reduceMul, Nat.reduceBEq, Nat.reduceMod, Nat.reduceSub, kf, c19, d1, k1, k2, d2, d3, d4, d5, aw]
    · have d2 : (e != 0) = true := by simpa using he
      have d3 : (e == 0) = false := by simpa using he
      obtain rfl := q1 he
      by_cases hg : g = 0
      · have d4 : (g == 0) = true := by rw [hg]; rfl
        simp only [pf7, ↓wpre, wset, wcore, ne_eq, if_true, if_false, exists_eq_left', true_implies, false_implies, exists_const, exists_eq_right, binA, intA, loadA, storeA, pickC, setAt, mapO, argsE, X.isC, resA, oneA, unA, boundA, eqiA, eqsA, fillA, fillE, ASt.fz, strA, Nat.reduceEqDiff, Nat.reduceLT, ↓reduceIte, reduceCtorEq, Nat.reduceAdd, Nat.reduceLeDiff, Int.reduceBEq, Int.reduceBNe, Int.reduceLT, Int.reduceLE, Int.reduceGT, Int.reduceGE, Nat.reduceDiv, Nat.reduceMul, Nat.reduceBEq, Nat.reduceMod, Nat.reduceSub, kf, c19, d1, k1, k2, d2, d3, d4, aw]
      · have d4 : (g == 0) = false := by simpa using hg
        obtain rfl := p3 hg
        simp only [pf7, ↓wpre, wset, wcore, ne_eq, if_true, if_false, exists_eq_left', true_implies, false_implies, exists_const, exists_eq_right, binA, intA, loadA, storeA, pickC, setAt, mapO, argsE, X.isC, resA, oneA, unA, boundA, eqiA, eqsA, fillA, fillE, ASt.fz, strA, Nat.reduceEqDiff, Nat.reduceLT, ↓reduceIte, reduceCtorEq, Nat.reduceAdd, Nat.reduceLeDiff, Int.reduceBEq, Int.reduceBNe, Int.reduceLT, Int.reduceLE, Int.reduceGT, Int.reduceGE, Nat.reduceDiv, Nat.reduceMul, Nat.reduceBEq, Nat.reduceMod, Nat.reduceSub, kf, c19, d1, k1, k2, d2, d3, d4, aw]
  · have d1 : (rightR rows != 0) = true := by simpa using hr
    simp only [pf7, ↓wpre, wset, wcore, ne_eq, if_true, if_false, exists_eq_left', true_implies, false_implies, exists_const, exists_eq_right, binA, intA, loadA, storeA, pickC, setAt, mapO, argsE, X.isC, resA, oneA, unA, boundA, eqiA, eqsA, fillA, fillE, ASt.fz, strA, Nat.reduceEqDiff, Nat.reduceLT, ↓reduceIte, reduceCtorEq, Nat.reduceAdd, Nat.reduceLeDiff, Int.reduceBEq, Int.reduceBNe, Int.reduceLT, Int.reduceLE, Int.reduceGT, Int.reduceGE, Nat.reduceDiv, Nat.reduceMul, Nat.reduceBEq, Nat.reduceMod, Nat.reduceSub, kf, c19, d1, aw]
end Go.Proofs.Eng
