/- FarkasPoints holds of all arguments. No conditions beyond those in the theorems. -/
import Derived.Test.YtglembbmmnakaaaDoorF24
import Derived.Test.YtglembbmmnakaaaDoorLE
import Derived.Test.YtglembbmmnakaaaDoorQA
set_option linter.all false
set_option linter.deprecated false
set_option linter.unnecessarySimpa false
set_option linter.unusedVariables false
set_option linter.unusedSimpArgs false
set_option linter.defProp false
namespace Go.Proofs.Eng
open Go Go.Proofs
set_option maxRecDepth 100000
set_option maxHeartbeats 16000000
theorem pointL_len {S : List (List Rw)} : ∀ {j : Nat} {pt : List Int}, (pointL S j pt).1.length ≤ pt.length
  | 0, pt => Nat.le_refl _
  | j + 1, pt => by
    rw [pointL]
    split
    · exact Nat.zero_le _
    · split
      · exact Nat.zero_le _
      · exact Nat.le_trans pointL_len (by rw [List.length_set]; exact Nat.le_refl _)
theorem pointR_len {rows : List (List Int)} : (pointR rows).1.length ≤ lenB := by
  unfold pointR
  split
  · exact Nat.zero_le _
  · rename_i hr
    replace hr : rightR rows = 0 := by simpa using hr
    have hR := right_of hr
    split
    · exact Nat.zero_le _
    · exact Nat.zero_le _
    · refine Nat.le_trans pointL_len ?_
      rw [List.length_replicate]
      cases rows with
      | nil => exact Nat.zero_le _
      | cons r rows => have := (hR.pos (by simp)).2; unfold lenB; omega
theorem points_law {rows : List (List Int)} {al : List AV} {t : Tl} (h : LIs RowIs rows al) (ht : t.pure = true) (hl : al.length ≤ lenB) : Out md pfs 6 [.sl al t] (· = .bool true) fun _ => False := by
  have hp := rowsPure h
  obtain ⟨_, rfl, aw⟩ := awake_ret.call rfl (by simp [pvs_nil])
  obtain ⟨_, ⟨b, rfl, _⟩, kf⟩ := (few_ret h ht hl).call rfl (by simp [pvs_cons, pvs_nil, pv_sl, ht, hp])
  obtain ⟨_, ⟨u, rfl, hu⟩, k1⟩ := (point_ret h ht hl).call rfl (by simp [pvs_cons, pvs_nil, pv_sl, ht, hp])
  obtain ⟨_, ⟨v, rfl, hv⟩, k2⟩ := (rpoint_ret h ht hl).call rfl (by simp [pvs_cons, pvs_nil, pv_sl, ht, hp])
  obtain ⟨_, rfl, k3⟩ := (equal_ret (a := (pointR rows).1) (b := (pointR rows).1) (t := u) (u := v) pointR_len).call rfl (by simp [pvs_cons, pvs_nil, pv_sl, hu, hv, ints_pure])
  refine out_of pf6_is (Nat.le_of_ble_eq_true rfl) ?_
  cases b
  · simp only [pf6, ↓wpre, wset, wcore, ne_eq, if_true, if_false, exists_eq_left', true_implies, false_implies, exists_const, exists_eq_right, binA, intA, loadA, storeA, pickC, setAt, mapO, argsE, X.isC, resA, oneA, unA, boundA, eqiA, eqsA, fillA, fillE, ASt.fz, strA, Nat.reduceEqDiff, Nat.reduceLT, ↓reduceIte, reduceCtorEq, Nat.reduceAdd, Nat.reduceLeDiff, Int.reduceBEq, Int.reduceBNe, Int.reduceLT, Int.reduceLE, Int.reduceGT, Int.reduceGE, Nat.reduceDiv, Nat.reduceMul, Nat.reduceBEq, Nat.reduceMod, Nat.reduceSub, kf, aw]
  · simp only [pf6, ↓wpre, wset, wcore, ne_eq, if_true, if_false, exists_eq_left', true_implies, false_implies, exists_const, exists_eq_right, binA, intA, loadA, storeA, pickC, setAt, mapO, argsE, X.isC, resA, oneA, unA, boundA, eqiA, eqsA, fillA, fillE, ASt.fz, strA, Nat.reduceEqDiff, Nat.reduceLT, ↓reduceIte, reduceCtorEq, Nat.reduceAdd, Nat.reduceLeDiff, Int.reduceBEq, Int.reduceBNe, Int.reduceLT, Int.reduceLE, Int.reduceGT, Int.reduceGE, Nat.reduceDiv, Nat.reduceMul, Nat.reduceBEq, Nat.reduceMod, Nat.reduceSub, kf, k1, k2, k3, aw]
end Go.Proofs.Eng
