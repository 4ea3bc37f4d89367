/- The laws of GetTerms. No conditions beyond those in the theorems. -/
import Derived.Test.YtbcnlbnimabdeaaU14
import Derived.Test.YtbcnlbnimabdeaaU15
set_option linter.all false
set_option linter.deprecated false
set_option linter.unnecessarySimpa false
set_option linter.unusedVariables false
set_option linter.unusedSimpArgs false
set_option linter.defProp false
namespace Go.Proofs.Eng
open Go Go.Proofs
set_option maxRecDepth 100000
set_option maxHeartbeats 8000000
theorem GetP.pure {s : ByteArray} {v : AV} (h : GetP s v) : pureAV v = true := by
  rcases h with ⟨l, al, t, q, _, _, _, rfl, h5, h6, _⟩ | ⟨_, rfl⟩
  · simp [pv_tup, pvs_cons, pvs_nil, pv_v, pv_sl, h6, tmsPure h5]
  · simp [pv_tup, pvs_cons, pvs_nil, pv_v, pv_sl, Tl.pure]
/-- The rest tells how much was read. -/
theorem drop_inj {s : ByteArray} {p q : Nat} (h : s.toList.drop p = s.toList.drop q) (hp : p ≤ s.size) (hq : q ≤ s.size) : p = q := by
  have := congrArg List.length h
  rw [List.length_drop, List.length_drop, toList_len] at this
  omega
theorem back_law {l : List Tm} {al : List AV} {t : Tl} {rest : ByteArray} (h : LIs Tm.Is l al) (ht : t.pure = true) (hl : al.length ≤ lenB) : Out md pfs 6 [.sl al t, .str rest] (· = .bool true) fun _ => False := by
  have hp := tmsPure h
  obtain ⟨_, rfl, aw⟩ := awake_ret.call rfl (by simp [pvs_nil])
  obtain ⟨_, ⟨b, rfl, hb⟩, kf⟩ := (few_ret h ht hl).call rfl (by simp [pvs_cons, pvs_nil, pv_sl, ht, hp])
  refine out_of pf6_is (Nat.le_of_ble_eq_true rfl) ?_
  cases b
  · simp only [pf6, ↓wpre, wset, wcore, ne_eq, if_true, if_false, exists_eq_left', true_implies, false_implies, exists_const, exists_eq_right, binA, intA, loadA, storeA, pickC, setAt, mapO, argsE, X.isC, resA, oneA, unA, boundA, eqiA, eqsA, fillA, fillE, ASt.fz, strA, Nat.reduceEqDiff, Nat.reduceLT, ↓reduceIte, reduceCtorEq, Nat.reduceAdd, Nat.reduceLeDiff, Int.reduceBEq, Int.reduceBNe, Int.reduceLT, Int.reduceLE, Int.reduceGT, Int.reduceGE, Nat.reduceDiv, Nat.reduceMul, Nat.reduceBEq, Nat.reduceMod, Nat.reduceSub, kf, aw]
  · cases h4 : decide ((rest.size : Int) > 200)
    · have hr : rest.size ≤ 200 := by simp only [decide_eq_false_iff_not] at h4; omega
      have hfew := hb rfl
      obtain ⟨z1, z2, z3⟩ := few_sizes hfew
      have hl2 := h.len
      have h8 := hfew.1
      obtain ⟨_, rfl, k1⟩ := (PutTerms_ret h ht (by omega) z1 (fun ha => by have := z2 ha; unfold entB; omega) (fun _ => by unfold entB; omega)).call rfl (by simp [pvs_cons, pvs_nil, pv_sl, ht, hp])
      by_cases hA : allRL l = true
      · have hput : putR l = (putT l, 0) := by rw [putR, if_pos hA]
        rw [hput] at k1
        have hz := z2 hA
        have e4 : (((0 : Int) != 0)) = false := rfl
        have e0 : ∀ n : Int, (n == n) = true := fun n => by simp
        have hsub : ∀ x ∈ subsL l, x.fit := fun x hx => by
          obtain ⟨y, hy, hxy⟩ := mem_subsL.1 hx
          have hs1 := tsz_kid hy
          have h200 := hfew.2.1
          have hs2 : x.sz ≤ y.sz := subs_sz y x hxy
          have hs3 := dp_sz x
          exact ⟨allRL_subs hA x hx, by omega, by omega⟩
        have hG : getT (strOf (putT l) ++ rest).toList = some (l, rest.toList) := by
          rw [app_toList, strOf_toList]
          exact getT_put hsub (by omega) (by unfold mostN; omega) _
        have hsz : (strOf (putT l) ++ rest).size = (putT l).length + rest.size := by rw [app_size, strOf_size]
        obtain ⟨_, g2, k2⟩ := (GetTerms_ret (s := strOf (putT l) ++ rest) (by rw [hsz]; unfold capB; omega) (fun l' r hg => by
          rw [hG] at hg
          simp only [Option.some.injEq, Prod.mk.injEq] at hg
          rw [← hg.1]
          unfold entB
          exact ⟨by omega, by omega⟩)).call rfl (by simp [pvs_cons, pvs_nil, pv_v])
        have hdr : (strOf (putT l) ++ rest).toList.drop (putT l).length = rest.toList := by
          rw [app_toList, strOf_toList, List.drop_left' rfl]
        have htk : (strOf (putT l) ++ rest).toList.take (putT l).length = putT l := by
          rw [app_toList, strOf_toList, List.take_left' rfl]
        rcases g2 with ⟨m, bl, u, p, b1, b2, b3, rfl, b5, b6, b7⟩ | ⟨b1, rfl⟩
        · rw [hG] at b1
          simp only [Option.some.injEq, Prod.mk.injEq] at b1
          obtain ⟨rfl, hqp⟩ := b1
          rw [← hdr] at hqp
          have := drop_inj hqp (by rw [hsz]; omega) b2
          subst this
          obtain ⟨_, rfl, k3⟩ := (SameTerms_ret h b5 ht b6 hl (by unfold lenB; omega)).call rfl (by simp [pvs_cons, pvs_nil, pv_sl, ht, b6, hp, tmsPure b5])
          rw [decide_eq_true rfl] at k3
          have e5 : (((putT l).length : Int) == ((strOf (putT l)).size : Int)) = true := by rw [strOf_size]; simp
          have hsz3 : (strOf (putT l)).size + rest.size ≤ 1073741824 := by rw [strOf_size]; omega
          simp only [pf6, ↓wpre, wset, wcore, ne_eq, if_true, if_false, exists_eq_left', true_implies, false_implies, exists_const, exists_eq_right, binA, intA, loadA, storeA, pickC, setAt, mapO, argsE, X.isC, resA, oneA, unA, boundA, eqiA, eqsA, fillA, fillE, ASt.fz, strA, Nat.reduceEqDiff, Nat.reduceLT, ↓reduceIte, reduceCtorEq, Nat.reduceAdd, Nat.reduceLeDiff, Int.reduceBEq, Int.reduceBNe, Int.reduceLT, Int.reduceLE, Int.reduceGT, Int.reduceGE, Nat.reduceDiv, Nat.reduceMul, Nat.reduceBEq, Nat.reduceMod, Nat.reduceSub, kf, h4, k1, k2, k3, e4, e5, e0, hsz3, aw]
        · exact absurd htk.symm (b1 l _ (by rw [hG, hdr]) (by rw [hsz]; omega))
      · have hput : putR l = ([], 3) := by rw [putR, if_neg hA]
        rw [hput] at k1
        have e4 : (((3 : Int) != 0)) = true := rfl
        have e5 : ((strOf []).toList == (ByteArray.mk #[]).toList) = true := by rw [show (ByteArray.mk #[]) = strOf [] from rfl]; simp
        have e6 : ((strOf []).size == 0) = true := rfl
        simp only [pf6, ↓wpre, wset, wcore, ne_eq, if_true, if_false, exists_eq_left', true_implies, false_implies, exists_const, exists_eq_right, binA, intA, loadA, storeA, pickC, setAt, mapO, argsE, X.isC, resA, oneA, unA, boundA, eqiA, eqsA, fillA, fillE, ASt.fz, strA, Nat.reduceEqDiff, Nat.reduceLT, ↓reduceIte, reduceCtorEq, Nat.reduceAdd, Nat.reduceLeDiff, Int.reduceBEq, Int.reduceBNe, Int.reduceLT, Int.reduceLE, Int.reduceGT, Int.reduceGE, Nat.reduceDiv, Nat.reduceMul, Nat.reduceBEq, Nat.reduceMod, Nat.reduceSub, kf, h4, k1, e4, e5, e6, aw]
    · simp only [pf6, ↓wpre, wset, wcore, ne_eq, if_true, if_false, exists_eq_left', true_implies, false_implies, exists_const, exists_eq_right, binA, intA, loadA, storeA, pickC, setAt, mapO, argsE, X.isC, resA, oneA, unA, boundA, eqiA, eqsA, fillA, fillE, ASt.fz, strA, Nat.reduceEqDiff, Nat.reduceLT, ↓reduceIte, reduceCtorEq, Nat.reduceAdd, Nat.reduceLeDiff, Int.reduceBEq, Int.reduceBNe, Int.reduceLT, Int.reduceLE, Int.reduceGT, Int.reduceGE, Nat.reduceDiv, Nat.reduceMul, Nat.reduceBEq, Nat.reduceMod, Nat.reduceSub, kf, h4, aw]
end Go.Proofs.Eng
