/- The laws of GetTerms. No conditions beyond those in the theorems. -/
import Derived.Test.YtbcnlbnimabdeaaU14
import Derived.Test.YtbcnlbnimabdeaaU15
set_option linter.all false
set_option linter.deprecated false
set_option linter.unnecessarySimpa false
set_option linter.unusedVariables false
set_option linter.unusedSimpArgs false
set_option linter.defProp false
namespace Go.Proofs.Eng
open Go Go.Proofs
set_option maxRecDepth 100000
set_option maxHeartbeats 8000000
theorem GetP.pure {s : ByteArray} {v : AV} (h : GetP s v) : pureAV v = true := by
  rcases h with ⟨l, al, t, q, _, _, _, rfl, h5, h6, _⟩ | ⟨_, rfl⟩
  · simp [pv_tup, pvs_cons, pvs_nil, pv_v, pv_sl, h6, tmsPure h5]
  · simp [pv_tup, pvs_cons, pvs_nil, pv_v, pv_sl, Tl.pure]
/-- The rest tells how much was read. -/
theorem drop_inj {s : ByteArray} {p q : Nat} (h : s.toList.drop p = s.toList.drop q) (hp : p ≤ s.size) (hq : q ≤ s.size) : p = q := by
  have := congrArg List.length h
  rw [List.length_drop, List.length_drop, toList_len] at this
  omega
theorem gets_law (s : ByteArray) : Out md pfs 5 [.str s] (· = .bool true) fun _ => False := by
  obtain ⟨_, rfl, aw⟩ := awake_ret.call rfl (by simp [pvs_nil])
  refine out_of pf5_is (Nat.le_of_ble_eq_true rfl) ?_
  cases h3 : decide ((s.size : Int) > 300)
  · have hs : s.size ≤ 300 := by simp only [decide_eq_false_iff_not] at h3; omega
    obtain ⟨_, g1, k1⟩ := (GetTerms_ret (s := s) (by unfold capB; omega) (put_bound hs)).call rfl (by simp [pvs_cons, pvs_nil, pv_v])
    obtain ⟨_, g2, k2⟩ := (rGetTerms_ret (s := s) (by unfold capB; omega) (put_bound hs)).call rfl (by simp [pvs_cons, pvs_nil, pv_v])
    have e0 : ∀ n : Int, (n == n) = true := fun n => by simp
    rcases g1 with ⟨l, al, t, q, a1, a2, a3, rfl, a5, a6, a7⟩ | ⟨a1, rfl⟩
    · rcases g2 with ⟨m, bl, u, p, b1, b2, b3, rfl, b5, b6, b7⟩ | ⟨b1, rfl⟩
      · rw [a1] at b1
        simp only [Option.some.injEq, Prod.mk.injEq] at b1
        obtain ⟨rfl, hqp⟩ := b1
        have := drop_inj hqp a2 b2
        subst this
        obtain ⟨_, rfl, k3⟩ := (SameTerms_ret a5 b5 a6 b6 (by unfold lenB; omega) (by unfold lenB; omega)).call rfl (by simp [pvs_cons, pvs_nil, pv_sl, a6, b6, tmsPure a5, tmsPure b5])
        rw [decide_eq_true rfl] at k3
        simp only [pf5, ↓wpre, wset, wcore, ne_eq, if_true, if_false, exists_eq_left', true_implies, false_implies, exists_const, exists_eq_right, binA, intA, loadA, storeA, pickC, setAt, mapO, argsE, X.isC, resA, oneA, unA, boundA, eqiA, eqsA, fillA, fillE, ASt.fz, strA, Nat.reduceEqDiff, Nat.reduceLT, ↓reduceIte, reduceCtorEq, Nat.reduceAdd, Nat.reduceLeDiff, Int.reduceBEq, Int.reduceBNe, Int.reduceLT, Int.reduceLE, Int.reduceGT, Int.reduceGE, Nat.reduceDiv, Nat.reduceMul, Nat.reduceBEq, Nat.reduceMod, Nat.reduceSub, h3, k1, k2, k3, e0, aw]
      · exact absurd a3 (b1 l q a1 a2)
    · rcases g2 with ⟨m, bl, u, p, b1, b2, b3, rfl, b5, b6, b7⟩ | ⟨b1, rfl⟩
      · exact absurd b3 (a1 m p b1 b2)
      · obtain ⟨_, rfl, k3⟩ := (SameTerms_ret (l := []) (m := []) (al := []) (bl := []) (t := .nil) (u := .nil) trivial trivial rfl rfl (Nat.zero_le _) (Nat.zero_le _)).call rfl (by simp [pvs_cons, pvs_nil, pv_sl, Tl.pure])
        rw [decide_eq_true rfl] at k3
        simp only [pf5, ↓wpre, wset, wcore, ne_eq, if_true, if_false, exists_eq_left', true_implies, false_implies, exists_const, exists_eq_right, binA, intA, loadA, storeA, pickC, setAt, mapO, argsE, X.isC, resA, oneA, unA, boundA, eqiA, eqsA, fillA, fillE, ASt.fz, strA, Nat.reduceEqDiff, Nat.reduceLT, ↓reduceIte, reduceCtorEq, Nat.reduceAdd, Nat.reduceLeDiff, Int.reduceBEq, Int.reduceBNe, Int.reduceLT, Int.reduceLE, Int.reduceGT, Int.reduceGE, Nat.reduceDiv, Nat.reduceMul, Nat.reduceBEq, Nat.reduceMod, Nat.reduceSub, h3, k1, k2, k3, e0, aw]
  · simp only [pf5, ↓wpre, wset, wcore, ne_eq, if_true, if_false, exists_eq_left', true_implies, false_implies, exists_const, exists_eq_right, binA, intA, loadA, storeA, pickC, setAt, mapO, argsE, X.isC, resA, oneA, unA, boundA, eqiA, eqsA, fillA, fillE, ASt.fz, strA, Nat.reduceEqDiff, Nat.reduceLT, ↓reduceIte, reduceCtorEq, Nat.reduceAdd, Nat.reduceLeDiff, Int.reduceBEq, Int.reduceBNe, Int.reduceLT, Int.reduceLE, Int.reduceGT, Int.reduceGE, Nat.reduceDiv, Nat.reduceMul, Nat.reduceBEq, Nat.reduceMod, Nat.reduceSub, h3, aw]
end Go.Proofs.Eng
