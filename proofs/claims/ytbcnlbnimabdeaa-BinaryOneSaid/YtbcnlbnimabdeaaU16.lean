/- The laws of GetTerms. No conditions beyond those in the theorems. -/
import Derived.Test.YtbcnlbnimabdeaaU14
import Derived.Test.YtbcnlbnimabdeaaU15
set_option linter.all false
set_option linter.deprecated false
set_option linter.unnecessarySimpa false
set_option linter.unusedVariables false
set_option linter.unusedSimpArgs false
set_option linter.defProp false
namespace Go.Proofs.Eng
open Go Go.Proofs
set_option maxRecDepth 100000
set_option maxHeartbeats 8000000
theorem GetP.pure {s : ByteArray} {v : AV} (h : GetP s v) : pureAV v = true := by
  rcases h with ⟨l, al, t, q, _, _, _, rfl, h5, h6, _⟩ | ⟨_, rfl⟩
  · simp [pv_tup, pvs_cons, pvs_nil, pv_v, pv_sl, h6, tmsPure h5]
  · simp [pv_tup, pvs_cons, pvs_nil, pv_v, pv_sl, Tl.pure]
theorem getS_one {s : List UInt8} {a : List UInt8} {k : Nat} (h : getS s = some (a, k)) : k ≤ s.length ∧ a.length ≤ 65536 ∧ s.take k = encN a.length ++ a := by
  unfold getS at h
  obtain ⟨⟨n, j⟩, h1, h⟩ := Option.bind_eq_some_iff.1 h
  obtain ⟨g1, g2, g3⟩ := getN_one h1
  split at h
  · cases h
  · rename_i hc
    simp only [Option.some.injEq, Prod.mk.injEq] at h
    obtain ⟨rfl, rfl⟩ := h
    have hl : ((s.drop j).take n).length = n := by rw [List.length_take, List.length_drop]; simp only at hc; omega
    rw [hl]
    refine ⟨by simp only at hc; omega, by simp only at hc; omega, ?_⟩
    rw [← g3, List.take_add]
theorem one_law (s : ByteArray) : Out md pfs 11 [.str s] (· = .bool true) fun _ => False := by
  obtain ⟨_, rfl, aw⟩ := awake_ret.call rfl (by simp [pvs_nil])
  refine out_of pf11_is (Nat.le_of_ble_eq_true rfl) ?_
  cases h3 : decide ((s.size : Int) > 300)
  · have hs : s.size ≤ 300 := by simp only [decide_eq_false_iff_not] at h3; omega
    have hcap : s.size ≤ capB := by unfold capB; omega
    have x0 : ((0 : Int) == 0) = true := rfl
    have x28 : ((28 : Int) == 0) = false := rfl
    have y0 : ((0 : Int) != 0) = false := rfl
    have hlt : ∀ k : Nat, decide ((k : Int) < 0) = false := fun k => by simp
    have hle0 : ∀ k : Nat, (0 ≤ (k : Int)) = True := fun k => eq_true (by omega)
    have str : ∀ (l : List UInt8) (q : Nat), q ≤ s.size → s.toList.take q = l → ((strOf l).toList == (s.extract 0 q).toList) = true := fun l q hq h => by
      rw [(str_take hq).2 h.symm]; simp
    obtain ⟨_, rfl, n1⟩ := (GetNumber_ret hcap).call rfl (by simp [pvs_cons, pvs_nil, pv_v])
    obtain ⟨_, rfl, s1⟩ := (GetString_ret hcap).call rfl (by simp [pvs_cons, pvs_nil, pv_v])
    obtain ⟨_, g1, t1⟩ := (GetTerms_ret (s := s) hcap (put_bound hs)).call rfl (by simp [pvs_cons, pvs_nil, pv_v])
    have hx0 : ∀ k : Nat, (((0 : Nat) : Int) ≤ (k : Int)) = True := fun k => eq_true (by omega)
    have hNum : (getNumR s = .tup [.int 0, .int 0, .int 28]) ∨ ∃ n k : Nat, getNumR s = .tup [.int n, .int k, .int 0] ∧ n ≤ mostN ∧ k ≤ s.size ∧ s.toList.take k = encN n := by
      cases hg : getN s.toList with
      | none => exact Or.inl (by rw [getNumR, hg])
      | some x =>
        obtain ⟨n, k⟩ := x
        obtain ⟨a, b, c⟩ := getN_one hg
        rw [toList_len] at b
        exact Or.inr ⟨n, k, by rw [getNumR, hg], a, b, c⟩
    have hStr : (getStrR s = .tup [.str ⟨#[]⟩, .int 0, .int 28]) ∨ ∃ (a : List UInt8) (k : Nat), getStrR s = .tup [.str (strOf a), .int k, .int 0] ∧ a.length ≤ 65536 ∧ k ≤ s.size ∧ s.toList.take k = encN a.length ++ a := by
      cases hg : getS s.toList with
      | none => exact Or.inl (by rw [getStrR, hg])
      | some x =>
        obtain ⟨a, k⟩ := x
        obtain ⟨b, c, d⟩ := getS_one hg
        rw [toList_len] at b
        exact Or.inr ⟨a, k, by rw [getStrR, hg], c, b, d⟩
    have gt : ∀ q : Nat, q ≤ s.size → decide ((q : Int) > (s.size : Int)) = false := fun q h => by simp; omega
    have le : ∀ q : Nat, q ≤ s.size → ((q : Int) ≤ (s.size : Int)) = True := fun q h => eq_true (by omega)
    rcases hNum with e1 | ⟨n, k, e1, e2, e3, e4⟩
    · rw [e1] at n1
      rcases hStr with f1 | ⟨a, j, f1, f2, f3, f4⟩
      · rw [f1] at s1
        rcases g1 with ⟨l, al, t, q, a1, a2, a3, rfl, a5, a6, a7⟩ | ⟨_, rfl⟩
        · obtain ⟨hA, hF⟩ := getT_allR a1
          obtain ⟨b1, b2⟩ := put_bound hs _ _ a1
          obtain ⟨_, rfl, t2⟩ := (PutTerms_ret a5 a6 a7 hF (fun _ => b1) (fun _ => b2)).call rfl (by simp [pvs_cons, pvs_nil, pv_sl, a6, tmsPure a5])
          rw [show putR l = (putT l, 0) from by rw [putR, if_pos hA]] at t2
          have t3 := str _ _ a2 a3.symm
          have t4 := gt _ a2
          have t5 := le _ a2
          simp only [pf11, ↓wpre, wset, wcore, ne_eq, if_true, if_false, exists_eq_left', true_implies, false_implies, exists_const, exists_eq_right, binA, intA, loadA, storeA, pickC, setAt, mapO, argsE, X.isC, resA, oneA, unA, boundA, eqiA, eqsA, fillA, fillE, ASt.fz, strA, Nat.reduceEqDiff, Nat.reduceLT, ↓reduceIte, reduceCtorEq, Nat.reduceAdd, Nat.reduceLeDiff, Int.reduceBEq, Int.reduceBNe, Int.reduceLT, Int.reduceLE, Int.reduceGT, Int.reduceGE, Nat.reduceDiv, Nat.reduceMul, Nat.reduceBEq, Nat.reduceMod, Nat.reduceSub, h3, x0, x28, y0, hlt, hle0, hx0, aw, n1, s1, t1, t2, t3, t4, t5]
        · simp only [pf11, ↓wpre, wset, wcore, ne_eq, if_true, if_false, exists_eq_left', true_implies, false_implies, exists_const, exists_eq_right, binA, intA, loadA, storeA, pickC, setAt, mapO, argsE, X.isC, resA, oneA, unA, boundA, eqiA, eqsA, fillA, fillE, ASt.fz, strA, Nat.reduceEqDiff, Nat.reduceLT, ↓reduceIte, reduceCtorEq, Nat.reduceAdd, Nat.reduceLeDiff, Int.reduceBEq, Int.reduceBNe, Int.reduceLT, Int.reduceLE, Int.reduceGT, Int.reduceGE, Nat.reduceDiv, Nat.reduceMul, Nat.reduceBEq, Nat.reduceMod, Nat.reduceSub, h3, x0, x28, y0, hlt, hle0, hx0, aw, n1, s1, t1]
      · rw [f1] at s1
        obtain ⟨_, rfl, s2⟩ := (PutString_ret (strOf a)).call rfl (by simp [pvs_cons, pvs_nil, pv_v])
        rw [show putS (strOf a) = (encN a.length ++ a, 0) from by rw [putS, if_neg (by rw [strOf_size]; omega), strOf_size, strOf_toList]] at s2
        have s3 := str _ _ f3 f4
        have s4 := gt _ f3
        have s5 := le _ f3
        rcases g1 with ⟨l, al, t, q, a1, a2, a3, rfl, a5, a6, a7⟩ | ⟨_, rfl⟩
        · obtain ⟨hA, hF⟩ := getT_allR a1
          obtain ⟨b1, b2⟩ := put_bound hs _ _ a1
          obtain ⟨_, rfl, t2⟩ := (PutTerms_ret a5 a6 a7 hF (fun _ => b1) (fun _ => b2)).call rfl (by simp [pvs_cons, pvs_nil, pv_sl, a6, tmsPure a5])
          rw [show putR l = (putT l, 0) from by rw [putR, if_pos hA]] at t2
          have t3 := str _ _ a2 a3.symm
          have t4 := gt _ a2
          have t5 := le _ a2
          simp only [pf11, ↓wpre, wset, wcore, ne_eq, if_true, if_false, exists_eq_left', true_implies, false_implies, exists_const, exists_eq_right, binA, intA, loadA, storeA, pickC, setAt, mapO, argsE, X.isC, resA, oneA, unA, boundA, eqiA, eqsA, fillA, fillE, ASt.fz, strA, Nat.reduceEqDiff, Nat.reduceLT, ↓reduceIte, reduceCtorEq, Nat.reduceAdd, Nat.reduceLeDiff, Int.reduceBEq, Int.reduceBNe, Int.reduceLT, Int.reduceLE, Int.reduceGT, Int.reduceGE, Nat.reduceDiv, Nat.reduceMul, Nat.reduceBEq, Nat.reduceMod, Nat.reduceSub, h3, x0, x28, y0, hlt, hle0, hx0, aw, n1, s1, t1, s2, s3, s4, s5, t2, t3, t4, t5]
        · simp only [pf11, ↓wpre, wset, wcore, ne_eq, if_true, if_false, exists_eq_left', true_implies, false_implies, exists_const, exists_eq_right, binA, intA, loadA, storeA, pickC, setAt, mapO, argsE, X.isC, resA, oneA, unA, boundA, eqiA, eqsA, fillA, fillE, ASt.fz, strA, Nat.reduceEqDiff, Nat.reduceLT, ↓reduceIte, reduceCtorEq, Nat.reduceAdd, Nat.reduceLeDiff, Int.reduceBEq, Int.reduceBNe, Int.reduceLT, Int.reduceLE, Int.reduceGT, Int.reduceGE, Nat.reduceDiv, Nat.reduceMul, Nat.reduceBEq, Nat.reduceMod, Nat.reduceSub, h3, x0, x28, y0, hlt, hle0, hx0, aw, n1, s1, t1, s2, s3, s4, s5]
    · rw [e1] at n1
      obtain ⟨_, rfl, n2⟩ := (PutNumber_ret (n : Int)).call rfl (by simp [pvs_cons, pvs_nil, pv_v])
      rw [show putN ((n : Nat) : Int) = (encN n, 0) from by rw [putN, if_neg (by unfold mostN at e2; omega)]; rfl] at n2
      have n3 := str _ _ e3 e4
      have n4 := gt _ e3
      have n5 := le _ e3
      rcases hStr with f1 | ⟨a, j, f1, f2, f3, f4⟩
      · rw [f1] at s1
        rcases g1 with ⟨l, al, t, q, a1, a2, a3, rfl, a5, a6, a7⟩ | ⟨_, rfl⟩
        · obtain ⟨hA, hF⟩ := getT_allR a1
          obtain ⟨b1, b2⟩ := put_bound hs _ _ a1
          obtain ⟨_, rfl, t2⟩ := (PutTerms_ret a5 a6 a7 hF (fun _ => b1) (fun _ => b2)).call rfl (by simp [pvs_cons, pvs_nil, pv_sl, a6, tmsPure a5])
          rw [show putR l = (putT l, 0) from by rw [putR, if_pos hA]] at t2
          have t3 := str _ _ a2 a3.symm
          have t4 := gt _ a2
          have t5 := le _ a2
          simp only [pf11, ↓wpre, wset, wcore, ne_eq, if_true, if_false, exists_eq_left', true_implies, false_implies, exists_const, exists_eq_right, binA, intA, loadA, storeA, pickC, setAt, mapO, argsE, X.isC, resA, oneA, unA, boundA, eqiA, eqsA, fillA, fillE, ASt.fz, strA, Nat.reduceEqDiff, Nat.reduceLT, ↓reduceIte, reduceCtorEq, Nat.reduceAdd, Nat.reduceLeDiff, Int.reduceBEq, Int.reduceBNe, Int.reduceLT, Int.reduceLE, Int.reduceGT, Int.reduceGE, Nat.reduceDiv, Nat.reduceMul, Nat.reduceBEq, Nat.reduceMod, Nat.reduceSub, h3, x0, x28, y0, hlt, hle0, hx0, aw, n1, s1, t1, n2, n3, n4, n5, t2, t3, t4, t5]
        · simp only [pf11, ↓wpre, wset, wcore, ne_eq, if_true, if_false, exists_eq_left', true_implies, false_implies, exists_const, exists_eq_right, binA, intA, loadA, storeA, pickC, setAt, mapO, argsE, X.isC, resA, oneA, unA, boundA, eqiA, eqsA, fillA, fillE, ASt.fz, strA, Nat.reduceEqDiff, Nat.reduceLT, ↓reduceIte, reduceCtorEq, Nat.reduceAdd, Nat.reduceLeDiff, Int.reduceBEq, Int.reduceBNe, Int.reduceLT, Int.reduceLE, Int.reduceGT, Int.reduceGE, Nat.reduceDiv, Nat.reduceMul, Nat.reduceBEq, Nat.reduceMod, Nat.reduceSub, h3, x0, x28, y0, hlt, hle0, hx0, aw, n1, s1, t1, n2, n3, n4, n5]
      · rw [f1] at s1
        obtain ⟨_, rfl, s2⟩ := (PutString_ret (strOf a)).call rfl (by simp [pvs_cons, pvs_nil, pv_v])
        rw [show putS (strOf a) = (encN a.length ++ a, 0) from by rw [putS, if_neg (by rw [strOf_size]; omega), strOf_size, strOf_toList]] at s2
        have s3 := str _ _ f3 f4
        have s4 := gt _ f3
        have s5 := le _ f3
        rcases g1 with ⟨l, al, t, q, a1, a2, a3, rfl, a5, a6, a7⟩ | ⟨_, rfl⟩
        · obtain ⟨hA, hF⟩ := getT_allR a1
          obtain ⟨b1, b2⟩ := put_bound hs _ _ a1
          obtain ⟨_, rfl, t2⟩ := (PutTerms_ret a5 a6 a7 hF (fun _ => b1) (fun _ => b2)).call rfl (by simp [pvs_cons, pvs_nil, pv_sl, a6, tmsPure a5])
          rw [show putR l = (putT l, 0) from by rw [putR, if_pos hA]] at t2
          have t3 := str _ _ a2 a3.symm
          have t4 := gt _ a2
          have t5 := le _ a2
          simp only [pf11, ↓wpre, wset, wcore, ne_eq, if_true, if_false, exists_eq_left', true_implies, false_implies, exists_const, exists_eq_right, binA, intA, loadA, storeA, pickC, setAt, mapO, argsE, X.isC, resA, oneA, unA, boundA, eqiA, eqsA, fillA, fillE, ASt.fz, strA, Nat.reduceEqDiff, Nat.reduceLT, ↓reduceIte, reduceCtorEq, Nat.reduceAdd, Nat.reduceLeDiff, Int.reduceBEq, Int.reduceBNe, Int.reduceLT, Int.reduceLE, Int.reduceGT, Int.reduceGE, Nat.reduceDiv, Nat.reduceMul, Nat.reduceBEq, Nat.reduceMod, Nat.reduceSub, h3, x0, x28, y0, hlt, hle0, hx0, aw, n1, s1, t1, n2, n3, n4, n5, s2, s3, s4, s5, t2, t3, t4, t5]
        · simp only [pf11, ↓wpre, wset, wcore, ne_eq, if_true, if_false, exists_eq_left', true_implies, false_implies, exists_const, exists_eq_right, binA, intA, loadA, storeA, pickC, setAt, mapO, argsE, X.isC, resA, oneA, unA, boundA, eqiA, eqsA, fillA, fillE, ASt.fz, strA, Nat.reduceEqDiff, Nat.reduceLT, ↓reduceIte, reduceCtorEq, Nat.reduceAdd, Nat.reduceLeDiff, Int.reduceBEq, Int.reduceBNe, Int.reduceLT, Int.reduceLE, Int.reduceGT, Int.reduceGE, Nat.reduceDiv, Nat.reduceMul, Nat.reduceBEq, Nat.reduceMod, Nat.reduceSub, h3, x0, x28, y0, hlt, hle0, hx0, aw, n1, s1, t1, n2, n3, n4, n5, s2, s3, s4, s5]
  · simp only [pf11, ↓wpre, wset, wcore, ne_eq, if_true, if_false, exists_eq_left', true_implies, false_implies, exists_const, exists_eq_right, binA, intA, loadA, storeA, pickC, setAt, mapO, argsE, X.isC, resA, oneA, unA, boundA, eqiA, eqsA, fillA, fillE, ASt.fz, strA, Nat.reduceEqDiff, Nat.reduceLT, ↓reduceIte, reduceCtorEq, Nat.reduceAdd, Nat.reduceLeDiff, Int.reduceBEq, Int.reduceBNe, Int.reduceLT, Int.reduceLE, Int.reduceGT, Int.reduceGE, Nat.reduceDiv, Nat.reduceMul, Nat.reduceBEq, Nat.reduceMod, Nat.reduceSub, h3, aw]
end Go.Proofs.Eng
