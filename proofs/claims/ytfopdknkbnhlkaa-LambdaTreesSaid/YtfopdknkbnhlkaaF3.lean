/- F3: what functions of the program return. No conditions beyond those in the theorems. -/
import Derived.Test.YtfopdknkbnhlkaaF2
set_option linter.all false
set_option linter.deprecated false
set_option linter.unnecessarySimpa false
set_option linter.unusedVariables false
set_option linter.unusedSimpArgs false
set_option linter.defProp false
namespace Go.Proofs.Eng
open Go Go.Proofs
set_option maxRecDepth 100000
set_option maxHeartbeats 8000000
def zeroPr : Pr := ⟨[], .zero⟩
theorem zeroPr_is : zeroPr.Is (.agg [.sl [] .nil, .int 0, .int 0, .str ⟨#[]⟩, .sl [] .nil, .sl [] .nil]) := ⟨[], .nil, _, rfl, rfl, by simp, trivial, zeroIs, rfl, rfl, rfl, by simp [pvs_cons, pvs_nil, pv_v, pv_sl, tp_nil], by rw [pvs_nil], rfl⟩
theorem awake_ret : Out md pfs 13 [] (· = .bool true) fun _ => False := by
  have hL : ∀ {l : List AV}, l.length ≤ 10 → l.length ≤ lenB := fun h => by unfold lenB; omega
  obtain ⟨pa, hp, k0⟩ := (plus_ret (n := 1) (m := 1) (by omega) (by omega)).call rfl (by simp [pvs_cons, pvs_nil, pv_v])
  obtain ⟨_, ⟨a8, rfl, hv8⟩, k1⟩ := (Eval_ret hp (way_of p11_few p11_check) (steps := 8) (fun _ _ h => way_start p11_few p11_check (by omega))).call rfl (by simp [pvs_cons, pvs_nil, pv_v, prPure hp])
  obtain ⟨_, ⟨a7, rfl, hv7⟩, k2⟩ := (Eval_ret hp (way_of p11_few p11_check) (steps := 7) (fun _ _ h => way_start p11_few p11_check (by omega))).call rfl (by simp [pvs_cons, pvs_nil, pv_v, prPure hp])
  rw [p11_eval8] at hv8 k1
  rw [p11_eval7] at k2
  obtain ⟨c8, rfl, m8, o8⟩ := exAgg.cells hv8
  have t8 : c8.take 5 = c8 := List.take_of_length_le (by omega)
  obtain ⟨c7, rfl, m7, o7⟩ := exAgg.cells hv7
  have var : ∀ i : Nat, i ≤ 5 → ∃ c, (Ex.var i).Is (.agg c) ∧ c.length = 5 ∧ c.all oneCell = true ∧ c.take 5 = c ∧ ∀ pm s K KP, CW (run md pfs) md pm s 34 [.int i] K KP () = K (.agg c) s := by
    intro i hi
    obtain ⟨v, h, k⟩ := (lvar_ret (i := i) (by unfold in64; omega)).call rfl (by simp [pvs_cons, pvs_nil, pv_v])
    obtain ⟨c, rfl, m, o⟩ := exAgg.cells h
    exact ⟨c, h, m, o, List.take_of_length_le (by omega), k⟩
  have node : ∀ (q : Int) {l : List Ex} {al : List AV} {t : Tl}, LIs Ex.Is l al → t.pure = true → al.length ≤ 10 → ∃ c, (nodeE q l).Is (.agg c) ∧ c.length = 5 ∧ c.all oneCell = true ∧ c.take 5 = c ∧ ∀ pm s K KP, CW (run md pfs) md pm s 33 [.int q, .sl al t] K KP () = K (.agg c) s := by
    intro q l al t hl ht hlen
    obtain ⟨v, h, k⟩ := (node_ret q hl ht (hL hlen)).call rfl (by simp [pvs_cons, pvs_nil, pv_v, pv_sl, ht, exsPure hl])
    obtain ⟨c, rfl, m, o⟩ := exAgg.cells h
    exact ⟨c, h, m, o, List.take_of_length_le (by omega), k⟩
  obtain ⟨x0, v0, m0, o0, t0, q0⟩ := var 0 (by omega)
  obtain ⟨x1, v1, m1, o1, t1, q1⟩ := var 1 (by omega)
  obtain ⟨x2, v2, m2, o2, t2, q2⟩ := var 2 (by omega)
  obtain ⟨x3, v3, m3, o3, t3, q3⟩ := var 3 (by omega)
  obtain ⟨x4, v4, m4, o4, t4, q4⟩ := var 4 (by omega)
  simp only [Int.cast_ofNat_Int] at q0 q1 q2 q3 q4
  obtain ⟨y1, w1, n1, p1, u1, r1⟩ := node 2 (l := [.var 0, .var 2]) (al := [.agg x0, .agg x2]) (t := .cap 2) ⟨v0, v2, trivial⟩ rfl (by simp)
  obtain ⟨y2, w2, n2, p2, u2, r2⟩ := node 1 (l := [.var 0]) (al := [.agg x0]) (t := .cap 1) ⟨v0, trivial⟩ rfl (by simp)
  obtain ⟨y3, w3, n3, p3, u3, r3⟩ := node 2 (l := [.var 0, .var 1]) (al := [.agg x0, .agg x1]) (t := .cap 2) ⟨v0, v1, trivial⟩ rfl (by simp)
  obtain ⟨y4, w4, n4, p4, u4, r4⟩ := node 1 (t := .cap 1) (LIs.one w3) rfl (by simp)
  obtain ⟨y5, w5, n5, p5, u5, r5⟩ := node 6 (l := []) (al := []) (t := .nil) trivial rfl (by simp)
  obtain ⟨y6, w6, n6, p6, u6, r6⟩ := node 9 (t := .cap 1) (LIs.one w5) rfl (by simp)
  obtain ⟨y7, w7, n7, p7, u7, r7⟩ := node 2 (l := [nodeE 1 [.var 0], .var 1]) (al := [.agg y2, .agg x1]) (t := .cap 2) ⟨w2, v1, trivial⟩ rfl (by simp)
  obtain ⟨y8, w8, n8, p8, u8, r8⟩ := node 2 (l := [.var 0, .var 4]) (al := [.agg x0, .agg x4]) (t := .cap 2) ⟨v0, v4, trivial⟩ rfl (by simp)
  obtain ⟨y9, w9, n9, p9, u9, r9⟩ := node 1 (t := .cap 1) (LIs.one w8) rfl (by simp)
  have wf1 : (nodeE 2 [.var 0, .var 2]).wf := by simp only [nodeE, Ex.var, Ex.wf, wfL, and_true]; decide
  have wf2 : (nodeE 1 [.var 0]).wf := by simp only [nodeE, Ex.var, Ex.wf, wfL, and_true]; decide
  have wf3 : (nodeE 1 [nodeE 2 [.var 0, .var 1]]).wf := by simp only [nodeE, Ex.var, Ex.wf, wfL, and_true]; decide
  have wf4 : (Ex.var 3).wf := by simp only [nodeE, Ex.var, Ex.wf, wfL, and_true]; decide
  have wf5 : (Ex.mk 4 0 ⟨#[]⟩ [] [nodeE 6 []]).wf := by simp only [nodeE, Ex.var, Ex.wf, wfL, and_true]; decide
  have wf6 : (nodeE 9 [nodeE 6 []]).wf := by simp only [nodeE, Ex.var, Ex.wf, wfL, and_true]; decide
  have fs : ∀ e : Ex, e.wf → e.dep ≤ 10 → e.fits 0 ∧ e.slim := fun e h hd => ⟨fits_of e h (by omega) (by unfold B62; omega), slim_of e h⟩
  have d1 := fs _ wf1 (by decide)
  have d2 := fs _ wf2 (by decide)
  have d3 := fs _ wf3 (by decide)
  have d4 := fs _ wf4 (by decide)
  obtain ⟨s1, hs1, z1⟩ := (subst_ret w1 d1.1 d1.2 (vs := [nodeE 1 [.var 0]]) (vas := [.agg y2]) (tv := .cap 1) (LIs.one w2) rfl (fun v hv => by simp at hv; subst hv; exact d2)).call rfl (by simp [pvs_cons, pvs_nil, pv_sl, tp_cap, exPure _ w1, exPure _ w2])
  obtain ⟨s2, hs2, z2⟩ := (subst_ret w4 d3.1 d3.2 (vs := [.var 3]) (vas := [.agg x3]) (tv := .cap 1) (LIs.one v3) rfl (fun v hv => by simp at hv; subst hv; exact d4)).call rfl (by simp [pvs_cons, pvs_nil, pv_sl, tp_cap, exPure _ w4, exPure _ v3])
  rw [show (nodeE 2 [.var 0, .var 2]).subst [nodeE 1 [.var 0]] = nodeE 2 [nodeE 1 [.var 0], .var 1] from by kernel_rfl] at hs1
  rw [show (nodeE 1 [nodeE 2 [.var 0, .var 1]]).subst [.var 3] = nodeE 1 [nodeE 2 [.var 0, .var 4]] from by kernel_rfl] at hs2
  obtain ⟨e1, rfl, e1l, e1o⟩ := exAgg.cells hs1
  have e1t : e1.take 5 = e1 := List.take_of_length_le (by omega)
  obtain ⟨e2, rfl, e2l, e2o⟩ := exAgg.cells hs2
  have e2t : e2.take 5 = e2 := List.take_of_length_le (by omega)
  have hcase : (Ex.mk 4 0 ⟨#[]⟩ [] [nodeE 6 []]).Is (.agg [.int 4, .int 0, .str ⟨#[]⟩, .sl [] .nil, .sl [.agg y5] (.cap 1)]) := Ex.Is.mk (s := []) rfl rfl ⟨by unfold in64; omega, by decide⟩ (by simp) (hL (by simp)) (LIs.one w5)
  obtain ⟨_, ⟨g1, rfl, hg1⟩, z3⟩ := (Step_ret zeroPr_is hcase wf5 (by have : (Ex.mk 4 0 ⟨#[]⟩ [] [nodeE 6 []]).dep = 2 := rfl; rw [this]; decide)).call rfl (by simp [pvs_cons, pvs_nil, exPure _ hcase, prPure zeroPr_is])
  obtain ⟨_, ⟨g2, rfl, hg2⟩, z4⟩ := (Step_ret zeroPr_is w6 wf6 (by have : (nodeE 9 [nodeE 6 []]).dep = 2 := rfl; rw [this]; decide)).call rfl (by simp [pvs_cons, pvs_nil, exPure _ w6, prPure zeroPr_is])
  rw [show (Ex.mk 4 0 ⟨#[]⟩ [] [nodeE 6 []]).stp zeroPr.gs = (.zero, false, 10) from by kernel_rfl] at hg1 z3
  rw [show (nodeE 9 [nodeE 6 []]).stp zeroPr.gs = (nodeE 6 [], true, 0) from by kernel_rfl] at hg2 z4
  obtain ⟨g1c, rfl, g1l, g1o⟩ := exAgg.cells hg1
  obtain ⟨g2c, rfl, g2l, g2o⟩ := exAgg.cells hg2
  have g2t : g2c.take 5 = g2c := List.take_of_length_le (by omega)
  obtain ⟨nm, hn2, k3⟩ := (num_ret (n := 2) (by omega)).call rfl (by simp [pvs_cons, pvs_nil, pv_v])
  obtain ⟨_, rfl, f1⟩ := (same_ret _ hv8 hn2).call rfl (by simp [pvs_cons, pvs_nil, exPure _ hv8, exPure _ hn2])
  obtain ⟨_, rfl, f2⟩ := (same_ret _ hs1 w7).call rfl (by simp [pvs_cons, pvs_nil, exPure _ hs1, exPure _ w7])
  obtain ⟨_, rfl, f3⟩ := (same_ret _ hs2 w9).call rfl (by simp [pvs_cons, pvs_nil, exPure _ hs2, exPure _ w9])
  obtain ⟨_, rfl, f4⟩ := (same_ret _ hg2 w5).call rfl (by simp [pvs_cons, pvs_nil, exPure _ hg2, exPure _ w5])
  simp only [Int.cast_ofNat_Int] at k3 k0
  refine out_of pf13_is (Nat.le_of_ble_eq_true rfl) ?_
  simp only [pf13, ↓wpre, wset, wcore, ne_eq, if_true, if_false, exists_eq_left', true_implies, false_implies, exists_const, exists_eq_right, binA, intA, loadA, storeA, pickC, setAt, mapO, argsE, X.isC, resA, oneA, unA, boundA, eqiA, eqsA, fillA, fillE, ASt.fz, strA, Nat.reduceEqDiff, Nat.reduceLT, ↓reduceIte, reduceCtorEq, Nat.reduceAdd, Nat.reduceLeDiff, Int.reduceBEq, Int.reduceBNe, Int.reduceLT, Int.reduceLE, Int.reduceGT, Int.reduceGE, Nat.reduceDiv, Nat.reduceMul, k0, k1, k2, k3, q0, q1, q2, q3, q4, r1, r2, r3, r4, r5, r6, r7, r8, r9, z1, z2, z3, z4, f1, f2, f3, f4, m8, o8, t8, m7, o7, e1l, e1o, e1t, e2l, e2o, e2t, g1l, g1o, g2l, g2o, g2t, m0, m1, m2, m3, m4, n1, n2, n3, n4, n5, n6, n7, n8, n9]
end Go.Proofs.Eng
