/- L4: what functions of the program return. No conditions beyond those in the theorems. -/
import Derived.Test.YtfopdknkbnhlkaaP4
import Derived.Test.YtfopdknkbnhlkaaF3
import Derived.Test.YtfopdknkbnhlkaaL3
set_option linter.all false
set_option linter.deprecated false
set_option linter.unnecessarySimpa false
set_option linter.unusedVariables false
set_option linter.unusedSimpArgs false
set_option linter.defProp false
namespace Go.Proofs.Eng
open Go Go.Proofs
set_option maxRecDepth 100000
set_option maxHeartbeats 4000000
theorem substs_law {e : Ex} {a : AV} (h : e.Is a) {vs : List Ex} {vas : List AV} {tv : Tl} (hvs : LIs Ex.Is vs vas) (htv : tv.pure = true) (hlen : vas.length ≤ lenB) : Out md pfs 4 [a, .sl vas tv] (· = .bool true) fun _ => False := by
  obtain ⟨_, rfl, c1⟩ := (few_ret zeroPr_is (t := .cap 1) (LIs.one h) rfl (by unfold lenB; simp)).call rfl (by simp [pvs_cons, pvs_nil, pv_sl, tp_cap, prPure zeroPr_is, exPure _ h])
  obtain ⟨_, rfl, c2⟩ := (few_ret zeroPr_is (t := tv) hvs htv hlen).call rfl (by simp [pvs_cons, pvs_nil, pv_sl, htv, prPure zeroPr_is, exsPure hvs])
  obtain ⟨_, rfl, c4⟩ := awake_ret.call rfl (by simp [pvs_nil])
  obtain ⟨c, rfl, l1, l2⟩ := exAgg.cells h
  have l3 : c.take 5 = c := List.take_of_length_le (by omega)
  generalize hb1 : ([e].all (Ex.few zeroPr.gl) && decide ((([AV.agg c] : List AV).length : Int) ≤ 6)) = q1 at c1
  generalize hb2 : (vs.all (Ex.few zeroPr.gl) && decide ((vas.length : Int) ≤ 6)) = q2 at c2
  refine out_of pf4_is (Nat.le_of_ble_eq_true rfl) ?_
  cases q1
  · simp only [pf4, ↓wpre, wset, wcore, ne_eq, if_true, if_false, exists_eq_left', true_implies, false_implies, exists_const, exists_eq_right, binA, intA, loadA, storeA, pickC, setAt, mapO, argsE, X.isC, resA, oneA, unA, boundA, eqiA, eqsA, fillA, fillE, ASt.fz, strA, Nat.reduceEqDiff, Nat.reduceLT, ↓reduceIte, reduceCtorEq, Nat.reduceAdd, Nat.reduceLeDiff, Int.reduceBEq, Int.reduceBNe, Int.reduceLT, Int.reduceLE, Int.reduceGT, Int.reduceGE, Nat.reduceDiv, Nat.reduceMul, l1, l3, c1, c4]
  · cases q2
    · simp only [pf4, ↓wpre, wset, wcore, ne_eq, if_true, if_false, exists_eq_left', true_implies, false_implies, exists_const, exists_eq_right, binA, intA, loadA, storeA, pickC, setAt, mapO, argsE, X.isC, resA, oneA, unA, boundA, eqiA, eqsA, fillA, fillE, ASt.fz, strA, Nat.reduceEqDiff, Nat.reduceLT, ↓reduceIte, reduceCtorEq, Nat.reduceAdd, Nat.reduceLeDiff, Int.reduceBEq, Int.reduceBNe, Int.reduceLT, Int.reduceLE, Int.reduceGT, Int.reduceGE, Nat.reduceDiv, Nat.reduceMul, l1, l3, c1, c2, c4]
    · have f1 : e.few zeroPr.gl = true := by simp at hb1; exact hb1
      have f2 : ∀ v ∈ vs, v.few zeroPr.gl = true := by simp at hb2; exact hb2.1
      have w1 := few_all f1
      obtain ⟨x, hx, c5⟩ := (subst_ret h w1.2.1 w1.2.2.1 hvs htv (fun v hv => ⟨(few_all (f2 v hv)).2.1, (few_all (f2 v hv)).2.2.1⟩)).call rfl (by simp [pvs_cons, pvs_nil, pv_sl, htv, exPure _ h, exsPure hvs])
      obtain ⟨y, hy, c6⟩ := (rsubst_ret h w1.2.1 w1.2.2.1 hvs htv (fun v hv => (few_all (f2 v hv)).2.2.1)).call rfl (by simp [pvs_cons, pvs_nil, pv_sl, htv, exPure _ h, exsPure hvs])
      rw [rsubst_eq (B := 1073745664) (by unfold B62; omega) (few_gd f1).1 fun v hv => (few_gd (f2 v hv)).1] at hy
      obtain ⟨_, rfl, c7⟩ := (same_ret _ hx hy).call rfl (by simp [pvs_cons, pvs_nil, exPure _ hx, exPure _ hy])
      simp only [pf4, ↓wpre, wset, wcore, ne_eq, if_true, if_false, exists_eq_left', true_implies, false_implies, exists_const, exists_eq_right, binA, intA, loadA, storeA, pickC, setAt, mapO, argsE, X.isC, resA, oneA, unA, boundA, eqiA, eqsA, fillA, fillE, ASt.fz, strA, Nat.reduceEqDiff, Nat.reduceLT, ↓reduceIte, reduceCtorEq, Nat.reduceAdd, Nat.reduceLeDiff, Int.reduceBEq, Int.reduceBNe, Int.reduceLT, Int.reduceLE, Int.reduceGT, Int.reduceGE, Nat.reduceDiv, Nat.reduceMul, l1, l3, c1, c2, c4, c5, c6, c7]
end Go.Proofs.Eng
