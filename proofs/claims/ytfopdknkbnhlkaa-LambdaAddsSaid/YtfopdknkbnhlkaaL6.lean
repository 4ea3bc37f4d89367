/- L6: what functions of the program return. No conditions beyond those in the theorems. -/
import Derived.Test.YtfopdknkbnhlkaaK4
import Derived.Test.YtfopdknkbnhlkaaF3
import Derived.Test.YtfopdknkbnhlkaaL3
set_option linter.all false
set_option linter.deprecated false
set_option linter.unnecessarySimpa false
set_option linter.unusedVariables false
set_option linter.unusedSimpArgs false
set_option linter.defProp false
namespace Go.Proofs.Eng
open Go Go.Proofs
set_option maxRecDepth 100000
set_option maxHeartbeats 4000000
theorem way_no (gs : List Gl) : Way gs fun _ _ => False := ⟨fun h => h.elim, fun h => h.elim⟩
/-- Evaluation of a small program, correct or not. -/
theorem Eval_any {p : Pr} {pa : AV} (hp : p.Is pa) (hf : p.few = true) {steps : Int} : Out md pfs 22 [pa, .int steps] (fun v => ∃ ax, v = .tup [ax, .int (p.eval steps).2] ∧ (p.eval steps).1.Is ax) fun _ => False := by
  by_cases h : p.check = 0
  · exact Eval_ret hp (way_of hf h) fun _ h0 h1 => way_start hf h (by omega)
  · exact Eval_ret hp (way_no _) fun h' => absurd h' h
theorem evals_law {p : Pr} {pa : AV} (hp : p.Is pa) {steps : Int} : Out md pfs 6 [pa, .int steps] (· = .bool true) fun _ => False := by
  have hpp := prPure hp
  obtain ⟨_, rfl, c0⟩ := (Few_ret hp).call rfl (by simp [pvs_cons, pvs_nil, hpp])
  obtain ⟨_, rfl, c4⟩ := awake_ret.call rfl (by simp [pvs_nil])
  cases b0 : p.few
  · obtain ⟨gas, tg, cm, rfl, h1, h2, h3, h4, h5, h6, h7, h8, h9, h10⟩ := id hp
    refine out_of pf6_is (Nat.le_of_ble_eq_true rfl) ?_
    simp only [pf6, ↓wpre, wset, wcore, ne_eq, if_true, if_false, exists_eq_left', true_implies, false_implies, exists_const, exists_eq_right, binA, intA, loadA, storeA, pickC, setAt, mapO, argsE, X.isC, resA, oneA, unA, boundA, eqiA, eqsA, fillA, fillE, ASt.fz, strA, Nat.reduceEqDiff, Nat.reduceLT, ↓reduceIte, reduceCtorEq, Nat.reduceAdd, Nat.reduceLeDiff, Int.reduceBEq, Int.reduceBNe, Int.reduceLT, Int.reduceLE, Int.reduceGT, Int.reduceGE, Nat.reduceDiv, Nat.reduceMul, h5, h6, c0, b0, c4]
  obtain ⟨_, ⟨ax, rfl, hax⟩, k1⟩ := (Eval_any hp b0 (steps := steps)).call rfl (by simp [pvs_cons, pvs_nil, pv_v, hpp])
  obtain ⟨_, ⟨ay, o, cd, y, rfl, hay, heq⟩, k2⟩ := (rEval_ret hp b0 (steps := steps)).call rfl (by simp [pvs_cons, pvs_nil, pv_v, hpp])
  obtain ⟨cx, rfl, x1, x2⟩ := exAgg.cells hax
  obtain ⟨cy, rfl, y1, y2⟩ := exAgg.cells hay
  have x3 : cx.take 5 = cx := List.take_of_length_le (by omega)
  have y3 : cy.take 5 = cy := List.take_of_length_le (by omega)
  obtain ⟨gas, tg, cm, rfl, h1, h2, h3, h4, h5, h6, h7, h8, h9, h10⟩ := id hp
  refine out_of pf6_is (Nat.le_of_ble_eq_true rfl) ?_
  cases b1 : decide (steps > 300)
  · cases o
    · have e := heq rfl
      rw [e] at hax k1
      obtain ⟨_, rfl, k3⟩ := (same_ret _ hax hay).call rfl (by simp [pvs_cons, pvs_nil, exPure _ hax, exPure _ hay])
      simp only [pf6, ↓wpre, wset, wcore, ne_eq, if_true, if_false, exists_eq_left', true_implies, false_implies, exists_const, exists_eq_right, binA, intA, loadA, storeA, pickC, setAt, mapO, argsE, X.isC, resA, oneA, unA, boundA, eqiA, eqsA, fillA, fillE, ASt.fz, strA, Nat.reduceEqDiff, Nat.reduceLT, ↓reduceIte, reduceCtorEq, Nat.reduceAdd, Nat.reduceLeDiff, Int.reduceBEq, Int.reduceBNe, Int.reduceLT, Int.reduceLE, Int.reduceGT, Int.reduceGE, Nat.reduceDiv, Nat.reduceMul, h5, h6, c0, b0, b1, c4, k1, k2, k3, x1, x2, x3, y1, y2, y3]
    · simp only [pf6, ↓wpre, wset, wcore, ne_eq, if_true, if_false, exists_eq_left', true_implies, false_implies, exists_const, exists_eq_right, binA, intA, loadA, storeA, pickC, setAt, mapO, argsE, X.isC, resA, oneA, unA, boundA, eqiA, eqsA, fillA, fillE, ASt.fz, strA, Nat.reduceEqDiff, Nat.reduceLT, ↓reduceIte, reduceCtorEq, Nat.reduceAdd, Nat.reduceLeDiff, Int.reduceBEq, Int.reduceBNe, Int.reduceLT, Int.reduceLE, Int.reduceGT, Int.reduceGE, Nat.reduceDiv, Nat.reduceMul, h5, h6, c0, b0, b1, c4, k1, k2, x1, x2, x3, y1, y2, y3]
  · cases b2 : decide (steps ≤ 1000000)
    · cases o
      · have e := heq rfl
        rw [e] at hax k1
        obtain ⟨_, rfl, k3⟩ := (same_ret _ hax hay).call rfl (by simp [pvs_cons, pvs_nil, exPure _ hax, exPure _ hay])
        simp only [pf6, ↓wpre, wset, wcore, ne_eq, if_true, if_false, exists_eq_left', true_implies, false_implies, exists_const, exists_eq_right, binA, intA, loadA, storeA, pickC, setAt, mapO, argsE, X.isC, resA, oneA, unA, boundA, eqiA, eqsA, fillA, fillE, ASt.fz, strA, Nat.reduceEqDiff, Nat.reduceLT, ↓reduceIte, reduceCtorEq, Nat.reduceAdd, Nat.reduceLeDiff, Int.reduceBEq, Int.reduceBNe, Int.reduceLT, Int.reduceLE, Int.reduceGT, Int.reduceGE, Nat.reduceDiv, Nat.reduceMul, h5, h6, c0, b0, b1, b2, c4, k1, k2, k3, x1, x2, x3, y1, y2, y3]
      · simp only [pf6, ↓wpre, wset, wcore, ne_eq, if_true, if_false, exists_eq_left', true_implies, false_implies, exists_const, exists_eq_right, binA, intA, loadA, storeA, pickC, setAt, mapO, argsE, X.isC, resA, oneA, unA, boundA, eqiA, eqsA, fillA, fillE, ASt.fz, strA, Nat.reduceEqDiff, Nat.reduceLT, ↓reduceIte, reduceCtorEq, Nat.reduceAdd, Nat.reduceLeDiff, Int.reduceBEq, Int.reduceBNe, Int.reduceLT, Int.reduceLE, Int.reduceGT, Int.reduceGE, Nat.reduceDiv, Nat.reduceMul, h5, h6, c0, b0, b1, b2, c4, k1, k2, x1, x2, x3, y1, y2, y3]
    · simp only [pf6, ↓wpre, wset, wcore, ne_eq, if_true, if_false, exists_eq_left', true_implies, false_implies, exists_const, exists_eq_right, binA, intA, loadA, storeA, pickC, setAt, mapO, argsE, X.isC, resA, oneA, unA, boundA, eqiA, eqsA, fillA, fillE, ASt.fz, strA, Nat.reduceEqDiff, Nat.reduceLT, ↓reduceIte, reduceCtorEq, Nat.reduceAdd, Nat.reduceLeDiff, Int.reduceBEq, Int.reduceBNe, Int.reduceLT, Int.reduceLE, Int.reduceGT, Int.reduceGE, Nat.reduceDiv, Nat.reduceMul, h5, h6, c0, b0, b1, b2, c4]
end Go.Proofs.Eng
