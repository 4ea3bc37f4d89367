/- L5: what functions of the program return. No conditions beyond those in the theorems. -/
import Derived.Test.YtfopdknkbnhlkaaK3
import Derived.Test.YtfopdknkbnhlkaaF3
import Derived.Test.YtfopdknkbnhlkaaL3
set_option linter.all false
set_option linter.deprecated false
set_option linter.unnecessarySimpa false
set_option linter.unusedVariables false
set_option linter.unusedSimpArgs false
set_option linter.defProp false
namespace Go.Proofs.Eng
open Go Go.Proofs
set_option maxRecDepth 100000
set_option maxHeartbeats 4000000
theorem moves_law {p : Pr} {pa : AV} (hp : p.Is pa) {e : Ex} {a : AV} (h : e.Is a) : Out md pfs 5 [pa, a] (· = .bool true) fun _ => False := by
  have hpp := prPure hp
  obtain ⟨_, rfl, c0⟩ := (Few_ret hp).call rfl (by simp [pvs_cons, pvs_nil, hpp])
  obtain ⟨_, rfl, c1⟩ := (rCheck_ret hp).call rfl (by simp [pvs_cons, pvs_nil, hpp])
  obtain ⟨_, rfl, c2⟩ := (few_ret hp (t := .cap 1) (LIs.one h) rfl (by unfold lenB; simp)).call rfl (by simp [pvs_cons, pvs_nil, pv_sl, tp_cap, hpp, exPure _ h])
  obtain ⟨_, rfl, c4⟩ := awake_ret.call rfl (by simp [pvs_nil])
  obtain ⟨c, rfl, l1, l2⟩ := exAgg.cells h
  have l3 : c.take 5 = c := List.take_of_length_le (by omega)
  generalize hb1 : ([e].all (Ex.few p.gl) && decide ((([AV.agg c] : List AV).length : Int) ≤ 6)) = q1 at c2
  obtain ⟨gas, tg, cm, rfl, h1, h2, h3, h4, h5, h6, h7, h8, h9, h10⟩ := id hp
  refine out_of pf5_is (Nat.le_of_ble_eq_true rfl) ?_
  cases b0 : p.few
  · simp only [pf5, ↓wpre, wset, wcore, ne_eq, if_true, if_false, exists_eq_left', true_implies, false_implies, exists_const, exists_eq_right, binA, intA, loadA, storeA, pickC, setAt, mapO, argsE, X.isC, resA, oneA, unA, boundA, eqiA, eqsA, fillA, fillE, ASt.fz, strA, Nat.reduceEqDiff, Nat.reduceLT, ↓reduceIte, reduceCtorEq, Nat.reduceAdd, Nat.reduceLeDiff, Int.reduceBEq, Int.reduceBNe, Int.reduceLT, Int.reduceLE, Int.reduceGT, Int.reduceGE, Nat.reduceDiv, Nat.reduceMul, h5, h6, l1, l3, c0, b0, c4]
  cases b1 : (p.check != 0)
  case true => simp only [pf5, ↓wpre, wset, wcore, ne_eq, if_true, if_false, exists_eq_left', true_implies, false_implies, exists_const, exists_eq_right, binA, intA, loadA, storeA, pickC, setAt, mapO, argsE, X.isC, resA, oneA, unA, boundA, eqiA, eqsA, fillA, fillE, ASt.fz, strA, Nat.reduceEqDiff, Nat.reduceLT, ↓reduceIte, reduceCtorEq, Nat.reduceAdd, Nat.reduceLeDiff, Int.reduceBEq, Int.reduceBNe, Int.reduceLT, Int.reduceLE, Int.reduceGT, Int.reduceGE, Nat.reduceDiv, Nat.reduceMul, h5, h6, l1, l3, c0, c1, b0, b1, c4]
  cases q1
  · simp only [pf5, ↓wpre, wset, wcore, ne_eq, if_true, if_false, exists_eq_left', true_implies, false_implies, exists_const, exists_eq_right, binA, intA, loadA, storeA, pickC, setAt, mapO, argsE, X.isC, resA, oneA, unA, boundA, eqiA, eqsA, fillA, fillE, ASt.fz, strA, Nat.reduceEqDiff, Nat.reduceLT, ↓reduceIte, reduceCtorEq, Nat.reduceAdd, Nat.reduceLeDiff, Int.reduceBEq, Int.reduceBNe, Int.reduceLT, Int.reduceLE, Int.reduceGT, Int.reduceGE, Nat.reduceDiv, Nat.reduceMul, h5, h6, l1, l3, c0, c1, c2, b0, b1, c4]
  have f1 : e.few p.gl = true := by simp at hb1; exact hb1
  have w1 := few_all f1
  have g1 := few_gd f1
  obtain ⟨_, ⟨ax, rfl, hax⟩, k1⟩ := (Step_ret hp h w1.1 w1.2.2.2).call rfl (by simp [pvs_cons, pvs_nil, hpp, exPure _ h])
  obtain ⟨_, ⟨ay, rfl, hay⟩, k2⟩ := (rStep_ret hp (B := 1073745664) (by unfold B62; omega) e h g1.1 w1.2.2.2).call rfl (by simp [pvs_cons, pvs_nil, hpp, exPure _ h])
  obtain ⟨_, rfl, k3⟩ := (same_ret _ hax hay).call rfl (by simp [pvs_cons, pvs_nil, exPure _ hax, exPure _ hay])
  obtain ⟨cx, rfl, x1, x2⟩ := exAgg.cells hax
  obtain ⟨cy, rfl, y1, y2⟩ := exAgg.cells hay
  have x3 : cx.take 5 = cx := List.take_of_length_le (by omega)
  have y3 : cy.take 5 = cy := List.take_of_length_le (by omega)
  simp only [pf5, ↓wpre, wset, wcore, ne_eq, if_true, if_false, exists_eq_left', true_implies, false_implies, exists_const, exists_eq_right, binA, intA, loadA, storeA, pickC, setAt, mapO, argsE, X.isC, resA, oneA, unA, boundA, eqiA, eqsA, fillA, fillE, ASt.fz, strA, Nat.reduceEqDiff, Nat.reduceLT, ↓reduceIte, reduceCtorEq, Nat.reduceAdd, Nat.reduceLeDiff, Int.reduceBEq, Int.reduceBNe, Int.reduceLT, Int.reduceLE, Int.reduceGT, Int.reduceGE, Nat.reduceDiv, Nat.reduceMul, h5, h6, l1, l3, c0, c1, c2, b0, b1, c4, k1, k2, k3, x1, x2, x3, y1, y2, y3]
end Go.Proofs.Eng
