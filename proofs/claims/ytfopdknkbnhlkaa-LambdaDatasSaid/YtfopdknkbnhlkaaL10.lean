/- L10: what functions of the program return. No conditions beyond those in the theorems. -/
import Derived.Test.YtfopdknkbnhlkaaD5
import Derived.Test.YtfopdknkbnhlkaaF3
import Derived.Test.YtfopdknkbnhlkaaL3
set_option linter.all false
set_option linter.deprecated false
set_option linter.unnecessarySimpa false
set_option linter.unusedVariables false
set_option linter.unusedSimpArgs false
set_option linter.defProp false
namespace Go.Proofs.Eng
open Go Go.Proofs
set_option maxRecDepth 100000
set_option maxHeartbeats 4000000
theorem datas_law {e : Ex} {a : AV} (h : e.Is a) : Out md pfs 10 [a] (· = .bool true) fun _ => False := by
  obtain ⟨_, rfl, c0⟩ := (small_ret e h (nodes := 60) (depth := 60)).call rfl (by simp [pvs_cons, pvs_nil, pv_v, exPure _ h])
  obtain ⟨_, rfl, c4⟩ := awake_ret.call rfl (by simp [pvs_nil])
  obtain ⟨_, ⟨ad, rfl, hd⟩, c1⟩ := (Data_ret h).call rfl (by simp [pvs_cons, pvs_nil, exPure _ h])
  obtain ⟨_, ⟨bd, rfl, hb⟩, c2⟩ := (rData_ret e h).call rfl (by simp [pvs_cons, pvs_nil, exPure _ h])
  obtain ⟨_, rfl, c3⟩ := (sameData_ret _ hd hb).call rfl (by simp [pvs_cons, pvs_nil, dtPure _ hd, dtPure _ hb])
  obtain ⟨cd, rfl, q1, q2⟩ := dtAgg.cells hd
  obtain ⟨cb, rfl, r1, r2⟩ := dtAgg.cells hb
  have q3 : cd.take 2 = cd := List.take_of_length_le (by omega)
  have r3 : cb.take 2 = cb := List.take_of_length_le (by omega)
  obtain ⟨c, rfl, l1, l2⟩ := exAgg.cells h
  have l3 : c.take 5 = c := List.take_of_length_le (by omega)
  refine out_of pf10_is (Nat.le_of_ble_eq_true rfl) ?_
  generalize e.data.isSome = bo at c1 c2
  cases hs : e.small 60 60 with
  | none =>
    rw [hs] at c0
    simp only [smallAV] at c0
    simp only [pf10, ↓wpre, wset, wcore, ne_eq, if_true, if_false, exists_eq_left', true_implies, false_implies, exists_const, exists_eq_right, binA, intA, loadA, storeA, pickC, setAt, mapO, argsE, X.isC, resA, oneA, unA, boundA, eqiA, eqsA, fillA, fillE, ASt.fz, strA, Nat.reduceEqDiff, Nat.reduceLT, ↓reduceIte, reduceCtorEq, Nat.reduceAdd, Nat.reduceLeDiff, Int.reduceBEq, Int.reduceBNe, Int.reduceLT, Int.reduceLE, Int.reduceGT, Int.reduceGE, Nat.reduceDiv, Nat.reduceMul, l1, l3, c0, c4]
  | some m =>
    rw [hs] at c0
    simp only [smallAV] at c0
    cases bo <;> simp only [pf10, ↓wpre, wset, wcore, ne_eq, if_true, if_false, exists_eq_left', true_implies, false_implies, exists_const, exists_eq_right, binA, intA, loadA, storeA, pickC, setAt, mapO, argsE, X.isC, resA, oneA, unA, boundA, eqiA, eqsA, fillA, fillE, ASt.fz, strA, Nat.reduceEqDiff, Nat.reduceLT, ↓reduceIte, reduceCtorEq, Nat.reduceAdd, Nat.reduceLeDiff, Int.reduceBEq, Int.reduceBNe, Int.reduceLT, Int.reduceLE, Int.reduceGT, Int.reduceGE, Nat.reduceDiv, Nat.reduceMul, l1, l3, c0, c1, c2, c3, c4, q1, q2, q3, r1, r2, r3]
end Go.Proofs.Eng
