/- F2: what functions of the program return. No conditions beyond those in the theorems. -/
import Derived.Test.YtfopdknkbnhlkaaF1
import Derived.Test.YtfopdknkbnhlkaaP3
set_option linter.all false
set_option linter.deprecated false
set_option linter.unnecessarySimpa false
set_option linter.unusedVariables false
set_option linter.unusedSimpArgs false
set_option linter.defProp false
namespace Go.Proofs.Eng
open Go Go.Proofs
set_option maxRecDepth 100000
set_option maxHeartbeats 4000000
def nodeE (k : Int) (l : List Ex) : Ex := .mk k 0 ⟨#[]⟩ [] l
def plusG : Ex := .mk 5 0 plusN [] []
def plusCall : Ex := nodeE 2 [nodeE 2 [plusG, .var 0], .var 1]
def plusBody : Ex := nodeE 1 [nodeE 1 [.mk 4 0 ⟨#[]⟩ [0, 1] [.var 1, .var 0, .mk 3 1 succN [] [plusCall]]]]
def plusP (n m : Nat) : Pr := ⟨[(plusN, plusBody)], nodeE 2 [nodeE 2 [plusG, .num n], .num m]⟩
theorem plus_ret {n m : Nat} (hn : n ≤ 1000000) (hm : m ≤ 1000000) : Out md pfs 25 [.int n, .int m] (fun v => (plusP n m).Is v) fun _ => False := by
  have hi : ∀ i : Nat, i ≤ 5 → in64 i := fun i h => by unfold in64; omega
  have hgv : plusG.Is (.agg [.int 5, .int 0, .str ⟨#[112, 108, 117, 115]⟩, .sl [] .nil, .sl [] .nil]) := Ex.Is.mk (s := []) rfl rfl ⟨by unfold in64; omega, by decide⟩ (by simp) (by simp) trivial
  obtain ⟨v0, h0, c0⟩ := (lvar_ret (i := 0) (by unfold in64; omega)).call rfl (by simp [pvs_cons, pvs_nil, pv_v])
  obtain ⟨v1, h1, c1⟩ := (lvar_ret (i := 1) (by unfold in64; omega)).call rfl (by simp [pvs_cons, pvs_nil, pv_v])
  obtain ⟨w0, rfl, a0, b0⟩ := exAgg.cells h0
  obtain ⟨w1, rfl, a1, b1⟩ := exAgg.cells h1
  have hL : ∀ {l : List AV}, l.length ≤ 10 → l.length ≤ lenB := fun h => by unfold lenB; omega
  obtain ⟨v2, h2, c2⟩ := (node_ret 2 (kids := [plusG, .var 0]) (kas := [.agg [.int 5, .int 0, .str ⟨#[112, 108, 117, 115]⟩, .sl [] .nil, .sl [] .nil], .agg w0]) (t := .cap 2) ⟨hgv, h0, trivial⟩ rfl (hL (by simp))).call rfl (by simp [pvs_cons, pvs_nil, pv_v, pv_sl, tp_cap, exPure _ hgv, exPure _ h0])
  obtain ⟨w2, rfl, a2, b2⟩ := exAgg.cells h2
  obtain ⟨v3, h3, c3⟩ := (node_ret 2 (kids := [nodeE 2 [plusG, .var 0], .var 1]) (kas := [.agg w2, .agg w1]) (t := .cap 2) ⟨h2, h1, trivial⟩ rfl (hL (by simp))).call rfl (by simp [pvs_cons, pvs_nil, pv_v, pv_sl, tp_cap, exPure _ h2, exPure _ h1])
  obtain ⟨w3, rfl, a3, b3⟩ := exAgg.cells h3
  have t3 : w3.take 5 = w3 := List.take_of_length_le (by omega)
  obtain ⟨v4, h4, c4⟩ := (ctor_ret (nm := succN) (i := 1) (by decide) (by unfold in64; omega) (kids := [plusCall]) (kas := [.agg w3]) (t := .cap 1) ⟨h3, trivial⟩ rfl (hL (by simp))).call rfl (by simp [pvs_cons, pvs_nil, pv_v, pv_sl, tp_cap, exPure _ h3])
  obtain ⟨w4, rfl, a4, b4⟩ := exAgg.cells h4
  have h5 : (Ex.mk 4 0 ⟨#[]⟩ [0, 1] [.var 1, .var 0, .mk 3 1 succN [] [plusCall]]).Is (.agg [.int 4, .int 0, .str ⟨#[]⟩, .sl [.int 0, .int 1] (.cap 2), .sl [.agg w1, .agg w0, .agg w4] (.cap 3)]) := Ex.Is.mk (s := [0, 1]) rfl rfl ⟨by unfold in64; omega, by decide⟩ (by decide) (hL (by simp)) ⟨h1, h0, h4, trivial⟩
  obtain ⟨v6, h6, c6⟩ := (node_ret 1 (t := .cap 1) (LIs.one h5) rfl (hL (by simp))).call rfl (by simp [pvs_cons, pvs_nil, pv_v, pv_sl, tp_cap, exPure _ h5])
  obtain ⟨w6, rfl, a6, b6⟩ := exAgg.cells h6
  obtain ⟨v7, h7, c7⟩ := (node_ret 1 (t := .cap 1) (LIs.one h6) rfl (hL (by simp))).call rfl (by simp [pvs_cons, pvs_nil, pv_v, pv_sl, tp_cap, exPure _ h6])
  obtain ⟨w7, rfl, a7, b7⟩ := exAgg.cells h7
  obtain ⟨v8, h8, c8⟩ := (num_ret hn).call rfl (by simp [pvs_cons, pvs_nil, pv_v])
  obtain ⟨w8, rfl, a8, b8⟩ := exAgg.cells h8
  obtain ⟨v9, h9, c9⟩ := (num_ret hm).call rfl (by simp [pvs_cons, pvs_nil, pv_v])
  obtain ⟨w9, rfl, a9, b9⟩ := exAgg.cells h9
  obtain ⟨v10, h10, c10⟩ := (node_ret 2 (kids := [plusG, .num n]) (kas := [.agg [.int 5, .int 0, .str ⟨#[112, 108, 117, 115]⟩, .sl [] .nil, .sl [] .nil], .agg w8]) (t := .cap 2) ⟨hgv, h8, trivial⟩ rfl (hL (by simp))).call rfl (by simp [pvs_cons, pvs_nil, pv_v, pv_sl, tp_cap, exPure _ hgv, exPure _ h8])
  obtain ⟨w10, rfl, a10, b10⟩ := exAgg.cells h10
  obtain ⟨v11, h11, c11⟩ := (node_ret 2 (kids := [nodeE 2 [plusG, .num n], .num m]) (kas := [.agg w10, .agg w9]) (t := .cap 2) ⟨h10, h9, trivial⟩ rfl (hL (by simp))).call rfl (by simp [pvs_cons, pvs_nil, pv_v, pv_sl, tp_cap, exPure _ h10, exPure _ h9])
  obtain ⟨w11, rfl, a11, b11⟩ := exAgg.cells h11
  have t11 : w11.take 5 = w11 := List.take_of_length_le (by omega)
  have e11 : w11.drop 5 = [] := List.drop_of_length_le (by omega)
  have e3 : w3.drop 5 = [] := List.drop_of_length_le (by omega)
  have e7 : w7.drop 5 = [] := List.drop_of_length_le (by omega)
  have q7 := exPure _ h7
  have q11 := exPure _ h11
  rw [pv_agg] at q7 q11
  refine out_of pf25_is (Nat.le_of_ble_eq_true rfl) ?_
  rw [show succN = ⟨#[115, 117, 99, 99]⟩ from rfl] at c4
  simp only [pf25, ↓wpre, wset, wcore, ne_eq, if_true, if_false, exists_eq_left', true_implies, false_implies, exists_const, exists_eq_right, binA, intA, loadA, storeA, pickC, setAt, mapO, argsE, X.isC, resA, oneA, unA, boundA, eqiA, eqsA, fillA, fillE, ASt.fz, strA, Nat.reduceEqDiff, Nat.reduceLT, ↓reduceIte, reduceCtorEq, Nat.reduceAdd, Nat.reduceLeDiff, Int.reduceBEq, Int.reduceBNe, Int.reduceLT, Int.reduceLE, Int.reduceGT, Int.reduceGE, Nat.reduceDiv, Nat.reduceMul, c0, c1, c2, c3, c4, c6, c7, c8, c9, c10, c11, a0, a1, a2, a3, b3, t3, a4, a6, a7, a8, a9, a10, a11, b11, t11, e11, e3, e7, q7, q11, List.set_cons_zero, List.set_cons_succ]
  refine ⟨_, _, w11, rfl, rfl, hL (by simp), ⟨⟨w7, rfl, by decide, h7⟩, trivial⟩, h11, a11, t11, b11, q11, ?_, ?_⟩
  · simp [pvs_cons, pvs_nil, pv_agg, pv_v, q7]
  · simp [cells_agg, a7]
theorem p11_few : (plusP 1 1).few = true := by kernel_rfl
theorem p11_check : (plusP 1 1).check = 0 := by kernel_rfl
theorem p11_eval8 : (plusP 1 1).eval 8 = (.num 2, 0) := by kernel_rfl
theorem p11_eval7 : ((plusP 1 1).eval 7).2 = 11 := by kernel_rfl
end Go.Proofs.Eng
