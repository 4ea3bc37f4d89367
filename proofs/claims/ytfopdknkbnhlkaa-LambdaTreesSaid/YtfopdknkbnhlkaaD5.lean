/- D5: what functions of the program return. No conditions beyond those in the theorems. -/
import Derived.Test.YtfopdknkbnhlkaaD4
import Derived.Test.YtfopdknkbnhlkaaF1
set_option linter.all false
set_option linter.deprecated false
set_option linter.unnecessarySimpa false
set_option linter.unusedVariables false
set_option linter.unusedSimpArgs false
set_option linter.defProp false
namespace Go.Proofs.Eng
open Go Go.Proofs
set_option maxRecDepth 100000
set_option maxHeartbeats 4000000
theorem ctor_eq {nm : ByteArray} {i : Int} {kas : List AV} {t : Tl} (hk : pureAVs kas = true) (ht : t.pure = true) : Out md pfs 58 [.str nm, .int i, .sl kas t] (· = .agg [.int 3, .int i, .str nm, .sl [] .nil, .sl kas t]) fun _ => False := by
  refine out_of pf58_is (Nat.le_of_ble_eq_true rfl) ?_
  simp only [pf58, ↓wpre, wset, wcore, ne_eq, if_true, if_false, exists_eq_left', true_implies, false_implies, exists_const, exists_eq_right, binA, intA, loadA, storeA, pickC, setAt, mapO, argsE, X.isC, resA, oneA, unA, boundA, eqiA, eqsA, fillA, fillE, ASt.fz, strA, Nat.reduceEqDiff, Nat.reduceLT, ↓reduceIte, reduceCtorEq, Nat.reduceAdd, Nat.reduceLeDiff, Int.reduceBEq, Int.reduceBNe, Int.reduceLT, Int.reduceLE, Int.reduceGT, Int.reduceGE, Nat.reduceDiv, Nat.reduceMul, hk, ht]
theorem tree_ret (d : Dt) : ∀ {a}, d.Is a → d.sz ≤ 4096 → Out md pfs 32 [a] (fun v => d.tree.Is v) fun _ => False := by
  induction d using Dt.ind with
  | h n kids ih =>
  intro a h hsz
  obtain ⟨t2, kas, rfl, g2, g3, g5, g6⟩ := h.opn
  have hkl := g6.len
  simp only [Dt.sz] at hsz
  have hdl := dsz_len kids
  obtain ⟨_, rfl, cc⟩ := (ctor_eq (nm := n) (i := 0) (kas := []) (t := .nil) (by rw [pvs_nil]) rfl).call rfl (by simp [pvs_cons, pvs_nil, pv_v, pv_sl, tp_nil])
  refine out_of pf32_is (Nat.le_of_ble_eq_true rfl) ?_
  simp only [pf32, ↓wpre, wset, wcore, ne_eq, if_true, if_false, exists_eq_left', true_implies, false_implies, exists_const, exists_eq_right, binA, intA, loadA, storeA, pickC, setAt, mapO, argsE, X.isC, resA, oneA, unA, boundA, eqiA, eqsA, fillA, fillE, ASt.fz, strA, Nat.reduceEqDiff, Nat.reduceLT, ↓reduceIte, reduceCtorEq, Nat.reduceAdd, Nat.reduceLeDiff, Int.reduceBEq, Int.reduceBNe, Int.reduceLT, Int.reduceLE, Int.reduceGT, Int.reduceGE, Nat.reduceDiv, Nat.reduceMul, cc]
  refine W_loopE (fun j => kas.length - j) (fun j E H T => ∃ G es eas t, H = .cells false [.str n, .sl kas t2] :: .cells false [.int 0, .int 0, .str ⟨#[]⟩, .sl [] .nil, .sl [] .nil] :: .cells false [.int 3, .int 0, .str n, .sl [] .nil, .sl eas t] :: G ∧
    E 2 = .ptr 1 0 ∧ E 3 = .ptr 2 0 ∧ E 10 = .sl kas t2 ∧ E 11 = .int kas.length ∧ E 12 = .int j ∧ j ≤ kas.length ∧ App T eas t ∧ eas.length = j ∧ LIs Ex.Is es eas ∧ es = treeL (kids.take j)) ?_ 0 ⟨[], [], [], .nil, rfl, rfl, rfl, rfl, rfl, rfl, Nat.zero_le _, app_start _, rfl, trivial, by simp [treeL]⟩
  rintro j E H T ⟨G, es, eas, t, rfl, e2, e3, e10, e11, e12, hj, hA, hel, hes, heq⟩
  rcases Nat.lt_or_ge j kas.length with hlt | hge
  · obtain ⟨y, c, d0, d1, d3, d4, d5, d6, d7, d8⟩ := g6.get dtAgg hlt
    have hdec : decide ((j : Int) < kas.length) = true := by simpa using hlt
    have hall := g6.all dtAgg
    have hky := dsz_kid d3
    obtain ⟨v, hv, cr⟩ := (ih y d3 d8 (by omega)).call rfl (by simp [pvs_cons, pvs_nil, dtPure _ d8])
    obtain ⟨cv, rfl, q1, q2⟩ := exAgg.cells hv
    obtain ⟨t', T', hap, hA', _⟩ := app_one hA (by unfold capB; omega) (hes.all exAgg) (x := .agg cv) q1 q2
    simp only [↓wpre, wset, wcore, ne_eq, if_true, if_false, exists_eq_left', true_implies, false_implies, exists_const, exists_eq_right, binA, intA, loadA, storeA, pickC, setAt, mapO, argsE, X.isC, resA, oneA, unA, boundA, eqiA, eqsA, fillA, fillE, ASt.fz, strA, Nat.reduceEqDiff, Nat.reduceLT, ↓reduceIte, reduceCtorEq, Nat.reduceAdd, Nat.reduceLeDiff, Int.reduceBEq, Int.reduceBNe, Int.reduceLT, Int.reduceLE, Int.reduceGT, Int.reduceGE, Nat.reduceDiv, Nat.reduceMul, List.length_append, List.append_assoc, app_get_len, app_get_add, app_set_len, app_set_add, e2, e3, e10, e11, e12, hdec, d4, d5, d6, d7, hall, cr, q1, q2, hap]
    exact EQ_in ⟨j + 1, by omega, _, es ++ [y.tree], eas ++ [.agg cv], t', rfl, e2, e3, e10, e11, next_ixv (by omega), by omega, hA', by simp [hel], hes.append (LIs.one hv), by rw [List.take_add_one, d0, heq]; simp [treeL_map]⟩
  · have hdec : decide ((j : Int) < kas.length) = false := by simpa using hge
    rw [List.take_of_length_le (by omega)] at heq
    obtain ⟨t', ht', hap⟩ := app_purify (s := ⟨.cells false [.str n, .sl kas t2] :: .cells false [.int 3, .int 0, .str n, .sl [] .nil, .sl eas t] :: .cells false [.int 3, .int 0, .str n, .sl [] .nil, .sl eas t] :: G, T⟩) hA (exsPure hes) (n := 19) (by omega)
    have hpz := pz_ex (k := 3) (i := 0) (n := n) (sz := []) (t1 := .nil) rfl hap
    simp only [ints, List.map_nil] at hpz
    simp only [↓wpre, wset, wcore, ne_eq, if_true, if_false, exists_eq_left', true_implies, false_implies, exists_const, exists_eq_right, binA, intA, loadA, storeA, pickC, setAt, mapO, argsE, X.isC, resA, oneA, unA, boundA, eqiA, eqsA, fillA, fillE, ASt.fz, strA, Nat.reduceEqDiff, Nat.reduceLT, ↓reduceIte, reduceCtorEq, Nat.reduceAdd, Nat.reduceLeDiff, Int.reduceBEq, Int.reduceBNe, Int.reduceLT, Int.reduceLE, Int.reduceGT, Int.reduceGE, Nat.reduceDiv, Nat.reduceMul, List.length_append, List.append_assoc, app_get_len, app_get_add, app_set_len, app_set_add, e2, e3, e10, e11, e12, hdec, hpz]
    have hI : (Ex.mk 3 0 n [] es).Is (.agg [.int 3, .int 0, .str n, .sl [] .nil, .sl eas t']) := Ex.Is.mk (s := []) rfl ht' ⟨by unfold in64; omega, g3⟩ (by simp) (by omega) hes
    rw [heq] at hI
    exact hI
end Go.Proofs.Eng
