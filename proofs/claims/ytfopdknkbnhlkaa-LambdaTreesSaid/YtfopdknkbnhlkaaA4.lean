/- A4: what functions of the program return. No conditions beyond those in the theorems. -/
import Derived.Test.YtfopdknkbnhlkaaA3
set_option linter.all false
set_option linter.deprecated false
set_option linter.unnecessarySimpa false
set_option linter.unusedVariables false
set_option linter.unusedSimpArgs false
set_option linter.defProp false
namespace Go.Proofs.Eng
open Go Go.Proofs
set_option maxRecDepth 100000
theorem variable_ret {i : Int} (h : in64 i) : Out md pfs 46 [.int i] (fun v => (Ex.var i).Is v) fun _ => False := by
  refine out_of pf46_is (Nat.le_of_ble_eq_true rfl) ?_
  simp only [pf46, ↓wpre, wset, wcore, ne_eq, if_true, if_false, exists_eq_left', true_implies, false_implies, exists_const, exists_eq_right, binA, intA, loadA, storeA, pickC, setAt, mapO, argsE, X.isC, resA, oneA, unA, boundA, eqiA, eqsA, fillA, fillE, ASt.fz, strA, Nat.reduceEqDiff, Nat.reduceLT, ↓reduceIte, reduceCtorEq, Nat.reduceAdd, Nat.reduceLeDiff, Int.reduceBEq, Int.reduceBNe, Int.reduceLT, Int.reduceLE, Int.reduceGT, Int.reduceGE, Nat.reduceDiv, Nat.reduceMul]
  exact varIs h
def liftG (b i d : Int) : Ex := if i ≥ d then .var (w64 (i + b)) else .var i
def Ex.lift (b : Int) (e : Ex) : Ex := if b = 0 then e else e.mv (liftG b) 0
theorem lift1_ret {b i d : Int} (h : in64 i) : Out md pfs 73 [.int i, .int d, .ip [.int b] 0] (fun v => (liftG b i d).Is v) fun _ => False := by
  refine out_of pf73_is (Nat.le_of_ble_eq_true rfl) ?_
  cases hd : decide (i ≥ d)
  · obtain ⟨v, hv, hc⟩ := (variable_ret h).call rfl (by simp [pvs_cons, pvs_nil, pv_v])
    obtain ⟨c, rfl, hl, ho⟩ := exAgg.cells hv
    have hl' : c.take 5 = c := List.take_of_length_le (by omega)
    simp only [pf73, ↓wpre, wset, wcore, ne_eq, if_true, if_false, exists_eq_left', true_implies, false_implies, exists_const, exists_eq_right, binA, intA, loadA, storeA, pickC, setAt, mapO, argsE, X.isC, resA, oneA, unA, boundA, eqiA, eqsA, fillA, fillE, ASt.fz, strA, Nat.reduceEqDiff, Nat.reduceLT, ↓reduceIte, reduceCtorEq, Nat.reduceAdd, Nat.reduceLeDiff, Int.reduceBEq, Int.reduceBNe, Int.reduceLT, Int.reduceLE, Int.reduceGT, Int.reduceGE, Nat.reduceDiv, Nat.reduceMul, hd, hc, hl, ho, hl', exPure _ hv]
    simp at hd
    rw [liftG, if_neg (by omega)]
    exact hv
  · obtain ⟨v, hv, hc⟩ := (variable_ret (in64_wrap (i + b))).call rfl (by simp [pvs_cons, pvs_nil, pv_v])
    obtain ⟨c, rfl, hl, ho⟩ := exAgg.cells hv
    have hl' : c.take 5 = c := List.take_of_length_le (by omega)
    simp only [pf73, ↓wpre, wset, wcore, ne_eq, if_true, if_false, exists_eq_left', true_implies, false_implies, exists_const, exists_eq_right, binA, intA, loadA, storeA, pickC, setAt, mapO, argsE, X.isC, resA, oneA, unA, boundA, eqiA, eqsA, fillA, fillE, ASt.fz, strA, Nat.reduceEqDiff, Nat.reduceLT, ↓reduceIte, reduceCtorEq, Nat.reduceAdd, Nat.reduceLeDiff, Int.reduceBEq, Int.reduceBNe, Int.reduceLT, Int.reduceLE, Int.reduceGT, Int.reduceGE, Nat.reduceDiv, Nat.reduceMul, hd, hc, hl, ho, hl', exPure _ hv]
    simp at hd
    rw [liftG, if_pos (by omega)]
    exact hv
theorem lift_ret {b : Int} {e : Ex} {a : AV} (h : e.Is a) (hf : e.fits 0) (hsl : e.slim) : Out md pfs 47 [a, .int b] (fun v => (e.lift b).Is v) fun _ => False := by
  refine out_of pf47_is (Nat.le_of_ble_eq_true rfl) ?_
  obtain ⟨c, rfl, hl, ho⟩ := exAgg.cells h
  have hl' : c.take 5 = c := List.take_of_length_le (by omega)
  cases hb : (b == 0)
  · have hm := mapVars_ret 73 [.ip [.int b] 0] (liftG b) rfl (by simp [pvs_cons, pvs_nil, pv_v, pv_ip]) (fun i d h _ _ => lift1_ret h) e h hf hsl
    obtain ⟨v, hv, hc⟩ := hm.callP rfl (s := ⟨[.cells false c, .cells false [.int b], .cells false [.int 0, .int 0, .str ⟨#[]⟩, .sl [] .nil, .sl [] .nil]], []⟩) (args := [.agg c, .int 0, .fn 73 [.ptr 1 0]]) (by simp only [↓wpre, wset, wcore, ne_eq, if_true, if_false, exists_eq_left', true_implies, false_implies, exists_const, exists_eq_right, binA, intA, loadA, storeA, pickC, setAt, mapO, argsE, X.isC, resA, oneA, unA, boundA, eqiA, eqsA, fillA, fillE, ASt.fz, strA, Nat.reduceEqDiff, Nat.reduceLT, ↓reduceIte, reduceCtorEq, Nat.reduceAdd, Nat.reduceLeDiff, Int.reduceBEq, Int.reduceBNe, Int.reduceLT, Int.reduceLE, Int.reduceGT, Int.reduceGE, Nat.reduceDiv, Nat.reduceMul, exPure _ h])
    obtain ⟨c', rfl, hl2, ho2⟩ := exAgg.cells hv
    have hl2' : c'.take 5 = c' := List.take_of_length_le (by omega)
    simp only [pf47, ↓wpre, wset, wcore, ne_eq, if_true, if_false, exists_eq_left', true_implies, false_implies, exists_const, exists_eq_right, binA, intA, loadA, storeA, pickC, setAt, mapO, argsE, X.isC, resA, oneA, unA, boundA, eqiA, eqsA, fillA, fillE, ASt.fz, strA, Nat.reduceEqDiff, Nat.reduceLT, ↓reduceIte, reduceCtorEq, Nat.reduceAdd, Nat.reduceLeDiff, Int.reduceBEq, Int.reduceBNe, Int.reduceLT, Int.reduceLE, Int.reduceGT, Int.reduceGE, Nat.reduceDiv, Nat.reduceMul, hb, hl, hl2, hl', hl2', ho, ho2, hc, exPure _ h, exPure _ hv]
    rw [Ex.lift, if_neg (by simpa using hb)]
    exact hv
  · simp only [pf47, ↓wpre, wset, wcore, ne_eq, if_true, if_false, exists_eq_left', true_implies, false_implies, exists_const, exists_eq_right, binA, intA, loadA, storeA, pickC, setAt, mapO, argsE, X.isC, resA, oneA, unA, boundA, eqiA, eqsA, fillA, fillE, ASt.fz, strA, Nat.reduceEqDiff, Nat.reduceLT, ↓reduceIte, reduceCtorEq, Nat.reduceAdd, Nat.reduceLeDiff, Int.reduceBEq, Int.reduceBNe, Int.reduceLT, Int.reduceLE, Int.reduceGT, Int.reduceGE, Nat.reduceDiv, Nat.reduceMul, hb, hl, hl', ho, exPure _ h]
    rw [Ex.lift, if_pos (by simpa using hb)]
    exact h
def substG (vs : List Ex) (i d : Int) : Ex := if i < d then .var i else if w64 (i - d) < vs.length then (vs.getD (w64 (i - d)).toNat .zero).lift d else .var (w64 (i - vs.length))
def Ex.subst (e : Ex) (vs : List Ex) : Ex := e.mv (substG vs) 0
theorem subst1_ret {vs : List Ex} {vas : List AV} {tv : Tl} (hvs : LIs Ex.Is vs vas) (hfv : ∀ v ∈ vs, v.fits 0 ∧ v.slim) {i d : Int} (h : in64 i) (hd0 : 0 ≤ d) (hd1 : d ≤ B62) : Out md pfs 45 [.int i, .int d, .ip [.sl vas tv] 0] (fun v => (substG vs i d).Is v) fun _ => False := by
  refine out_of pf45_is (Nat.le_of_ble_eq_true rfl) ?_
  cases hd : decide (i < d)
  · have hw : w64 (i - d) = i - d := wrap_in (by unfold in64 at h ⊢; unfold B62 at hd1; simp at hd; omega)
    cases hl : decide (w64 (i - d) < vas.length)
    · obtain ⟨v, hv, hc⟩ := (variable_ret (in64_wrap (i - vas.length))).call rfl (by simp [pvs_cons, pvs_nil, pv_v])
      obtain ⟨c, rfl, hcl, ho⟩ := exAgg.cells hv
      have hl' : c.take 5 = c := List.take_of_length_le (by omega)
      simp only [pf45, ↓wpre, wset, wcore, ne_eq, if_true, if_false, exists_eq_left', true_implies, false_implies, exists_const, exists_eq_right, binA, intA, loadA, storeA, pickC, setAt, mapO, argsE, X.isC, resA, oneA, unA, boundA, eqiA, eqsA, fillA, fillE, ASt.fz, strA, Nat.reduceEqDiff, Nat.reduceLT, ↓reduceIte, reduceCtorEq, Nat.reduceAdd, Nat.reduceLeDiff, Int.reduceBEq, Int.reduceBNe, Int.reduceLT, Int.reduceLE, Int.reduceGT, Int.reduceGE, Nat.reduceDiv, Nat.reduceMul, hd, hl, hc, hcl, ho, hl', exPure _ hv]
      simp at hd hl
      rw [substG, if_neg (by omega), if_neg (by rw [← hvs.len]; exact Int.not_lt.2 hl), ← hvs.len]
      exact hv
    · have hl2 : (w64 (i - d)).toNat < vas.length := by simp at hl hd; omega
      obtain ⟨e, c, d0, d1, d3, d4, d5, d6, d7, d8⟩ := hvs.get exAgg hl2
      obtain ⟨v, hv, hc⟩ := (lift_ret (b := d) d8 (hfv e d3).1 (hfv e d3).2).call rfl (by simp [pvs_cons, pvs_nil, pv_v, exPure _ d8])
      obtain ⟨c', rfl, hcl, ho⟩ := exAgg.cells hv
      have hl' : c'.take 5 = c' := List.take_of_length_le (by omega)
      have h0 : 0 ≤ w64 (i - d) := by simp at hd; omega
      simp only [pf45, ↓wpre, wset, wcore, ne_eq, if_true, if_false, exists_eq_left', true_implies, false_implies, exists_const, exists_eq_right, binA, intA, loadA, storeA, pickC, setAt, mapO, argsE, X.isC, resA, oneA, unA, boundA, eqiA, eqsA, fillA, fillE, ASt.fz, strA, Nat.reduceEqDiff, Nat.reduceLT, ↓reduceIte, reduceCtorEq, Nat.reduceAdd, Nat.reduceLeDiff, Int.reduceBEq, Int.reduceBNe, Int.reduceLT, Int.reduceLE, Int.reduceGT, Int.reduceGE, Nat.reduceDiv, Nat.reduceMul, hd, hl, hc, hcl, ho, hl', exPure _ hv, d4, d5, d6, d7, d8, h0, hvs.all exAgg]
      simp at hd hl
      rw [substG, if_neg (by omega), if_pos (by rw [← hvs.len]; exact hl), List.getD, d0]
      exact hv
  · obtain ⟨v, hv, hc⟩ := (variable_ret h).call rfl (by simp [pvs_cons, pvs_nil, pv_v])
    obtain ⟨c, rfl, hl, ho⟩ := exAgg.cells hv
    have hl' : c.take 5 = c := List.take_of_length_le (by omega)
    simp only [pf45, ↓wpre, wset, wcore, ne_eq, if_true, if_false, exists_eq_left', true_implies, false_implies, exists_const, exists_eq_right, binA, intA, loadA, storeA, pickC, setAt, mapO, argsE, X.isC, resA, oneA, unA, boundA, eqiA, eqsA, fillA, fillE, ASt.fz, strA, Nat.reduceEqDiff, Nat.reduceLT, ↓reduceIte, reduceCtorEq, Nat.reduceAdd, Nat.reduceLeDiff, Int.reduceBEq, Int.reduceBNe, Int.reduceLT, Int.reduceLE, Int.reduceGT, Int.reduceGE, Nat.reduceDiv, Nat.reduceMul, hd, hc, hl, ho, hl', exPure _ hv]
    rw [substG, if_pos (by simpa using hd)]
    exact hv
theorem subst_ret {e : Ex} {a : AV} (h : e.Is a) (hf : e.fits 0) (hsl : e.slim) {vs : List Ex} {vas : List AV} {tv : Tl} (hvs : LIs Ex.Is vs vas) (htv : tv.pure = true) (hfv : ∀ v ∈ vs, v.fits 0 ∧ v.slim) : Out md pfs 18 [a, .sl vas tv] (fun v => (e.subst vs).Is v) fun _ => False := by
  refine out_of pf18_is (Nat.le_of_ble_eq_true rfl) ?_
  obtain ⟨c, rfl, hl, ho⟩ := exAgg.cells h
  have hl' : c.take 5 = c := List.take_of_length_le (by omega)
  have hm := mapVars_ret 45 [.ip [.sl vas tv] 0] (substG vs) rfl (by simp [pvs_cons, pvs_nil, pv_v, pv_ip, pv_sl, htv, exsPure hvs]) (fun i d h h1 h2 => subst1_ret hvs hfv h h1 h2) e h hf hsl
  obtain ⟨v, hv, hc⟩ := hm.callP rfl (s := ⟨[.cells false c, .cells false [.sl vas tv], .cells false [.int 0, .int 0, .str ⟨#[]⟩, .sl [] .nil, .sl [] .nil]], []⟩) (args := [.agg c, .int 0, .fn 45 [.ptr 1 0]]) (by simp only [↓wpre, wset, wcore, ne_eq, if_true, if_false, exists_eq_left', true_implies, false_implies, exists_const, exists_eq_right, binA, intA, loadA, storeA, pickC, setAt, mapO, argsE, X.isC, resA, oneA, unA, boundA, eqiA, eqsA, fillA, fillE, ASt.fz, strA, Nat.reduceEqDiff, Nat.reduceLT, ↓reduceIte, reduceCtorEq, Nat.reduceAdd, Nat.reduceLeDiff, Int.reduceBEq, Int.reduceBNe, Int.reduceLT, Int.reduceLE, Int.reduceGT, Int.reduceGE, Nat.reduceDiv, Nat.reduceMul, exPure _ h, exsPure hvs, htv])
  obtain ⟨c', rfl, hl2, ho2⟩ := exAgg.cells hv
  have hl2' : c'.take 5 = c' := List.take_of_length_le (by omega)
  simp only [pf18, ↓wpre, wset, wcore, ne_eq, if_true, if_false, exists_eq_left', true_implies, false_implies, exists_const, exists_eq_right, binA, intA, loadA, storeA, pickC, setAt, mapO, argsE, X.isC, resA, oneA, unA, boundA, eqiA, eqsA, fillA, fillE, ASt.fz, strA, Nat.reduceEqDiff, Nat.reduceLT, ↓reduceIte, reduceCtorEq, Nat.reduceAdd, Nat.reduceLeDiff, Int.reduceBEq, Int.reduceBNe, Int.reduceLT, Int.reduceLE, Int.reduceGT, Int.reduceGE, Nat.reduceDiv, Nat.reduceMul, hl, hl2, hl', hl2', ho, ho2, hc, exPure _ h, exPure _ hv, exsPure hvs, htv]
  exact hv
end Go.Proofs.Eng
