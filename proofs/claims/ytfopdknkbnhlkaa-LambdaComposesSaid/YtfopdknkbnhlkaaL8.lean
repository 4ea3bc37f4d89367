/- L8: what functions of the program return. No conditions beyond those in the theorems. -/
import Derived.Test.YtfopdknkbnhlkaaP5
import Derived.Test.YtfopdknkbnhlkaaF3
import Derived.Test.YtfopdknkbnhlkaaL3
set_option linter.all false
set_option linter.deprecated false
set_option linter.unnecessarySimpa false
set_option linter.unusedVariables false
set_option linter.unusedSimpArgs false
set_option linter.defProp false
namespace Go.Proofs.Eng
open Go Go.Proofs
set_option maxRecDepth 100000
set_option maxHeartbeats 4000000
theorem composes_law {e : Ex} {a : AV} (h : e.Is a) {vs : List Ex} {vas : List AV} {tv : Tl} (hvs : LIs Ex.Is vs vas) (htv : tv.pure = true) (hlen : vas.length ≤ lenB) : Out md pfs 8 [a, .sl vas tv] (· = .bool true) fun _ => False := by
  obtain ⟨_, rfl, c1⟩ := (few_ret zeroPr_is (t := .cap 1) (LIs.one h) rfl (by unfold lenB; simp)).call rfl (by simp [pvs_cons, pvs_nil, pv_sl, tp_cap, prPure zeroPr_is, exPure _ h])
  obtain ⟨_, rfl, c2⟩ := (few_ret zeroPr_is (t := tv) hvs htv hlen).call rfl (by simp [pvs_cons, pvs_nil, pv_sl, htv, prPure zeroPr_is, exsPure hvs])
  obtain ⟨_, rfl, c4⟩ := awake_ret.call rfl (by simp [pvs_nil])
  obtain ⟨c, rfl, l1, l2⟩ := exAgg.cells h
  have l3 : c.take 5 = c := List.take_of_length_le (by omega)
  generalize hb1 : ([e].all (Ex.few zeroPr.gl) && decide ((([AV.agg c] : List AV).length : Int) ≤ 6)) = q1 at c1
  generalize hb2 : (vs.all (Ex.few zeroPr.gl) && decide ((vas.length : Int) ≤ 6)) = q2 at c2
  refine out_of pf8_is (Nat.le_of_ble_eq_true rfl) ?_
  cases q1
  · simp only [pf8, ↓wpre, wset, wcore, ne_eq, if_true, if_false, exists_eq_left', true_implies, false_implies, exists_const, exists_eq_right, binA, intA, loadA, storeA, pickC, setAt, mapO, argsE, X.isC, resA, oneA, unA, boundA, eqiA, eqsA, fillA, fillE, ASt.fz, strA, Nat.reduceEqDiff, Nat.reduceLT, ↓reduceIte, reduceCtorEq, Nat.reduceAdd, Nat.reduceLeDiff, Int.reduceBEq, Int.reduceBNe, Int.reduceLT, Int.reduceLE, Int.reduceGT, Int.reduceGE, Nat.reduceDiv, Nat.reduceMul, l1, l3, c1, c4]
  cases q2
  · simp only [pf8, ↓wpre, wset, wcore, ne_eq, if_true, if_false, exists_eq_left', true_implies, false_implies, exists_const, exists_eq_right, binA, intA, loadA, storeA, pickC, setAt, mapO, argsE, X.isC, resA, oneA, unA, boundA, eqiA, eqsA, fillA, fillE, ASt.fz, strA, Nat.reduceEqDiff, Nat.reduceLT, ↓reduceIte, reduceCtorEq, Nat.reduceAdd, Nat.reduceLeDiff, Int.reduceBEq, Int.reduceBNe, Int.reduceLT, Int.reduceLE, Int.reduceGT, Int.reduceGE, Nat.reduceDiv, Nat.reduceMul, l1, l3, c1, c2, c4]
  have f1 : e.few zeroPr.gl = true := by simp at hb1; exact hb1
  have f2 : ∀ v ∈ vs, v.few zeroPr.gl = true := by simp at hb2; exact hb2.1
  have f3 : vas.length ≤ 6 := by simp at hb2; omega
  have hall := hvs.all exAgg
  simp only [pf8, ↓wpre, wset, wcore, ne_eq, if_true, if_false, exists_eq_left', true_implies, false_implies, exists_const, exists_eq_right, binA, intA, loadA, storeA, pickC, setAt, mapO, argsE, X.isC, resA, oneA, unA, boundA, eqiA, eqsA, fillA, fillE, ASt.fz, strA, Nat.reduceEqDiff, Nat.reduceLT, ↓reduceIte, reduceCtorEq, Nat.reduceAdd, Nat.reduceLeDiff, Int.reduceBEq, Int.reduceBNe, Int.reduceLT, Int.reduceLE, Int.reduceGT, Int.reduceGE, Nat.reduceDiv, Nat.reduceMul, l1, l3, c1, c2]
  refine W_loopE (fun j => vas.length - j) (fun j E H T => H[0]? = some (.cells false c) ∧ E 1 = .sl vas tv ∧ E 2 = .ptr 0 0 ∧ E 23 = .sl vas tv ∧ E 24 = .int vas.length ∧ E 25 = .int j ∧ j ≤ vas.length ∧ ∀ v ∈ vs.take j, v.shut) ?_ 0 ⟨rfl, rfl, rfl, rfl, rfl, rfl, Nat.zero_le _, by simp⟩
  rintro j E H T ⟨hH, e1, e2, e23, e24, e25, hj, hsh⟩
  have hH' := app_get_of hH
  rcases Nat.lt_or_ge j vas.length with hlt | hge
  · obtain ⟨x, cx, d0, d1, d3, d4, d5, d6, d7, hx⟩ := hvs.get exAgg hlt
    have hdec : decide ((j : Int) < vas.length) = true := by simpa using hlt
    obtain ⟨k, i, n, s, kids⟩ := x
    obtain ⟨t1, t2, kas, ec, g1, g2, g3, g4, g5, g6⟩ := hx.opn
    cases ec
    cases b1 : decide ((kas.length : Int) > 0)
    · cases b2 : (k == 0)
      · simp only [↓wpre, wset, wcore, ne_eq, if_true, if_false, exists_eq_left', true_implies, false_implies, exists_const, exists_eq_right, binA, intA, loadA, storeA, pickC, setAt, mapO, argsE, X.isC, resA, oneA, unA, boundA, eqiA, eqsA, fillA, fillE, ASt.fz, strA, Nat.reduceEqDiff, Nat.reduceLT, ↓reduceIte, reduceCtorEq, Nat.reduceAdd, Nat.reduceLeDiff, Int.reduceBEq, Int.reduceBNe, Int.reduceLT, Int.reduceLE, Int.reduceGT, Int.reduceGE, Nat.reduceDiv, Nat.reduceMul, List.length_append, List.append_assoc, app_get_len, app_get_add, app_set_len, app_set_add, hH, hH', e1, e2, e23, e24, e25, hdec, hall, d4, d5, d6, d7, b1, b2]
        refine EQ_in ⟨j + 1, by omega, hH' _, e1, e2, e23, e24, next_ixv (by unfold lenB; omega), by omega, ?_⟩
        intro v hv
        rw [List.take_add_one, d0] at hv
        simp at hv
        rcases hv with hv | rfl
        · exact hsh v hv
        · refine ⟨by show k ≠ 0; simpa using b2, ?_⟩
          have : kas.length = 0 := by have := of_decide_eq_false b1; omega
          rw [g6.len] at this
          exact List.eq_nil_of_length_eq_zero this
      · simp only [↓wpre, wset, wcore, ne_eq, if_true, if_false, exists_eq_left', true_implies, false_implies, exists_const, exists_eq_right, binA, intA, loadA, storeA, pickC, setAt, mapO, argsE, X.isC, resA, oneA, unA, boundA, eqiA, eqsA, fillA, fillE, ASt.fz, strA, Nat.reduceEqDiff, Nat.reduceLT, ↓reduceIte, reduceCtorEq, Nat.reduceAdd, Nat.reduceLeDiff, Int.reduceBEq, Int.reduceBNe, Int.reduceLT, Int.reduceLE, Int.reduceGT, Int.reduceGE, Nat.reduceDiv, Nat.reduceMul, List.length_append, List.append_assoc, app_get_len, app_get_add, app_set_len, app_set_add, hH, hH', e1, e2, e23, e24, e25, hdec, hall, d4, d5, d6, d7, b1, b2, c4]
    · simp only [↓wpre, wset, wcore, ne_eq, if_true, if_false, exists_eq_left', true_implies, false_implies, exists_const, exists_eq_right, binA, intA, loadA, storeA, pickC, setAt, mapO, argsE, X.isC, resA, oneA, unA, boundA, eqiA, eqsA, fillA, fillE, ASt.fz, strA, Nat.reduceEqDiff, Nat.reduceLT, ↓reduceIte, reduceCtorEq, Nat.reduceAdd, Nat.reduceLeDiff, Int.reduceBEq, Int.reduceBNe, Int.reduceLT, Int.reduceLE, Int.reduceGT, Int.reduceGE, Nat.reduceDiv, Nat.reduceMul, List.length_append, List.append_assoc, app_get_len, app_get_add, app_set_len, app_set_add, hH, hH', e1, e2, e23, e24, e25, hdec, hall, d4, d5, d6, d7, b1, c4]
  · have hdec : decide ((j : Int) < vas.length) = false := by simpa using hge
    have : j = vas.length := by omega
    subst this
    have hsh : ∀ v ∈ vs, v.shut := by rw [hvs.len, List.take_length] at hsh; exact hsh
    have w1 := few_all f1
    have g0 := few_gd f1
    have hv0 : ∀ v ∈ vs, v.shut ∧ v.gd 1073745664 := fun v hv => ⟨hsh v hv, (few_gd (f2 v hv)).1⟩
    obtain ⟨y, hy, c5⟩ := (subst_ret h w1.2.1 w1.2.2.1 hvs htv (fun v hv => ⟨(few_all (f2 v hv)).2.1, (few_all (f2 v hv)).2.2.1⟩)).call rfl (by simp [pvs_cons, pvs_nil, pv_sl, htv, exPure _ h, exsPure hvs])
    rw [← subst_all vs (B := 1073745664) (by omega) (by rw [← hvs.len]; unfold B62; omega) g0.1 g0.2 hv0 (by rw [← hvs.len]; omega)] at hy
    obtain ⟨cy, rfl, y1, y2⟩ := exAgg.cells hy
    have y3 : cy.take 5 = cy := List.take_of_length_le (by omega)
    have y4 : cy.drop 5 = [] := List.drop_of_length_le (by omega)
    have l4 : c.drop 5 = [] := List.drop_of_length_le (by omega)
    simp only [↓wpre, wset, wcore, ne_eq, if_true, if_false, exists_eq_left', true_implies, false_implies, exists_const, exists_eq_right, binA, intA, loadA, storeA, pickC, setAt, mapO, argsE, X.isC, resA, oneA, unA, boundA, eqiA, eqsA, fillA, fillE, ASt.fz, strA, Nat.reduceEqDiff, Nat.reduceLT, ↓reduceIte, reduceCtorEq, Nat.reduceAdd, Nat.reduceLeDiff, Int.reduceBEq, Int.reduceBNe, Int.reduceLT, Int.reduceLE, Int.reduceGT, Int.reduceGE, Nat.reduceDiv, Nat.reduceMul, List.length_append, List.append_assoc, app_get_len, app_get_add, app_set_len, app_set_add, hH, hH', e1, e2, e23, e24, e25, hdec, l1, l2, l3, c5, y1, y2, y3]
    clear e23 e24 e25
    refine W_loopE (fun j => vas.length - j) (fun j E H' T => ∃ x cx G, H' = H ++ (.cells false cy :: .cells false cx :: G) ∧ E 7 = .ptr H.length 0 ∧ E 8 = .ptr (H.length + 1) 0 ∧ E 44 = .sl vas tv ∧ E 45 = .int vas.length ∧ E 46 = .int j ∧ j ≤ vas.length ∧ x.Is (.agg cx) ∧ x = (vs.take j).foldl (fun x v => x.subst [v]) e) ?_ 0 ⟨e, c, [], rfl, rfl, rfl, rfl, rfl, rfl, Nat.zero_le _, h, rfl⟩
    clear e1 e2 E T
    rintro j E H' T ⟨x, cx, G, rfl, e7, e8, e44, e45, e46, hj, hx, hxe⟩
    obtain ⟨cx', q, x1, x2⟩ := exAgg.cells hx
    cases q
    have x3 : cx.take 5 = cx := List.take_of_length_le (by omega)
    have x4 : cx.drop 5 = [] := List.drop_of_length_le (by omega)
    rcases Nat.lt_or_ge j vas.length with hlt | hge
    · obtain ⟨v, cv, d0, d1, d3, d4, d5, d6, d7, hv⟩ := hvs.get exAgg hlt
      have hdec : decide ((j : Int) < vas.length) = true := by simpa using hlt
      have hfg := fold_gd (vs.take j) (B := 1073745664) (e := e) (by omega) (by rw [List.length_take]; unfold B62; omega) g0.1 g0.2 (fun v hv => hv0 v (List.mem_of_mem_take hv))
      rw [← hxe] at hfg
      have hwx := gd_wf _ hfg.1
      have hdx := dep_sz x
      obtain ⟨z, hz, c6⟩ := (subst_ret hx (fits_of x hwx (by omega) (by unfold B62; omega)) (slim_of x hwx) (vs := [v]) (vas := [.agg cv]) (tv := .cap 1) (LIs.one hv) rfl (fun w hw => by simp at hw; subst hw; exact ⟨(few_all (f2 w d3)).2.1, (few_all (f2 w d3)).2.2.1⟩)).call rfl (by simp [pvs_cons, pvs_nil, pv_sl, tp_cap, exPure _ hx, exPure _ hv])
      obtain ⟨cz, rfl, z1, z2⟩ := exAgg.cells hz
      have z3 : cz.take 5 = cz := List.take_of_length_le (by omega)
      simp only [↓wpre, wset, wcore, ne_eq, if_true, if_false, exists_eq_left', true_implies, false_implies, exists_const, exists_eq_right, binA, intA, loadA, storeA, pickC, setAt, mapO, argsE, X.isC, resA, oneA, unA, boundA, eqiA, eqsA, fillA, fillE, ASt.fz, strA, Nat.reduceEqDiff, Nat.reduceLT, ↓reduceIte, reduceCtorEq, Nat.reduceAdd, Nat.reduceLeDiff, Int.reduceBEq, Int.reduceBNe, Int.reduceLT, Int.reduceLE, Int.reduceGT, Int.reduceGE, Nat.reduceDiv, Nat.reduceMul, List.length_append, List.append_assoc, app_get_len, app_get_add, app_set_len, app_set_add, e7, e8, e44, e45, e46, hdec, hall, d4, d5, d6, d7, x1, x2, x3, x4, c6, z1, z2, z3]
      exact EQ_in ⟨j + 1, by omega, x.subst [v], cz, _, rfl, e7, e8, e44, e45, next_ixv (by unfold lenB; omega), by omega, hz, by rw [List.take_add_one, d0, List.foldl_append, ← hxe]; rfl⟩
    · have hdec : decide ((j : Int) < vas.length) = false := by simpa using hge
      rw [List.take_of_length_le (by rw [← hvs.len]; omega)] at hxe
      rw [← hxe] at hy
      obtain ⟨_, rfl, c7⟩ := (same_ret _ hy hx).call rfl (by simp [pvs_cons, pvs_nil, exPure _ hy, exPure _ hx])
      simp only [↓wpre, wset, wcore, ne_eq, if_true, if_false, exists_eq_left', true_implies, false_implies, exists_const, exists_eq_right, binA, intA, loadA, storeA, pickC, setAt, mapO, argsE, X.isC, resA, oneA, unA, boundA, eqiA, eqsA, fillA, fillE, ASt.fz, strA, Nat.reduceEqDiff, Nat.reduceLT, ↓reduceIte, reduceCtorEq, Nat.reduceAdd, Nat.reduceLeDiff, Int.reduceBEq, Int.reduceBNe, Int.reduceLT, Int.reduceLE, Int.reduceGT, Int.reduceGE, Nat.reduceDiv, Nat.reduceMul, List.length_append, List.append_assoc, app_get_len, app_get_add, app_set_len, app_set_add, e7, e8, e44, e45, e46, hdec, y1, y3, x1, x3, c7, c4]
end Go.Proofs.Eng
