/- E3: what functions of the program return. No conditions beyond those in the theorems. -/
import Derived.Test.YtfopdknkbnhlkaaE2
set_option linter.all false
set_option linter.deprecated false
set_option linter.unnecessarySimpa false
set_option linter.unusedVariables false
set_option linter.unusedSimpArgs false
set_option linter.defProp false
namespace Go.Proofs.Eng
open Go Go.Proofs
set_option maxRecDepth 100000
set_option maxHeartbeats 4000000
def RedR (e : Ex) (v : AV) : Prop := ∃ e', e.red = .ok e' ∧ e'.Is v
def RedP (e : Ex) (v : AV) : Prop := ∃ c, e.red = .error c ∧ v = wr c
theorem LIs.two {α : Type} {R : α → AV → Prop} {l : List α} {al : List AV} (h : LIs R l al) (hl : l.length = 2) : ∃ x y a b, l = [x, y] ∧ al = [a, b] ∧ R x a ∧ R y b := by
  match l, al, h, hl with
  | [x, y], [a, b], h, _ => exact ⟨x, y, a, b, rfl, rfl, h.1, h.2.1⟩
theorem LIs.one' {α : Type} {R : α → AV → Prop} {l : List α} {al : List AV} (h : LIs R l al) (hl : l.length = 1) : ∃ x a, l = [x] ∧ al = [a] ∧ R x a := by
  match l, al, h, hl with
  | [x], [a], h, _ => exact ⟨x, a, rfl, rfl, h.1⟩
theorem red7 {i : Int} {n : ByteArray} {s : List Int} {kids : List Ex} {a : AV} (h : (Ex.mk 7 i n s kids).Is a) (hw : (Ex.mk 7 i n s kids).wf) (hd : 64 * (Ex.mk 7 i n s kids).dep ≤ B62) : Out md pfs 81 [a] (RedR (Ex.mk 7 i n s kids)) (RedP (Ex.mk 7 i n s kids)) := by
  obtain ⟨t1, t2, kas, rfl, h1, h2, h3, h4, h5, h6⟩ := h.opn
  rw [Ex.wf_iff] at hw
  have hf := fm_facts hw.1
  obtain ⟨x, y, ax, ay, rfl, rfl, hx, hy⟩ := h6.two (by omega)
  obtain ⟨cx, rfl, x1, x2⟩ := exAgg.cells hx
  obtain ⟨cy, rfl, y1, y2⟩ := exAgg.cells hy
  have x3 : cx.take 5 = cx := List.take_of_length_le (by omega)
  have y3 : cy.take 5 = cy := List.take_of_length_le (by omega)
  simp only [Ex.dep, depL] at hd
  have hwx := hw.2 x (by simp)
  have hwy := hw.2 y (by simp)
  have hxs : ∀ v ∈ [x], v.fits 0 ∧ v.slim := by
    intro v hv; simp at hv; subst hv
    exact ⟨fits_of _ hwx (by omega) (by omega), slim_of _ hwx⟩
  have hred : (Ex.mk 7 i n s [x, y]).red = .ok (y.subst [x]) := by simp [Ex.red]
  refine out_of pf81_is (Nat.le_of_ble_eq_true rfl) ?_
  obtain ⟨tv, htv, hsl⟩ := slice_some (l := [.agg cx, .agg cy]) (t := t2) (lo := 0) (hi := 1) (by omega) (by simp) h2
  obtain ⟨v, hv, hc⟩ := (subst_ret hy (fits_of _ hwy (by omega) (by omega)) (slim_of _ hwy) (vs := [x]) (vas := [.agg cx]) (tv := tv) ⟨hx, trivial⟩ htv hxs).call rfl (by simp [pvs_cons, pvs_nil, pv_sl, exPure _ hx, exPure _ hy, htv])
  obtain ⟨cv, rfl, v1, v2⟩ := exAgg.cells hv
  have v3 : cv.take 5 = cv := List.take_of_length_le (by omega)
  simp only [pf81, ↓wpre, wset, wcore, ne_eq, if_true, if_false, exists_eq_left', true_implies, false_implies, exists_const, exists_eq_right, binA, intA, loadA, storeA, pickC, setAt, mapO, argsE, X.isC, resA, oneA, unA, boundA, eqiA, eqsA, fillA, fillE, ASt.fz, strA, Nat.reduceEqDiff, Nat.reduceLT, ↓reduceIte, reduceCtorEq, Nat.reduceAdd, Nat.reduceLeDiff, Int.reduceBEq, Int.reduceBNe, Int.reduceLT, Int.reduceLE, Int.reduceGT, Int.reduceGE, Nat.reduceDiv, Nat.reduceMul, x1, x2, x3, y1, y2, y3, hc, v1, v2, v3, exPure _ hv, hsl]
  exact ⟨_, hred, hv⟩
theorem red9 {k i : Int} (hk : k = 9 ∨ k = 10) {n : ByteArray} {s : List Int} {kids : List Ex} {a : AV} (h : (Ex.mk k i n s kids).Is a) (hw : (Ex.mk k i n s kids).wf) : Out md pfs 81 [a] (RedR (Ex.mk k i n s kids)) (RedP (Ex.mk k i n s kids)) := by
  obtain ⟨t1, t2, kas, rfl, h1, h2, h3, h4, h5, h6⟩ := h.opn
  rw [Ex.wf_iff] at hw
  have hf := fm_facts hw.1
  obtain ⟨x, ax, rfl, rfl, hx⟩ := h6.one' (by omega)
  have hwx := hw.2 x (by simp)
  obtain ⟨xk, xi, xn, xs, xkids⟩ := x
  obtain ⟨u1, u2, xkas, rfl, g1, g2, g3, g4, g5, g6⟩ := hx.opn
  rw [Ex.wf_iff] at hwx
  have hfx := fm_facts hwx.1
  refine out_of pf81_is (Nat.le_of_ble_eq_true rfl) ?_
  cases c8 : (xk == 8)
  · have hred : (Ex.mk k i n s [.mk xk xi xn xs xkids]).red = if xk = 6 then .ok (.mk xk xi xn xs xkids) else .error 10 := by
      simp at c8
      rcases hk with rfl | rfl <;> simp [Ex.red, Ex.k, c8]
    cases c6 : (xk == 6)
    · rcases hk with rfl | rfl
      all_goals
        simp only [pf81, ↓wpre, wset, wcore, ne_eq, if_true, if_false, exists_eq_left', true_implies, false_implies, exists_const, exists_eq_right, binA, intA, loadA, storeA, pickC, setAt, mapO, argsE, X.isC, resA, oneA, unA, boundA, eqiA, eqsA, fillA, fillE, ASt.fz, strA, Nat.reduceEqDiff, Nat.reduceLT, ↓reduceIte, reduceCtorEq, Nat.reduceAdd, Nat.reduceLeDiff, Int.reduceBEq, Int.reduceBNe, Int.reduceLT, Int.reduceLE, Int.reduceGT, Int.reduceGE, Nat.reduceDiv, Nat.reduceMul, c8, c6, dem_f, wrPure]
        exact ⟨_, by rw [hred, if_neg (by simpa using c6)], rfl⟩
    · rcases hk with rfl | rfl
      all_goals
        simp only [pf81, ↓wpre, wset, wcore, ne_eq, if_true, if_false, exists_eq_left', true_implies, false_implies, exists_const, exists_eq_right, binA, intA, loadA, storeA, pickC, setAt, mapO, argsE, X.isC, resA, oneA, unA, boundA, eqiA, eqsA, fillA, fillE, ASt.fz, strA, Nat.reduceEqDiff, Nat.reduceLT, ↓reduceIte, reduceCtorEq, Nat.reduceAdd, Nat.reduceLeDiff, Int.reduceBEq, Int.reduceBNe, Int.reduceLT, Int.reduceLE, Int.reduceGT, Int.reduceGE, Nat.reduceDiv, Nat.reduceMul, c8, c6, dem_t, exPure _ hx]
        exact ⟨_, by rw [hred, if_pos (by simpa using c6)], hx⟩
  · simp at c8
    subst c8
    obtain ⟨y, z, ay, az, rfl, rfl, hy, hz⟩ := g6.two (by omega)
    obtain ⟨cy, rfl, y1, y2⟩ := exAgg.cells hy
    obtain ⟨cz, rfl, z1, z2⟩ := exAgg.cells hz
    have y3 : cy.take 5 = cy := List.take_of_length_le (by omega)
    have z3 : cz.take 5 = cz := List.take_of_length_le (by omega)
    rcases hk with rfl | rfl
    · have hw1 : IntKind.i64.wrap (9 - 9) = 0 := by decide
      simp only [pf81, ↓wpre, wset, wcore, ne_eq, if_true, if_false, exists_eq_left', true_implies, false_implies, exists_const, exists_eq_right, binA, intA, loadA, storeA, pickC, setAt, mapO, argsE, X.isC, resA, oneA, unA, boundA, eqiA, eqsA, fillA, fillE, ASt.fz, strA, Nat.reduceEqDiff, Nat.reduceLT, ↓reduceIte, reduceCtorEq, Nat.reduceAdd, Nat.reduceLeDiff, Int.reduceBEq, Int.reduceBNe, Int.reduceLT, Int.reduceLE, Int.reduceGT, Int.reduceGE, Nat.reduceDiv, Nat.reduceMul, y1, y2, y3, z1, z2, z3, exPure _ hy, hw1]
      exact ⟨_, by simp [Ex.red, Ex.k, Ex.kids], hy⟩
    · have hw1 : IntKind.i64.wrap (10 - 9) = 1 := by decide
      simp only [pf81, ↓wpre, wset, wcore, ne_eq, if_true, if_false, exists_eq_left', true_implies, false_implies, exists_const, exists_eq_right, binA, intA, loadA, storeA, pickC, setAt, mapO, argsE, X.isC, resA, oneA, unA, boundA, eqiA, eqsA, fillA, fillE, ASt.fz, strA, Nat.reduceEqDiff, Nat.reduceLT, ↓reduceIte, reduceCtorEq, Nat.reduceAdd, Nat.reduceLeDiff, Int.reduceBEq, Int.reduceBNe, Int.reduceLT, Int.reduceLE, Int.reduceGT, Int.reduceGE, Nat.reduceDiv, Nat.reduceMul, y1, y2, y3, z1, z2, z3, exPure _ hz, hw1]
      exact ⟨_, by simp [Ex.red, Ex.k, Ex.kids], hz⟩
theorem red2 {i : Int} {n : ByteArray} {s : List Int} {kids : List Ex} {a : AV} (h : (Ex.mk 2 i n s kids).Is a) (hw : (Ex.mk 2 i n s kids).wf) (hd : 64 * (Ex.mk 2 i n s kids).dep ≤ B62) : Out md pfs 81 [a] (RedR (Ex.mk 2 i n s kids)) (RedP (Ex.mk 2 i n s kids)) := by
  obtain ⟨t1, t2, kas, rfl, h1, h2, h3, h4, h5, h6⟩ := h.opn
  rw [Ex.wf_iff] at hw
  have hf := fm_facts hw.1
  obtain ⟨x, y, ax, ay, rfl, rfl, hx, hy⟩ := h6.two (by omega)
  obtain ⟨cy, rfl, y1, y2⟩ := exAgg.cells hy
  have y3 : cy.take 5 = cy := List.take_of_length_le (by omega)
  have hwx := hw.2 x (by simp)
  have hwy := hw.2 y (by simp)
  simp only [Ex.dep, depL] at hd
  obtain ⟨xk, xi, xn, xs, xkids⟩ := x
  obtain ⟨u1, u2, xkas, rfl, g1, g2, g3, g4, g5, g6⟩ := hx.opn
  rw [Ex.wf_iff] at hwx
  have hfx := fm_facts hwx.1
  refine out_of pf81_is (Nat.le_of_ble_eq_true rfl) ?_
  cases c1 : (xk == 1)
  · have hred : (Ex.mk 2 i n s [.mk xk xi xn xs xkids, y]).red = if xk = 6 then .ok (.mk xk xi xn xs xkids) else .error 10 := by
      simp at c1
      simp [Ex.red, Ex.k, c1]
    cases c6 : (xk == 6)
    · simp only [pf81, ↓wpre, wset, wcore, ne_eq, if_true, if_false, exists_eq_left', true_implies, false_implies, exists_const, exists_eq_right, binA, intA, loadA, storeA, pickC, setAt, mapO, argsE, X.isC, resA, oneA, unA, boundA, eqiA, eqsA, fillA, fillE, ASt.fz, strA, Nat.reduceEqDiff, Nat.reduceLT, ↓reduceIte, reduceCtorEq, Nat.reduceAdd, Nat.reduceLeDiff, Int.reduceBEq, Int.reduceBNe, Int.reduceLT, Int.reduceLE, Int.reduceGT, Int.reduceGE, Nat.reduceDiv, Nat.reduceMul, c1, c6, dem_f, wrPure, y1]
      exact ⟨_, by rw [hred, if_neg (by simpa using c6)], rfl⟩
    · simp only [pf81, ↓wpre, wset, wcore, ne_eq, if_true, if_false, exists_eq_left', true_implies, false_implies, exists_const, exists_eq_right, binA, intA, loadA, storeA, pickC, setAt, mapO, argsE, X.isC, resA, oneA, unA, boundA, eqiA, eqsA, fillA, fillE, ASt.fz, strA, Nat.reduceEqDiff, Nat.reduceLT, ↓reduceIte, reduceCtorEq, Nat.reduceAdd, Nat.reduceLeDiff, Int.reduceBEq, Int.reduceBNe, Int.reduceLT, Int.reduceLE, Int.reduceGT, Int.reduceGE, Nat.reduceDiv, Nat.reduceMul, c1, c6, dem_t, exPure _ hx, y1]
      exact ⟨_, by rw [hred, if_pos (by simpa using c6)], hx⟩
  · simp at c1
    subst c1
    obtain ⟨b, ab, rfl, rfl, hb⟩ := g6.one' (by omega)
    have hwb := hwx.2 b (by simp)
    simp only [Ex.dep, depL] at hd
    obtain ⟨cb, rfl, b1, b2⟩ := exAgg.cells hb
    have b3 : cb.take 5 = cb := List.take_of_length_le (by omega)
    have hys : ∀ v ∈ [y], v.fits 0 ∧ v.slim := by
      intro v hv; simp at hv; subst hv
      exact ⟨fits_of _ hwy (by omega) (by omega), slim_of _ hwy⟩
    obtain ⟨tv, htv, hsl⟩ := slice_some (l := [.agg [.int 1, .int xi, .str xn, .sl (ints xs) u1, .sl [.agg cb] u2], .agg cy]) (t := t2) (lo := 1) (hi := 2) (by omega) (by simp) h2
    obtain ⟨v, hv, hc⟩ := (subst_ret hb (fits_of _ hwb (by omega) (by omega)) (slim_of _ hwb) (vs := [y]) (vas := [.agg cy]) (tv := tv) ⟨hy, trivial⟩ htv hys).call rfl (by simp [pvs_cons, pvs_nil, pv_sl, exPure _ hy, exPure _ hb, htv])
    obtain ⟨cv, rfl, v1, v2⟩ := exAgg.cells hv
    have v3 : cv.take 5 = cv := List.take_of_length_le (by omega)
    simp only [pf81, ↓wpre, wset, wcore, ne_eq, if_true, if_false, exists_eq_left', true_implies, false_implies, exists_const, exists_eq_right, binA, intA, loadA, storeA, pickC, setAt, mapO, argsE, X.isC, resA, oneA, unA, boundA, eqiA, eqsA, fillA, fillE, ASt.fz, strA, Nat.reduceEqDiff, Nat.reduceLT, ↓reduceIte, reduceCtorEq, Nat.reduceAdd, Nat.reduceLeDiff, Int.reduceBEq, Int.reduceBNe, Int.reduceLT, Int.reduceLE, Int.reduceGT, Int.reduceGE, Nat.reduceDiv, Nat.reduceMul, b1, b2, b3, y1, y2, y3, hc, v1, v2, v3, exPure _ hv, hsl]
    exact ⟨_, by simp [Ex.red, Ex.k, Ex.kids], hv⟩
end Go.Proofs.Eng
