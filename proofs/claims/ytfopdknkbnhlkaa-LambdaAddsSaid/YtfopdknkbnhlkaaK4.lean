/- K4: what functions of the program return. No conditions beyond those in the theorems. -/
import Derived.Test.YtfopdknkbnhlkaaK3
import Derived.Test.YtfopdknkbnhlkaaE7
import Derived.Test.YtfopdknkbnhlkaaB2
set_option linter.all false
set_option linter.deprecated false
set_option linter.unnecessarySimpa false
set_option linter.unusedVariables false
set_option linter.unusedSimpArgs false
set_option linter.defProp false
namespace Go.Proofs.Eng
open Go Go.Proofs
set_option maxRecDepth 100000
set_option maxHeartbeats 8000000
def REvR (p : Pr) (steps : Int) (v : AV) : Prop := ∃ ax o c x, v = .tup [ax, .bool o, .int c] ∧ x.Is ax ∧ (o = false → p.eval steps = (x, c))
theorem way_gd {n : Nat} {e : Ex} (h : wayI n e) : ∃ B, B ≤ B62 ∧ e.gd B ∧ 64 * (e.dep : Int) ≤ B62 := by
  obtain ⟨t, h1, h2, h3⟩ := h
  have := dep_sz e
  exact ⟨_, by unfold B62; omega, h2, by unfold B62; omega⟩
theorem rEval_ret {p : Pr} {pa : AV} (hp : p.Is pa) (hf : p.few = true) {steps : Int} : Out md pfs 23 [pa, .int steps] (REvR p steps) fun _ => False := by
  have hpp := prPure hp
  obtain ⟨_, rfl, cc⟩ := (rCheck_ret hp).call rfl (by simp [pvs_cons, pvs_nil, hpp])
  obtain ⟨gas, tg, c, rfl, h1, h2, h3, h4, h5, h6, h7, h8, h9, h10⟩ := id hp
  refine out_of pf23_is (Nat.le_of_ble_eq_true rfl) ?_
  cases b0 : (p.check != 0)
  case true =>
    simp only [pf23, ↓wpre, wset, wcore, ne_eq, if_true, if_false, exists_eq_left', true_implies, false_implies, exists_const, exists_eq_right, binA, intA, loadA, storeA, pickC, setAt, mapO, argsE, X.isC, resA, oneA, unA, boundA, eqiA, eqsA, fillA, fillE, ASt.fz, strA, Nat.reduceEqDiff, Nat.reduceLT, ↓reduceIte, reduceCtorEq, Nat.reduceAdd, Nat.reduceLeDiff, Int.reduceBEq, Int.reduceBNe, Int.reduceLT, Int.reduceLE, Int.reduceGT, Int.reduceGE, Nat.reduceDiv, Nat.reduceMul, h5, h6, cc, b0]
    exact ⟨_, _, _, _, rfl, zeroIs, fun _ => by simp only [Pr.eval]; rw [if_pos b0]⟩
  have hc0 : p.check = 0 := by simpa using b0
  cases b1 : decide (steps < 0)
  case true =>
    simp only [pf23, ↓wpre, wset, wcore, ne_eq, if_true, if_false, exists_eq_left', true_implies, false_implies, exists_const, exists_eq_right, binA, intA, loadA, storeA, pickC, setAt, mapO, argsE, X.isC, resA, oneA, unA, boundA, eqiA, eqsA, fillA, fillE, ASt.fz, strA, Nat.reduceEqDiff, Nat.reduceLT, ↓reduceIte, reduceCtorEq, Nat.reduceAdd, Nat.reduceLeDiff, Int.reduceBEq, Int.reduceBNe, Int.reduceLT, Int.reduceLE, Int.reduceGT, Int.reduceGE, Nat.reduceDiv, Nat.reduceMul, h5, h6, cc, b0, b1]
    exact ⟨_, _, _, _, rfl, zeroIs, fun _ => by simp only [Pr.eval]; rw [if_neg (by simp [hc0]), if_pos b1]⟩
  cases b2 : decide (steps > 1000000)
  case true =>
    simp only [pf23, ↓wpre, wset, wcore, ne_eq, if_true, if_false, exists_eq_left', true_implies, false_implies, exists_const, exists_eq_right, binA, intA, loadA, storeA, pickC, setAt, mapO, argsE, X.isC, resA, oneA, unA, boundA, eqiA, eqsA, fillA, fillE, ASt.fz, strA, Nat.reduceEqDiff, Nat.reduceLT, ↓reduceIte, reduceCtorEq, Nat.reduceAdd, Nat.reduceLeDiff, Int.reduceBEq, Int.reduceBNe, Int.reduceLT, Int.reduceLE, Int.reduceGT, Int.reduceGE, Nat.reduceDiv, Nat.reduceMul, h5, h6, cc, b0, b1, b2]
    exact ⟨_, _, _, _, rfl, zeroIs, fun _ => by simp only [Pr.eval]; rw [if_neg (by simp [hc0]), if_neg (by simp [b1]), if_pos b2]⟩
  obtain ⟨N, rfl⟩ : ∃ n : Nat, steps = n := ⟨steps.toNat, by simp at b1; omega⟩
  have hN : N ≤ 1000000 := by simp at b2; omega
  have hev : p.eval N = match ev p.gs N p.main with | .ok x => (x, 0) | .error c => (.zero, c) := by
    simp only [Pr.eval]
    rw [if_neg (by simp [hc0]), if_neg (by simp [b1]), if_neg (by simp [b2]), Int.toNat_natCast]
    cases ev p.gs N p.main <;> rfl
  simp only [pf23, ↓wpre, wset, wcore, ne_eq, if_true, if_false, exists_eq_left', true_implies, false_implies, exists_const, exists_eq_right, binA, intA, loadA, storeA, pickC, setAt, mapO, argsE, X.isC, resA, oneA, unA, boundA, eqiA, eqsA, fillA, fillE, ASt.fz, strA, Nat.reduceEqDiff, Nat.reduceLT, ↓reduceIte, reduceCtorEq, Nat.reduceAdd, Nat.reduceLeDiff, Int.reduceBEq, Int.reduceBNe, Int.reduceLT, Int.reduceLE, Int.reduceGT, Int.reduceGE, Nat.reduceDiv, Nat.reduceMul, h5, h6, h7, cc, b0, b1, b2]
  refine W_loopE (fun j => N - j) (fun j E H T => ∃ x cx G, H = .cells false (.sl gas tg :: c) :: .cells false [.int 0, .int 0, .str ⟨#[]⟩, .sl [] .nil, .sl [] .nil] :: .cells false cx :: G ∧ E 1 = .int N ∧ E 2 = .ptr 0 0 ∧ E 4 = .ptr 1 0 ∧ E 8 = .ptr 2 0 ∧ E 9 = .int j ∧ x.Is (.agg cx) ∧ j ≤ N ∧ wayI (N - j) x ∧ ev p.gs N p.main = ev p.gs (N - j) x) ?_ 0 ⟨p.main, c, [], by simp only [List.drop_of_length_le (Nat.le_of_eq h5), List.append_nil], rfl, rfl, rfl, rfl, rfl, h4, Nat.zero_le _, way_start hf hc0 hN, rfl⟩
  rintro j E H T ⟨x, cx, G, rfl, e1, e2, e4, e8, e9, hx, hj, hI, hev2⟩
  obtain ⟨cx', e, x1, x2⟩ := exAgg.cells hx
  cases e
  have x3 : cx.take 5 = cx := List.take_of_length_le (by omega)
  have x4 : cx.drop 5 = [] := List.drop_of_length_le (by omega)
  obtain ⟨_, rfl, cv⟩ := (value_ret x hx).call rfl (by simp [pvs_cons, pvs_nil, exPure _ hx])
  obtain ⟨_, rfl, cs⟩ := (rsize_ret x hx).call rfl (by simp [pvs_cons, pvs_nil, exPure _ hx])
  rw [ev_eq p.gs (N - j) x] at hev2
  cases hv : x.val
  · cases hsz : decide (x.size > 4096)
    · have hsz' : decide (x.size ≤ 4096) = true := by simp at hsz ⊢; omega
      rw [if_neg (by rw [hsz']; decide), if_neg (by rw [hv]; decide)] at hev2
      rcases Nat.lt_or_ge j N with hlt | hge
      · have hne : ((j : Int) == N) = false := by simp; omega
        obtain ⟨m, hm⟩ : ∃ m, N - j = m + 1 := ⟨N - j - 1, by omega⟩
        rw [hm] at hI hev2
        obtain ⟨B, hB, hgd, hdp⟩ := way_gd hI
        obtain ⟨_, ⟨ax, rfl, hax⟩, hc⟩ := (rStep_ret hp hB x hx hgd hdp).call rfl (by simp [pvs_cons, pvs_nil, hpp, exPure _ hx])
        rw [stp_no hv] at hc hax
        obtain ⟨cy, rfl, y1, y2⟩ := exAgg.cells hax
        have y3 : cy.take 5 = cy := List.take_of_length_le (by omega)
        cases hs : x.step p.gs with
        | ok y =>
          rw [hs] at hc hax hev2
          simp only [ofE] at hc hax
          simp only [↓wpre, wset, wcore, ne_eq, if_true, if_false, exists_eq_left', true_implies, false_implies, exists_const, exists_eq_right, binA, intA, loadA, storeA, pickC, setAt, mapO, argsE, X.isC, resA, oneA, unA, boundA, eqiA, eqsA, fillA, fillE, ASt.fz, strA, Nat.reduceEqDiff, Nat.reduceLT, ↓reduceIte, reduceCtorEq, Nat.reduceAdd, Nat.reduceLeDiff, Int.reduceBEq, Int.reduceBNe, Int.reduceLT, Int.reduceLE, Int.reduceGT, Int.reduceGE, Nat.reduceDiv, Nat.reduceMul, List.length_append, List.append_assoc, app_get_len, app_get_add, app_set_len, app_set_add, e1, e2, e4, e8, e9, h5, h6, x1, x2, x3, x4, cv, hv, cs, hsz, hne, hc, y1, y2, y3]
          exact EQ_in ⟨j + 1, by omega, y, cy, _, rfl, e1, e2, e4, e8, next_ixv (by unfold lenB; omega), hax, by omega, by rw [show N - (j + 1) = m from by omega]; exact (way_of hf hc0).next hI (by simpa using hsz') hv hs, by rw [show N - (j + 1) = m from by omega]; exact hev2⟩
        | error k =>
          rw [hs] at hc hax hev2
          simp only [ofE] at hc hax
          have hk : (k != 0) = true := by simpa using step_err p.gs x hs
          simp only [↓wpre, wset, wcore, ne_eq, if_true, if_false, exists_eq_left', true_implies, false_implies, exists_const, exists_eq_right, binA, intA, loadA, storeA, pickC, setAt, mapO, argsE, X.isC, resA, oneA, unA, boundA, eqiA, eqsA, fillA, fillE, ASt.fz, strA, Nat.reduceEqDiff, Nat.reduceLT, ↓reduceIte, reduceCtorEq, Nat.reduceAdd, Nat.reduceLeDiff, Int.reduceBEq, Int.reduceBNe, Int.reduceLT, Int.reduceLE, Int.reduceGT, Int.reduceGE, Nat.reduceDiv, Nat.reduceMul, List.length_append, List.append_assoc, app_get_len, app_get_add, app_set_len, app_set_add, e1, e2, e4, e8, e9, h5, h6, x1, x2, x3, x4, cv, hv, cs, hsz, hne, hc, y1, y2, y3, hk]
          exact ⟨_, _, _, _, rfl, zeroIs, fun _ => by rw [hev, hev2]⟩
      · have hne : ((j : Int) == N) = true := by simp; omega
        rw [show N - j = 0 from by omega] at hev2
        simp only [↓wpre, wset, wcore, ne_eq, if_true, if_false, exists_eq_left', true_implies, false_implies, exists_const, exists_eq_right, binA, intA, loadA, storeA, pickC, setAt, mapO, argsE, X.isC, resA, oneA, unA, boundA, eqiA, eqsA, fillA, fillE, ASt.fz, strA, Nat.reduceEqDiff, Nat.reduceLT, ↓reduceIte, reduceCtorEq, Nat.reduceAdd, Nat.reduceLeDiff, Int.reduceBEq, Int.reduceBNe, Int.reduceLT, Int.reduceLE, Int.reduceGT, Int.reduceGE, Nat.reduceDiv, Nat.reduceMul, e1, e2, e4, e8, e9, h5, h6, x1, x2, x3, cv, hv, cs, hsz, hne]
        exact ⟨_, _, _, _, rfl, zeroIs, fun _ => by rw [hev, hev2]⟩
    · simp only [↓wpre, wset, wcore, ne_eq, if_true, if_false, exists_eq_left', true_implies, false_implies, exists_const, exists_eq_right, binA, intA, loadA, storeA, pickC, setAt, mapO, argsE, X.isC, resA, oneA, unA, boundA, eqiA, eqsA, fillA, fillE, ASt.fz, strA, Nat.reduceEqDiff, Nat.reduceLT, ↓reduceIte, reduceCtorEq, Nat.reduceAdd, Nat.reduceLeDiff, Int.reduceBEq, Int.reduceBNe, Int.reduceLT, Int.reduceLE, Int.reduceGT, Int.reduceGE, Nat.reduceDiv, Nat.reduceMul, e1, e2, e4, e8, e9, h5, h6, x1, x2, x3, cv, hv, cs, hsz]
      exact ⟨_, _, _, _, rfl, zeroIs, fun h => by cases h⟩
  · cases hsz : decide (x.size > 4096)
    · have hsz' : decide (x.size ≤ 4096) = true := by simp at hsz ⊢; omega
      rw [if_neg (by rw [hsz']; decide), if_pos hv] at hev2
      simp only [↓wpre, wset, wcore, ne_eq, if_true, if_false, exists_eq_left', true_implies, false_implies, exists_const, exists_eq_right, binA, intA, loadA, storeA, pickC, setAt, mapO, argsE, X.isC, resA, oneA, unA, boundA, eqiA, eqsA, fillA, fillE, ASt.fz, strA, Nat.reduceEqDiff, Nat.reduceLT, ↓reduceIte, reduceCtorEq, Nat.reduceAdd, Nat.reduceLeDiff, Int.reduceBEq, Int.reduceBNe, Int.reduceLT, Int.reduceLE, Int.reduceGT, Int.reduceGE, Nat.reduceDiv, Nat.reduceMul, e1, e2, e4, e8, e9, h5, h6, x1, x2, x3, cv, hv, cs, hsz, exPure _ hx]
      exact ⟨_, _, _, _, rfl, hx, fun _ => by rw [hev, hev2]⟩
    · have hsz' : decide (x.size ≤ 4096) = false := by simp at hsz ⊢; omega
      rw [if_pos hsz'] at hev2
      simp only [↓wpre, wset, wcore, ne_eq, if_true, if_false, exists_eq_left', true_implies, false_implies, exists_const, exists_eq_right, binA, intA, loadA, storeA, pickC, setAt, mapO, argsE, X.isC, resA, oneA, unA, boundA, eqiA, eqsA, fillA, fillE, ASt.fz, strA, Nat.reduceEqDiff, Nat.reduceLT, ↓reduceIte, reduceCtorEq, Nat.reduceAdd, Nat.reduceLeDiff, Int.reduceBEq, Int.reduceBNe, Int.reduceLT, Int.reduceLE, Int.reduceGT, Int.reduceGE, Nat.reduceDiv, Nat.reduceMul, e1, e2, e4, e8, e9, h5, h6, x1, x2, x3, cv, hv, cs, hsz]
      exact ⟨_, _, _, _, rfl, zeroIs, fun _ => by rw [hev, hev2]⟩
end Go.Proofs.Eng
