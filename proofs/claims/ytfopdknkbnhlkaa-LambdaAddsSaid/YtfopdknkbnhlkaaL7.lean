/- L7: what functions of the program return. No conditions beyond those in the theorems. -/
import Derived.Test.YtfopdknkbnhlkaaL6
import Derived.Test.YtfopdknkbnhlkaaL1
set_option linter.all false
set_option linter.deprecated false
set_option linter.unnecessarySimpa false
set_option linter.unusedVariables false
set_option linter.unusedSimpArgs false
set_option linter.defProp false
namespace Go.Proofs.Eng
open Go Go.Proofs
set_option maxRecDepth 100000
set_option maxHeartbeats 8000000
theorem eval_nat {p : Pr} (hc0 : p.check = 0) {N : Nat} (hN : N ≤ 1000000) : p.eval N = match ev p.gs N p.main with | .ok x => (x, 0) | .error c => (.zero, c) := by
  simp only [Pr.eval]
  rw [if_neg (by simp [hc0]), if_neg (by simp), if_neg (by simp; omega), Int.toNat_natCast]
  cases ev p.gs N p.main <;> rfl
/-- A call of Eval, looked up ahead. -/
theorem eval_look {p : Pr} {pa : AV} (hp : p.Is pa) (hf : p.few = true) {steps : Int} {r : Ex × Int} (hr : p.eval steps = r) : ∃ ca, r.1.Is (.agg ca) ∧ ca.length = 5 ∧ ca.all oneCell = true ∧ ca.take 5 = ca ∧ ∀ pm s K KP, CW (run md pfs) md pm s 22 [pa, .int steps] K KP () = K (.tup [.agg ca, .int r.2]) s := by
  subst hr
  obtain ⟨_, ⟨ax, rfl, hax⟩, k1⟩ := (Eval_any hp hf (steps := steps)).call rfl (by simp [pvs_cons, pvs_nil, pv_v, prPure hp])
  obtain ⟨ca, rfl, q1, q2⟩ := exAgg.cells hax
  exact ⟨ca, hax, q1, q2, List.take_of_length_le (by omega), k1⟩
theorem traces_law {p : Pr} {pa : AV} (hp : p.Is pa) {b : Int} (hb0 : 0 ≤ b) (hb1 : b < 256) : Out md pfs 7 [pa, .v (.int .u8 b)] (· = .bool true) fun _ => False := by
  have hpp := prPure hp
  obtain ⟨_, rfl, c0⟩ := (Few_ret hp).call rfl (by simp [pvs_cons, pvs_nil, hpp])
  obtain ⟨_, rfl, c1⟩ := (rCheck_ret hp).call rfl (by simp [pvs_cons, pvs_nil, hpp])
  obtain ⟨_, rfl, c4⟩ := awake_ret.call rfl (by simp [pvs_nil])
  obtain ⟨gas, tg, c, rfl, h1, h2, h3, h4, h5, h6, h7, h8, h9, h10⟩ := id hp
  refine out_of pf7_is (Nat.le_of_ble_eq_true rfl) ?_
  cases hf0 : p.few
  · simp only [pf7, ↓wpre, wset, wcore, ne_eq, if_true, if_false, exists_eq_left', true_implies, false_implies, exists_const, exists_eq_right, binA, intA, loadA, storeA, pickC, setAt, mapO, argsE, X.isC, resA, oneA, unA, boundA, eqiA, eqsA, fillA, fillE, ASt.fz, strA, Nat.reduceEqDiff, Nat.reduceLT, ↓reduceIte, reduceCtorEq, Nat.reduceAdd, Nat.reduceLeDiff, Int.reduceBEq, Int.reduceBNe, Int.reduceLT, Int.reduceLE, Int.reduceGT, Int.reduceGE, Nat.reduceDiv, Nat.reduceMul, h5, h6, c0, hf0, c4]
  cases b1 : (p.check != 0)
  case true => simp only [pf7, ↓wpre, wset, wcore, ne_eq, if_true, if_false, exists_eq_left', true_implies, false_implies, exists_const, exists_eq_right, binA, intA, loadA, storeA, pickC, setAt, mapO, argsE, X.isC, resA, oneA, unA, boundA, eqiA, eqsA, fillA, fillE, ASt.fz, strA, Nat.reduceEqDiff, Nat.reduceLT, ↓reduceIte, reduceCtorEq, Nat.reduceAdd, Nat.reduceLeDiff, Int.reduceBEq, Int.reduceBNe, Int.reduceLT, Int.reduceLE, Int.reduceGT, Int.reduceGE, Nat.reduceDiv, Nat.reduceMul, h5, h6, c0, c1, hf0, b1, c4]
  have hc0 : p.check = 0 := by simpa using b1
  obtain ⟨N, hN, hN2⟩ : ∃ N : Nat, b.tmod 120 = N ∧ N < 120 := ⟨(b % 120).toNat, by rw [Int.tmod_eq_emod_of_nonneg hb0]; omega, by omega⟩
  have hw : IntKind.i64.wrap b = b := wrap_small (by omega) (by omega)
  have hm : ((120 : Int) = 0) = False := by simp
  simp only [pf7, ↓wpre, wset, wcore, ne_eq, if_true, if_false, exists_eq_left', true_implies, false_implies, exists_const, exists_eq_right, binA, intA, loadA, storeA, pickC, setAt, mapO, argsE, X.isC, resA, oneA, unA, boundA, eqiA, eqsA, fillA, fillE, ASt.fz, strA, Nat.reduceEqDiff, Nat.reduceLT, ↓reduceIte, reduceCtorEq, Nat.reduceAdd, Nat.reduceLeDiff, Int.reduceBEq, Int.reduceBNe, Int.reduceLT, Int.reduceLE, Int.reduceGT, Int.reduceGE, Nat.reduceDiv, Nat.reduceMul, h5, h6, h7, c0, c1, hf0, b1, hw, hN, hm, if_false]
  refine W_loopE (fun j => N - j) (fun j E H T => ∃ x cx G, H = .cells false (.sl gas tg :: c) :: .cells false cx :: G ∧ E 2 = .ptr 0 0 ∧ E 5 = .int N ∧ E 6 = .ptr 1 0 ∧ E 7 = .int j ∧ j ≤ N ∧ x.Is (.agg cx) ∧ wayI (1000000 - j) x ∧ (∀ m, ev p.gs (j + m) p.main = ev p.gs m x) ∧ (0 < j → ev p.gs (j - 1) p.main = .error 11)) ?_ 0 ⟨p.main, c, [], by simp only [List.drop_of_length_le (Nat.le_of_eq h5), List.append_nil], rfl, rfl, rfl, rfl, Nat.zero_le _, h4, way_start hf0 hc0 (Nat.le_refl _), fun m => by rw [Nat.zero_add], fun h => absurd h (by omega)⟩
  rintro j E H T ⟨x, cx, G, rfl, e2, e5, e6, e7, hj, hx, hI, hev, hlast⟩
  obtain ⟨cx', e, x1, x2⟩ := exAgg.cells hx
  cases e
  have x3 : cx.take 5 = cx := List.take_of_length_le (by omega)
  have x4 : cx.drop 5 = [] := List.drop_of_length_le (by omega)
  obtain ⟨_, rfl, cs⟩ := (rsize_ret x hx).call rfl (by simp [pvs_cons, pvs_nil, exPure _ hx])
  cases hsz : decide (x.size > 4096)
  case true => simp only [↓wpre, wset, wcore, ne_eq, if_true, if_false, exists_eq_left', true_implies, false_implies, exists_const, exists_eq_right, binA, intA, loadA, storeA, pickC, setAt, mapO, argsE, X.isC, resA, oneA, unA, boundA, eqiA, eqsA, fillA, fillE, ASt.fz, strA, Nat.reduceEqDiff, Nat.reduceLT, ↓reduceIte, reduceCtorEq, Nat.reduceAdd, Nat.reduceLeDiff, Int.reduceBEq, Int.reduceBNe, Int.reduceLT, Int.reduceLE, Int.reduceGT, Int.reduceGE, Nat.reduceDiv, Nat.reduceMul, e2, e5, e6, e7, h5, h6, x1, x3, cs, hsz, c4]
  have hsz' : decide (x.size ≤ 4096) = true := by simp at hsz ⊢; omega
  obtain ⟨w1, w2⟩ := (way_of hf0 hc0).wf hI
  obtain ⟨_, ⟨ay, rfl, hay⟩, k1⟩ := (Step_ret hp hx w1 w2).call rfl (by simp [pvs_cons, pvs_nil, hpp, exPure _ hx])
  obtain ⟨cy, rfl, y1, y2⟩ := exAgg.cells hay
  have y3 : cy.take 5 = cy := List.take_of_length_le (by omega)
  have y4 : cy.drop 5 = [] := List.drop_of_length_le (by omega)
  cases hv : x.val
  · have hev0 : ev p.gs 0 x = .error 11 := by rw [ev_eq, if_neg (by rw [hsz']; decide), if_neg (by rw [hv]; decide)]
    have hstp : x.stp p.gs = match x.step p.gs with | .ok y => (y, true, 0) | .error c => (.zero, false, c) := by
      unfold Ex.stp
      rw [if_neg (by rw [hv]; decide)]
      cases x.step p.gs <;> rfl
    cases hs : x.step p.gs with
    | error k =>
      rw [hs] at hstp
      simp only [hstp] at k1
      have hk : (k != 0) = true := by simpa using step_err p.gs x hs
      obtain ⟨r, hr, hr2⟩ : ∃ r, p.eval N = r ∧ ((j < N ∧ r.2 = k) ∨ (j = N ∧ r.2 = 11)) := by
        refine ⟨_, rfl, ?_⟩
        rw [eval_nat hc0 (by omega)]
        have := hev (N - j)
        rw [show j + (N - j) = N from by omega] at this
        rw [this]
        rcases Nat.lt_or_ge j N with hlt | hge
        · obtain ⟨m, hm⟩ : ∃ m, N - j = m + 1 := ⟨N - j - 1, by omega⟩
          rw [hm, ev_eq, if_neg (by rw [hsz']; decide), if_neg (by rw [hv]; decide)]
          simp only [hs]
          exact .inl ⟨hlt, trivial⟩
        · rw [show N - j = 0 from by omega, hev0]
          exact .inr ⟨by omega, rfl⟩
      obtain ⟨ca, ha, a1, a2, a3, k2⟩ := eval_look hp hf0 hr
      rcases hr2 with ⟨hlt, e⟩ | ⟨rfl, e⟩
      · rw [e] at k2
        simp only [↓wpre, wset, wcore, ne_eq, if_true, if_false, exists_eq_left', true_implies, false_implies, exists_const, exists_eq_right, binA, intA, loadA, storeA, pickC, setAt, mapO, argsE, X.isC, resA, oneA, unA, boundA, eqiA, eqsA, fillA, fillE, ASt.fz, strA, Nat.reduceEqDiff, Nat.reduceLT, ↓reduceIte, reduceCtorEq, Nat.reduceAdd, Nat.reduceLeDiff, Int.reduceBEq, Int.reduceBNe, Int.reduceLT, Int.reduceLE, Int.reduceGT, Int.reduceGE, Nat.reduceDiv, Nat.reduceMul, List.length_append, List.append_assoc, app_get_len, app_get_add, app_set_len, app_set_add, e2, e5, e6, e7, h5, h6, x1, x3, cs, hsz, k1, y1, y2, hk, k2, a1, a2, c4]
      · rw [e] at k2
        have hge : decide ((j : Int) ≥ j) = true := by simp
        cases hq : ((11 : Int) == k)
        · simp only [↓wpre, wset, wcore, ne_eq, if_true, if_false, exists_eq_left', true_implies, false_implies, exists_const, exists_eq_right, binA, intA, loadA, storeA, pickC, setAt, mapO, argsE, X.isC, resA, oneA, unA, boundA, eqiA, eqsA, fillA, fillE, ASt.fz, strA, Nat.reduceEqDiff, Nat.reduceLT, ↓reduceIte, reduceCtorEq, Nat.reduceAdd, Nat.reduceLeDiff, Int.reduceBEq, Int.reduceBNe, Int.reduceLT, Int.reduceLE, Int.reduceGT, Int.reduceGE, Nat.reduceDiv, Nat.reduceMul, List.length_append, List.append_assoc, app_get_len, app_get_add, app_set_len, app_set_add, e2, e5, e6, e7, h5, h6, x1, x3, cs, hsz, k1, y1, y2, hk, k2, a1, a2, c4, hq, hge]
        · simp only [↓wpre, wset, wcore, ne_eq, if_true, if_false, exists_eq_left', true_implies, false_implies, exists_const, exists_eq_right, binA, intA, loadA, storeA, pickC, setAt, mapO, argsE, X.isC, resA, oneA, unA, boundA, eqiA, eqsA, fillA, fillE, ASt.fz, strA, Nat.reduceEqDiff, Nat.reduceLT, ↓reduceIte, reduceCtorEq, Nat.reduceAdd, Nat.reduceLeDiff, Int.reduceBEq, Int.reduceBNe, Int.reduceLT, Int.reduceLE, Int.reduceGT, Int.reduceGE, Nat.reduceDiv, Nat.reduceMul, List.length_append, List.append_assoc, app_get_len, app_get_add, app_set_len, app_set_add, e2, e5, e6, e7, h5, h6, x1, x3, cs, hsz, k1, y1, y2, hk, k2, a1, a2, c4, hq]
    | ok y =>
      rw [hs] at hstp
      simp only [hstp] at k1 hay
      rcases Nat.lt_or_ge j N with hlt | hge
      · have hne : ((j : Int) == N) = false := by simp; omega
        simp only [↓wpre, wset, wcore, ne_eq, if_true, if_false, exists_eq_left', true_implies, false_implies, exists_const, exists_eq_right, binA, intA, loadA, storeA, pickC, setAt, mapO, argsE, X.isC, resA, oneA, unA, boundA, eqiA, eqsA, fillA, fillE, ASt.fz, strA, Nat.reduceEqDiff, Nat.reduceLT, ↓reduceIte, reduceCtorEq, Nat.reduceAdd, Nat.reduceLeDiff, Int.reduceBEq, Int.reduceBNe, Int.reduceLT, Int.reduceLE, Int.reduceGT, Int.reduceGE, Nat.reduceDiv, Nat.reduceMul, List.length_append, List.append_assoc, app_get_len, app_get_add, app_set_len, app_set_add, e2, e5, e6, e7, h5, h6, x1, x3, x4, cs, hsz, k1, y1, y2, y3, hne]
        refine EQ_in ⟨j + 1, by omega, y, cy, _, rfl, e2, e5, e6, next_ixv (by unfold lenB; omega), by omega, hay, ?_, fun m => ?_, fun _ => ?_⟩
        · exact (way_of hf0 hc0).next (by rw [show 1000000 - j = 1000000 - (j + 1) + 1 from by omega] at hI; exact hI) (by simpa using hsz') hv hs
        · have := hev (m + 1)
          rw [ev_eq p.gs (m + 1) x, if_neg (by rw [hsz']; decide), if_neg (by rw [hv]; decide)] at this
          simp only [hs] at this
          rw [← this]
          congr 1
          omega
        · have := hev 0
          rw [hev0] at this
          exact this
      · have hne : ((j : Int) == N) = true := by simp; omega
        have hjN : j = N := by omega
        have hr : p.eval N = (.zero, 11) := by
          rw [eval_nat hc0 (by omega)]
          have := hev 0
          rw [Nat.add_zero, hjN, hev0] at this
          rw [this]
        obtain ⟨ca, ha, a1, a2, a3, k2⟩ := eval_look hp hf0 hr
        simp only [↓wpre, wset, wcore, ne_eq, if_true, if_false, exists_eq_left', true_implies, false_implies, exists_const, exists_eq_right, binA, intA, loadA, storeA, pickC, setAt, mapO, argsE, X.isC, resA, oneA, unA, boundA, eqiA, eqsA, fillA, fillE, ASt.fz, strA, Nat.reduceEqDiff, Nat.reduceLT, ↓reduceIte, reduceCtorEq, Nat.reduceAdd, Nat.reduceLeDiff, Int.reduceBEq, Int.reduceBNe, Int.reduceLT, Int.reduceLE, Int.reduceGT, Int.reduceGE, Nat.reduceDiv, Nat.reduceMul, List.length_append, List.append_assoc, app_get_len, app_get_add, app_set_len, app_set_add, e2, e5, e6, e7, h5, h6, x1, x3, cs, hsz, k1, y1, y2, hne, k2, a1, a2, c4]
  · have hev0 : ∀ m, ev p.gs m x = .ok x := fun m => by rw [ev_eq, if_neg (by rw [hsz']; decide), if_pos hv]
    have hstp : x.stp p.gs = (x, false, 0) := by unfold Ex.stp; rw [if_pos hv]
    simp only [hstp] at k1
    have hr : p.eval j = (x, 0) := by
      rw [eval_nat hc0 (by omega)]
      have := hev 0
      rw [hev0, Nat.add_zero] at this
      rw [this]
    obtain ⟨ca, ha, a1, a2, a3, k2⟩ := eval_look hp hf0 hr
    obtain ⟨_, rfl, k3⟩ := (same_ret _ ha hx).call rfl (by simp [pvs_cons, pvs_nil, exPure _ ha, exPure _ hx])
    have hBQ : ∀ (Q : AExit → St → Prop) (st : St), BQ 1 Q (.exit 0) st = Q (.exit 0) st := fun _ _ => BQ_e' (by decide)
    cases hj0 : ((j : Int) == 0)
    · have hj1 : 0 < j := by have : j ≠ 0 := by simpa using hj0
                             omega
      have hr : p.eval ((j - 1 : Nat) : Int) = (.zero, 11) := by
        rw [eval_nat hc0 (by omega), hlast hj1]
      have hw : IntKind.i64.wrap ((j : Int) - 1) = ((j - 1 : Nat) : Int) := by rw [wrap_small (by omega) (by omega)]; omega
      obtain ⟨cb, hb, b1, b2, b3, k4⟩ := eval_look hp hf0 hr
      simp only [↓wpre, wset, wcore, ne_eq, if_true, if_false, exists_eq_left', true_implies, false_implies, exists_const, exists_eq_right, binA, intA, loadA, storeA, pickC, setAt, mapO, argsE, X.isC, resA, oneA, unA, boundA, eqiA, eqsA, fillA, fillE, ASt.fz, strA, Nat.reduceEqDiff, Nat.reduceLT, ↓reduceIte, reduceCtorEq, Nat.reduceAdd, Nat.reduceLeDiff, Int.reduceBEq, Int.reduceBNe, Int.reduceLT, Int.reduceLE, Int.reduceGT, Int.reduceGE, Nat.reduceDiv, Nat.reduceMul, List.length_append, List.append_assoc, app_get_len, app_get_add, app_set_len, app_set_add, e2, e5, e6, e7, h5, h6, x1, x3, x2, cs, hsz, hBQ, k1, y1, y2, y3, k2, a1, a2, a3, k3, hj0, hw, k4, b1, b2, c4]
    · simp only [↓wpre, wset, wcore, ne_eq, if_true, if_false, exists_eq_left', true_implies, false_implies, exists_const, exists_eq_right, binA, intA, loadA, storeA, pickC, setAt, mapO, argsE, X.isC, resA, oneA, unA, boundA, eqiA, eqsA, fillA, fillE, ASt.fz, strA, Nat.reduceEqDiff, Nat.reduceLT, ↓reduceIte, reduceCtorEq, Nat.reduceAdd, Nat.reduceLeDiff, Int.reduceBEq, Int.reduceBNe, Int.reduceLT, Int.reduceLE, Int.reduceGT, Int.reduceGE, Nat.reduceDiv, Nat.reduceMul, List.length_append, List.append_assoc, app_get_len, app_get_add, app_set_len, app_set_add, e2, e5, e6, e7, h5, h6, x1, x3, x2, cs, hsz, hBQ, k1, y1, y2, y3, k2, a1, a2, a3, k3, hj0, c4]
end Go.Proofs.Eng
