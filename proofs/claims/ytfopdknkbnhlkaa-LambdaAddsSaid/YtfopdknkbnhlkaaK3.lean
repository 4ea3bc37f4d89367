/- K3: what functions of the program return. No conditions beyond those in the theorems. -/
import Derived.Test.YtfopdknkbnhlkaaK2
set_option linter.all false
set_option linter.deprecated false
set_option linter.unnecessarySimpa false
set_option linter.unusedVariables false
set_option linter.unusedSimpArgs false
set_option linter.defProp false
namespace Go.Proofs.Eng
open Go Go.Proofs
set_option maxRecDepth 100000
set_option maxHeartbeats 8000000
theorem stp_no {gs : List Gl} {e : Ex} (hv : e.val = false) : e.stp gs = ofE (e.step gs) := by
  unfold Ex.stp
  rw [if_neg (by rw [hv]; decide)]
  cases e.step gs <;> rfl
theorem ins_eq {gs : List Gl} {k i : Int} {n : ByteArray} {s : List Int} {kids : List Ex} {j : Nat} {x : Ex} (hv : x.val = false) : Ex.ins k i n s kids j (x.stp gs) = ofE (match x.step gs with | .ok x' => .ok (.mk k i n s (kids.set j x')) | .error c => .error c) := by
  rw [stp_no hv]
  cases hs : x.step gs with
  | ok x' => simp [ofE, Ex.ins]
  | error c =>
    have := step_err gs x hs
    simp [ofE, Ex.ins, this]
theorem stpR_of {r r' : Ex × Bool × Int} {v : AV} (h : r = r') (h2 : StpR r' v) : StpR r v := h ▸ h2
theorem rStep_ret {p : Pr} {pa : AV} (hp : p.Is pa) {B : Int} (hB : B ≤ B62) (e : Ex) : ∀ {a}, e.Is a → e.gd B → 64 * (e.dep : Int) ≤ B62 → Out md pfs 21 [pa, a] (StpR (e.stp p.gs)) fun _ => False := by
  have hpp := prPure hp
  obtain ⟨gas, tg, c, rfl, h1, h2, h3, h4, h5, h6, h7, h8, h9, h10⟩ := id hp
  induction e using Ex.ind with
  | h k i n s kids ih =>
  intro a h hgd hd
  have hw := gd_wf _ hgd
  have hep := exPure _ h
  obtain ⟨_, rfl, cval⟩ := (value_ret _ h).call rfl (by simp [pvs_cons, pvs_nil, hep])
  obtain ⟨t1, t2, kas, rfl, g1, g2, g3, g4, g5, g6⟩ := id h.opn
  have hw' := Ex.wf_iff.1 hw
  have hgd' := Ex.gd_iff.1 hgd
  have hf := fm_facts hw'.1
  have hkl := g6.len
  refine out_of pf21_is (Nat.le_of_ble_eq_true rfl) ?_
  cases hv : (Ex.mk k i n s kids).val
  case true =>
    simp only [pf21, ↓wpre, wset, wcore, ne_eq, if_true, if_false, exists_eq_left', true_implies, false_implies, exists_const, exists_eq_right, binA, intA, loadA, storeA, pickC, setAt, mapO, argsE, X.isC, resA, oneA, unA, boundA, eqiA, eqsA, fillA, fillE, ASt.fz, strA, Nat.reduceEqDiff, Nat.reduceLT, ↓reduceIte, reduceCtorEq, Nat.reduceAdd, Nat.reduceLeDiff, Int.reduceBEq, Int.reduceBNe, Int.reduceLT, Int.reduceLE, Int.reduceGT, Int.reduceGE, Nat.reduceDiv, Nat.reduceMul, h5, h6, cval, hv, hep]
    exact stpR_of (r' := (.mk k i n s kids, false, 0)) (by rw [Ex.stp, if_pos hv]) ⟨_, rfl, h⟩
  rw [stp_no hv]
  by_cases k11 : k = 11
  · subst k11
    simp only [pf21, ↓wpre, wset, wcore, ne_eq, if_true, if_false, exists_eq_left', true_implies, false_implies, exists_const, exists_eq_right, binA, intA, loadA, storeA, pickC, setAt, mapO, argsE, X.isC, resA, oneA, unA, boundA, eqiA, eqsA, fillA, fillE, ASt.fz, strA, Nat.reduceEqDiff, Nat.reduceLT, ↓reduceIte, reduceCtorEq, Nat.reduceAdd, Nat.reduceLeDiff, Int.reduceBEq, Int.reduceBNe, Int.reduceLT, Int.reduceLE, Int.reduceGT, Int.reduceGE, Nat.reduceDiv, Nat.reduceMul, h5, h6, cval, hv]
    exact stpR_of (r' := (.zero, false, 30)) (by simp [Ex.step, ofE]) ⟨_, rfl, zeroIs⟩
  by_cases k0 : k = 0
  · subst k0
    simp only [pf21, ↓wpre, wset, wcore, ne_eq, if_true, if_false, exists_eq_left', true_implies, false_implies, exists_const, exists_eq_right, binA, intA, loadA, storeA, pickC, setAt, mapO, argsE, X.isC, resA, oneA, unA, boundA, eqiA, eqsA, fillA, fillE, ASt.fz, strA, Nat.reduceEqDiff, Nat.reduceLT, ↓reduceIte, reduceCtorEq, Nat.reduceAdd, Nat.reduceLeDiff, Int.reduceBEq, Int.reduceBNe, Int.reduceLT, Int.reduceLE, Int.reduceGT, Int.reduceGE, Nat.reduceDiv, Nat.reduceMul, h5, h6, cval, hv]
    exact stpR_of (r' := (.zero, false, 24)) (by simp [Ex.step, ofE]) ⟨_, rfl, zeroIs⟩
  by_cases k5 : k = 5
  · subst k5
    obtain ⟨v, hv5, hc⟩ := (global_ret hp n).call rfl (by simp [pvs_cons, pvs_nil, pv_v, hpp])
    rcases hv5 with ⟨b, ab, q1, rfl, q2⟩ | ⟨q1, rfl⟩
    · obtain ⟨cv, rfl, v1, v2⟩ := exAgg.cells q2
      have v3 : cv.take 5 = cv := List.take_of_length_le (by omega)
      simp only [pf21, ↓wpre, wset, wcore, ne_eq, if_true, if_false, exists_eq_left', true_implies, false_implies, exists_const, exists_eq_right, binA, intA, loadA, storeA, pickC, setAt, mapO, argsE, X.isC, resA, oneA, unA, boundA, eqiA, eqsA, fillA, fillE, ASt.fz, strA, Nat.reduceEqDiff, Nat.reduceLT, ↓reduceIte, reduceCtorEq, Nat.reduceAdd, Nat.reduceLeDiff, Int.reduceBEq, Int.reduceBNe, Int.reduceLT, Int.reduceLE, Int.reduceGT, Int.reduceGE, Nat.reduceDiv, Nat.reduceMul, h5, h6, cval, hv, hc, v1, v2, v3, exPure _ q2]
      exact stpR_of (r' := (b, true, 0)) (by simp [Ex.step, q1, ofE]) ⟨_, rfl, q2⟩
    · simp only [zeroAV] at hc
      simp only [pf21, ↓wpre, wset, wcore, ne_eq, if_true, if_false, exists_eq_left', true_implies, false_implies, exists_const, exists_eq_right, binA, intA, loadA, storeA, pickC, setAt, mapO, argsE, X.isC, resA, oneA, unA, boundA, eqiA, eqsA, fillA, fillE, ASt.fz, strA, Nat.reduceEqDiff, Nat.reduceLT, ↓reduceIte, reduceCtorEq, Nat.reduceAdd, Nat.reduceLeDiff, Int.reduceBEq, Int.reduceBNe, Int.reduceLT, Int.reduceLE, Int.reduceGT, Int.reduceGE, Nat.reduceDiv, Nat.reduceMul, h5, h6, cval, hv, hc]
      have e9 : (Ex.mk 5 i n s kids).step p.gs = .error 9 := by simp [Ex.step, q1]
      rw [e9]
      exact ⟨_, rfl, zeroIs⟩
  have x0 : (k == 0) = false := by simpa using k0
  have x5 : (k == 5) = false := by simpa using k5
  have x11 : (k == 11) = false := by simpa using k11
  have hall := g6.all exAgg
  have hcap : kids.length ≤ capB := by unfold capB; omega
  have hin : ∀ {j : Nat} {y : Ex}, kids[j]? = some y → y.val = false → Out md pfs 54 [.agg (.sl gas tg :: c), .agg [.int k, .int i, .str n, .sl (ints s) t1, .sl kas t2], .int j] (StpR (ofE (match y.step p.gs with | .ok x' => .ok (.mk k i n s (kids.set j x')) | .error c => .error c))) fun _ => False := by
    intro j y hj hyv
    have hm := List.mem_of_getElem? hj
    have hdy := dep_kid hm
    have hd2 : 64 * ((y.dep : Nat) : Int) ≤ B62 := by rw [Ex.dep] at hd; omega
    have := inside_ret hp h hj hcap (r := y.stp p.gs) (fun {ax} hax => ih y hm hax (hgd'.2.2 y hm) hd2)
    rwa [ins_eq hyv] at this
  have hv2 := val_kids hv
  by_cases hk4 : k = 4 ∨ k = 7
  · obtain ⟨y, cy, d0, d1, d3, d4, d5, d6, d7, d8⟩ := g6.get exAgg (i := 0) (by rw [hkl]; omega)
    obtain ⟨_, rfl, cv⟩ := (value_ret y d8).call rfl (by simp [pvs_cons, pvs_nil, exPure _ d8])
    cases hyv : y.val
    · have hit := stepL_hit p.gs 1 0 kids y (by omega) d0 hyv (by simp)
      have hst : (Ex.mk k i n s kids).step p.gs = match y.step p.gs with | .ok x' => .ok (.mk k i n s (kids.set 0 x')) | .error c => .error c := by
        simp only [Ex.step]
        rw [if_neg k0, if_neg k11, if_neg k5, if_pos hk4, hit]
        cases y.step p.gs <;> rfl
      obtain ⟨_, ⟨az, rfl, hz⟩, hc⟩ := (hin d0 hyv).call rfl (by simp [pvs_cons, pvs_nil, pv_v, hpp, hep])
      rw [← hst] at hc hz
      obtain ⟨cz, rfl, z1, z2⟩ := exAgg.cells hz
      have z3 : cz.take 5 = cz := List.take_of_length_le (by omega)
      simp only [Int.cast_ofNat_Int] at hc
      rcases hk4 with rfl | rfl
      all_goals
        simp only [pf21, ↓wpre, wset, wcore, ne_eq, if_true, if_false, exists_eq_left', true_implies, false_implies, exists_const, exists_eq_right, binA, intA, loadA, storeA, pickC, setAt, mapO, argsE, X.isC, resA, oneA, unA, boundA, eqiA, eqsA, fillA, fillE, ASt.fz, strA, Nat.reduceEqDiff, Nat.reduceLT, ↓reduceIte, reduceCtorEq, Nat.reduceAdd, Nat.reduceLeDiff, Int.reduceBEq, Int.reduceBNe, Int.reduceLT, Int.reduceLE, Int.reduceGT, Int.reduceGE, Nat.reduceDiv, Nat.reduceMul, h5, h6, cval, hv, x0, x5, x11, d4, d5, d6, d7, hall, cv, hyv, hc, z1, z2, z3, exPure _ hz]
        exact ⟨_, rfl, hz⟩
    · have hst : (Ex.mk k i n s kids).step p.gs = (Ex.mk k i n s kids).red := by
        simp only [Ex.step]
        rw [if_neg k0, if_neg k11, if_neg k5, if_pos hk4, stepL_none _ _ _ (by
          intro x hx
          have : kids.take 1 = [y] := by rw [List.take_add_one, d0]; simp
          rw [this] at hx; simp at hx; subst hx; exact hyv)]
      rw [hst]
      rcases hk4 with rfl | rfl
      · obtain ⟨_, ⟨az, rfl, hz⟩, hc⟩ := (branch_ret h hB hgd hd).call rfl (by simp [pvs_cons, pvs_nil, hep])
        obtain ⟨cz, rfl, z1, z2⟩ := exAgg.cells hz
        have z3 : cz.take 5 = cz := List.take_of_length_le (by omega)
        simp only [pf21, ↓wpre, wset, wcore, ne_eq, if_true, if_false, exists_eq_left', true_implies, false_implies, exists_const, exists_eq_right, binA, intA, loadA, storeA, pickC, setAt, mapO, argsE, X.isC, resA, oneA, unA, boundA, eqiA, eqsA, fillA, fillE, ASt.fz, strA, Nat.reduceEqDiff, Nat.reduceLT, ↓reduceIte, reduceCtorEq, Nat.reduceAdd, Nat.reduceLeDiff, Int.reduceBEq, Int.reduceBNe, Int.reduceLT, Int.reduceLE, Int.reduceGT, Int.reduceGE, Nat.reduceDiv, Nat.reduceMul, h5, h6, cval, hv, x0, x5, x11, d4, d5, d6, d7, hall, cv, hyv, hc, z1, z2, z3, exPure _ hz]
        exact ⟨_, rfl, hz⟩
      · obtain ⟨x, y', ax, ay, rfl, rfl, hx, hy⟩ := g6.two (by omega)
        simp at d0; subst d0
        obtain ⟨cw, rfl, y1, y2⟩ := exAgg.cells hy
        have y3 : cw.take 5 = cw := List.take_of_length_le (by omega)
        simp at d4; subst d4
        simp only [Ex.dep, depL] at hd
        have hwx := hw'.2 x (by simp)
        have hwy := hw'.2 y' (by simp)
        have hgy := hgd'.2.2 y' (by simp)
        have hgx := hgd'.2.2 x (by simp)
        obtain ⟨tv, htv, hsl⟩ := slice_some (l := [.agg cy, .agg cw]) (t := t2) (lo := 0) (hi := 1) (by omega) (by simp) g2
        obtain ⟨v, hv', hc⟩ := (rsubst_ret hy (fits_of _ hwy (by omega) (by omega)) (slim_of _ hwy) (vs := [x]) (vas := [.agg cy]) (tv := tv) ⟨hx, trivial⟩ htv (fun v hv => by simp at hv; subst hv; exact slim_of _ hwx)).call rfl (by simp [pvs_cons, pvs_nil, pv_sl, exPure _ hx, exPure _ hy, htv])
        rw [rsubst_eq hB hgy (fun v hv => by simp at hv; subst hv; exact hgx)] at hv'
        obtain ⟨cz, rfl, z1, z2⟩ := exAgg.cells hv'
        have z3 : cz.take 5 = cz := List.take_of_length_le (by omega)
        simp only [pf21, ↓wpre, wset, wcore, ne_eq, if_true, if_false, exists_eq_left', true_implies, false_implies, exists_const, exists_eq_right, binA, intA, loadA, storeA, pickC, setAt, mapO, argsE, X.isC, resA, oneA, unA, boundA, eqiA, eqsA, fillA, fillE, ASt.fz, strA, Nat.reduceEqDiff, Nat.reduceLT, ↓reduceIte, reduceCtorEq, Nat.reduceAdd, Nat.reduceLeDiff, Int.reduceBEq, Int.reduceBNe, Int.reduceLT, Int.reduceLE, Int.reduceGT, Int.reduceGE, Nat.reduceDiv, Nat.reduceMul, h5, h6, cval, hv, x0, x5, x11, d5, d6, d7, cv, hyv, hsl, y1, y2, y3, hc, z1, z2, z3, exPure _ hv']
        exact stpR_of (r' := (y'.subst [x], true, 0)) (by simp [Ex.red, ofE]) ⟨_, rfl, hv'⟩
  have x4 : (k == 4) = false := by simp; omega
  have x7 : (k == 7) = false := by simp; omega
  simp only [pf21, ↓wpre, wset, wcore, ne_eq, if_true, if_false, exists_eq_left', true_implies, false_implies, exists_const, exists_eq_right, binA, intA, loadA, storeA, pickC, setAt, mapO, argsE, X.isC, resA, oneA, unA, boundA, eqiA, eqsA, fillA, fillE, ASt.fz, strA, Nat.reduceEqDiff, Nat.reduceLT, ↓reduceIte, reduceCtorEq, Nat.reduceAdd, Nat.reduceLeDiff, Int.reduceBEq, Int.reduceBNe, Int.reduceLT, Int.reduceLE, Int.reduceGT, Int.reduceGE, Nat.reduceDiv, Nat.reduceMul, h5, h6, cval, hv, x0, x5, x11, x4, x7]
  refine W_loopE (fun j => kas.length - j) (fun j E H T => ∃ G, H = .cells false (.sl gas tg :: c) :: .cells false [.int k, .int i, .str n, .sl (ints s) t1, .sl kas t2] :: .cells false [.int 0, .int 0, .str ⟨#[]⟩, .sl [] .nil, .sl [] .nil] :: G ∧
      E 2 = .ptr 0 0 ∧ E 3 = .ptr 1 0 ∧ E 4 = .ptr 2 0 ∧ E 9 = .int j ∧ j ≤ kas.length ∧ ∀ y ∈ kids.take j, y.val = true) ?_ 0 ⟨[], rfl, rfl, rfl, rfl, rfl, Nat.zero_le _, by simp⟩
  rintro j E H T ⟨G, rfl, e2, e3, e4, e9, hj, hvs⟩
  rcases Nat.lt_or_ge j kas.length with hlt | hge
  · obtain ⟨y, cy, d0, d1, d3, d4, d5, d6, d7, d8⟩ := g6.get exAgg hlt
    obtain ⟨_, rfl, cv⟩ := (value_ret y d8).call rfl (by simp [pvs_cons, pvs_nil, exPure _ d8])
    have hdec : decide ((j : Int) < kas.length) = true := by simp; omega
    cases hyv : y.val
    · have hit := stepL_hit p.gs kids.length j kids y (by omega) d0 hyv hvs
      have hst : (Ex.mk k i n s kids).step p.gs = match y.step p.gs with | .ok x' => .ok (.mk k i n s (kids.set j x')) | .error c => .error c := by
        simp only [Ex.step]
        rw [if_neg k0, if_neg k11, if_neg k5, if_neg hk4, hit]
        cases y.step p.gs <;> rfl
      obtain ⟨_, ⟨az, rfl, hz⟩, hc⟩ := (hin d0 hyv).call rfl (by simp [pvs_cons, pvs_nil, pv_v, hpp, hep])
      rw [← hst] at hc hz
      obtain ⟨cz, rfl, z1, z2⟩ := exAgg.cells hz
      have z3 : cz.take 5 = cz := List.take_of_length_le (by omega)
      simp only [↓wpre, wset, wcore, ne_eq, if_true, if_false, exists_eq_left', true_implies, false_implies, exists_const, exists_eq_right, binA, intA, loadA, storeA, pickC, setAt, mapO, argsE, X.isC, resA, oneA, unA, boundA, eqiA, eqsA, fillA, fillE, ASt.fz, strA, Nat.reduceEqDiff, Nat.reduceLT, ↓reduceIte, reduceCtorEq, Nat.reduceAdd, Nat.reduceLeDiff, Int.reduceBEq, Int.reduceBNe, Int.reduceLT, Int.reduceLE, Int.reduceGT, Int.reduceGE, Nat.reduceDiv, Nat.reduceMul, e2, e3, e4, e9, hdec, h5, h6, d4, d5, d6, d7, hall, cv, hyv, hc, z1, z2, z3, exPure _ hz]
      exact ⟨_, rfl, hz⟩
    · simp only [↓wpre, wset, wcore, ne_eq, if_true, if_false, exists_eq_left', true_implies, false_implies, exists_const, exists_eq_right, binA, intA, loadA, storeA, pickC, setAt, mapO, argsE, X.isC, resA, oneA, unA, boundA, eqiA, eqsA, fillA, fillE, ASt.fz, strA, Nat.reduceEqDiff, Nat.reduceLT, ↓reduceIte, reduceCtorEq, Nat.reduceAdd, Nat.reduceLeDiff, Int.reduceBEq, Int.reduceBNe, Int.reduceLT, Int.reduceLE, Int.reduceGT, Int.reduceGE, Nat.reduceDiv, Nat.reduceMul, e2, e3, e4, e9, hdec, h5, h6, d4, d5, d6, d7, hall, cv, hyv]
      exact EQ_in ⟨j + 1, by omega, G, rfl, e2, e3, e4, next_ixv (by omega), by omega, by
        rw [List.take_add_one, d0]; intro z hz; simp at hz; rcases hz with hz | rfl; exact hvs z hz; exact hyv⟩
  · have hdec : decide ((j : Int) < kas.length) = false := by simp; omega
    have hjm : j = kas.length := by omega
    subst hjm
    have hst : (Ex.mk k i n s kids).step p.gs = (Ex.mk k i n s kids).red := by
      simp only [Ex.step]
      rw [if_neg k0, if_neg k11, if_neg k5, if_neg hk4, ← hkl, stepL_none _ _ _ hvs]
    rw [hst]
    have h38 : ¬ (k = 3 ∨ k = 8) := fun h => by
      obtain ⟨x, hx, hxv⟩ := hv2.2 h
      rw [show kas.length = kids.length from hkl, List.take_length] at hvs
      rw [hvs x hx] at hxv; cases hxv
    have hkk : k = 2 ∨ k = 9 ∨ k = 10 := by omega
    simp only [Ex.dep] at hd
    rcases hkk with rfl | hk9
    · obtain ⟨x, y, ax, ay, rfl, rfl, hx, hy⟩ := g6.two (by omega)
      obtain ⟨cy, rfl, y1, y2⟩ := exAgg.cells hy
      have y3 : cy.take 5 = cy := List.take_of_length_le (by omega)
      have hxp := exPure _ hx
      have hwx := hw'.2 x (by simp)
      have hwy := hw'.2 y (by simp)
      have hgx := hgd'.2.2 x (by simp)
      have hgy := hgd'.2.2 y (by simp)
      obtain ⟨xk, xi, xn, xs, xkids⟩ := x
      obtain ⟨u1, u2, xkas, rfl, f1, f2, f3, f4, f5, f6⟩ := id hx.opn
      rw [Ex.wf_iff] at hwx
      have hfx := fm_facts hwx.1
      have hdec : decide (((2 : Nat) : Int) < ((2 : Nat) : Int)) = false := by simp
      cases c6 : (xk == 6)
      · cases c1 : (xk == 1)
        · simp only [↓wpre, wset, wcore, ne_eq, if_true, if_false, exists_eq_left', true_implies, false_implies, exists_const, exists_eq_right, binA, intA, loadA, storeA, pickC, setAt, mapO, argsE, X.isC, resA, oneA, unA, boundA, eqiA, eqsA, fillA, fillE, ASt.fz, strA, Nat.reduceEqDiff, Nat.reduceLT, ↓reduceIte, reduceCtorEq, Nat.reduceAdd, Nat.reduceLeDiff, Int.reduceBEq, Int.reduceBNe, Int.reduceLT, Int.reduceLE, Int.reduceGT, Int.reduceGE, Nat.reduceDiv, Nat.reduceMul, e2, e3, e4, e9, hdec, c6, c1, y1]
          have q6 : ¬ xk = 6 := by simpa using c6
          have q1 : ¬ xk = 1 := by simpa using c1
          exact stpR_of (r' := (.zero, false, 10)) (by simp [Ex.red, ofE, Ex.k, q6, q1]) ⟨_, rfl, zeroIs⟩
        · have q1 : xk = 1 := by simpa using c1
          subst q1
          obtain ⟨b, ab, rfl, rfl, hb⟩ := f6.one' (by omega)
          have hwb := hwx.2 b (by simp)
          have hgb := (Ex.gd_iff.1 hgx).2.2 b (by simp)
          simp only [Ex.dep, depL] at hd
          obtain ⟨cb, rfl, b1, b2⟩ := exAgg.cells hb
          have b3 : cb.take 5 = cb := List.take_of_length_le (by omega)
          obtain ⟨tv, htv, hsl⟩ := slice_some (l := [.agg [.int 1, .int xi, .str xn, .sl (ints xs) u1, .sl [.agg cb] u2], .agg cy]) (t := t2) (lo := 1) (hi := 2) (by omega) (by simp) g2
          obtain ⟨v, hv', hc⟩ := (rsubst_ret hb (fits_of _ hwb (by omega) (by omega)) (slim_of _ hwb) (vs := [y]) (vas := [.agg cy]) (tv := tv) ⟨hy, trivial⟩ htv (fun v hv => by simp at hv; subst hv; exact slim_of _ hwy)).call rfl (by simp [pvs_cons, pvs_nil, pv_sl, exPure _ hy, exPure _ hb, htv])
          rw [rsubst_eq hB hgb (fun v hv => by simp at hv; subst hv; exact hgy)] at hv'
          obtain ⟨cz, rfl, z1, z2⟩ := exAgg.cells hv'
          have z3 : cz.take 5 = cz := List.take_of_length_le (by omega)
          simp only [↓wpre, wset, wcore, ne_eq, if_true, if_false, exists_eq_left', true_implies, false_implies, exists_const, exists_eq_right, binA, intA, loadA, storeA, pickC, setAt, mapO, argsE, X.isC, resA, oneA, unA, boundA, eqiA, eqsA, fillA, fillE, ASt.fz, strA, Nat.reduceEqDiff, Nat.reduceLT, ↓reduceIte, reduceCtorEq, Nat.reduceAdd, Nat.reduceLeDiff, Int.reduceBEq, Int.reduceBNe, Int.reduceLT, Int.reduceLE, Int.reduceGT, Int.reduceGE, Nat.reduceDiv, Nat.reduceMul, e2, e3, e4, e9, hdec, c6, b1, b2, b3, y1, y2, y3, hsl, hc, z1, z2, z3, exPure _ hv']
          exact stpR_of (r' := (b.subst [y], true, 0)) (by simp [Ex.red, ofE, Ex.k, Ex.kids]) ⟨_, rfl, hv'⟩
      · have q6 : xk = 6 := by simpa using c6
        subst q6
        simp only [↓wpre, wset, wcore, ne_eq, if_true, if_false, exists_eq_left', true_implies, false_implies, exists_const, exists_eq_right, binA, intA, loadA, storeA, pickC, setAt, mapO, argsE, X.isC, resA, oneA, unA, boundA, eqiA, eqsA, fillA, fillE, ASt.fz, strA, Nat.reduceEqDiff, Nat.reduceLT, ↓reduceIte, reduceCtorEq, Nat.reduceAdd, Nat.reduceLeDiff, Int.reduceBEq, Int.reduceBNe, Int.reduceLT, Int.reduceLE, Int.reduceGT, Int.reduceGE, Nat.reduceDiv, Nat.reduceMul, e2, e3, e4, e9, hdec, y1, hxp]
        exact stpR_of (r' := (.mk 6 xi xn xs xkids, true, 0)) (by simp [Ex.red, ofE, Ex.k]) ⟨_, rfl, hx⟩
    · obtain ⟨x, ax, rfl, rfl, hx⟩ := g6.one' (by omega)
      have hxp := exPure _ hx
      have hwx := hw'.2 x (by simp)
      obtain ⟨xk, xi, xn, xs, xkids⟩ := x
      obtain ⟨u1, u2, xkas, rfl, f1, f2, f3, f4, f5, f6⟩ := id hx.opn
      rw [Ex.wf_iff] at hwx
      have hfx := fm_facts hwx.1
      have hdec : decide (((1 : Nat) : Int) < ((1 : Nat) : Int)) = false := by simp
      cases c6 : (xk == 6)
      · have q6 : ¬ xk = 6 := by simpa using c6
        cases c8 : (xk == 8)
        · have q8 : ¬ xk = 8 := by simpa using c8
          rcases hk9 with rfl | rfl
          all_goals
            simp only [↓wpre, wset, wcore, ne_eq, if_true, if_false, exists_eq_left', true_implies, false_implies, exists_const, exists_eq_right, binA, intA, loadA, storeA, pickC, setAt, mapO, argsE, X.isC, resA, oneA, unA, boundA, eqiA, eqsA, fillA, fillE, ASt.fz, strA, Nat.reduceEqDiff, Nat.reduceLT, ↓reduceIte, reduceCtorEq, Nat.reduceAdd, Nat.reduceLeDiff, Int.reduceBEq, Int.reduceBNe, Int.reduceLT, Int.reduceLE, Int.reduceGT, Int.reduceGE, Nat.reduceDiv, Nat.reduceMul, e2, e3, e4, e9, hdec, c6, c8]
            exact stpR_of (r' := (.zero, false, 10)) (by simp [Ex.red, ofE, Ex.k, q6, q8]) ⟨_, rfl, zeroIs⟩
        · have q8 : xk = 8 := by simpa using c8
          subst q8
          obtain ⟨y, z, ay, az, rfl, rfl, hy, hz⟩ := f6.two (by omega)
          obtain ⟨cy, rfl, y1, y2⟩ := exAgg.cells hy
          obtain ⟨cz, rfl, z1, z2⟩ := exAgg.cells hz
          have y3 : cy.take 5 = cy := List.take_of_length_le (by omega)
          have z3 : cz.take 5 = cz := List.take_of_length_le (by omega)
          rcases hk9 with rfl | rfl
          · simp only [↓wpre, wset, wcore, ne_eq, if_true, if_false, exists_eq_left', true_implies, false_implies, exists_const, exists_eq_right, binA, intA, loadA, storeA, pickC, setAt, mapO, argsE, X.isC, resA, oneA, unA, boundA, eqiA, eqsA, fillA, fillE, ASt.fz, strA, Nat.reduceEqDiff, Nat.reduceLT, ↓reduceIte, reduceCtorEq, Nat.reduceAdd, Nat.reduceLeDiff, Int.reduceBEq, Int.reduceBNe, Int.reduceLT, Int.reduceLE, Int.reduceGT, Int.reduceGE, Nat.reduceDiv, Nat.reduceMul, e2, e3, e4, e9, hdec, y1, y2, y3, z1, z2, z3, exPure _ hy]
            exact stpR_of (r' := (y, true, 0)) (by simp [Ex.red, ofE, Ex.k, Ex.kids]) ⟨_, rfl, hy⟩
          · simp only [↓wpre, wset, wcore, ne_eq, if_true, if_false, exists_eq_left', true_implies, false_implies, exists_const, exists_eq_right, binA, intA, loadA, storeA, pickC, setAt, mapO, argsE, X.isC, resA, oneA, unA, boundA, eqiA, eqsA, fillA, fillE, ASt.fz, strA, Nat.reduceEqDiff, Nat.reduceLT, ↓reduceIte, reduceCtorEq, Nat.reduceAdd, Nat.reduceLeDiff, Int.reduceBEq, Int.reduceBNe, Int.reduceLT, Int.reduceLE, Int.reduceGT, Int.reduceGE, Nat.reduceDiv, Nat.reduceMul, e2, e3, e4, e9, hdec, y1, y2, y3, z1, z2, z3, exPure _ hz]
            exact stpR_of (r' := (z, true, 0)) (by simp [Ex.red, ofE, Ex.k, Ex.kids]) ⟨_, rfl, hz⟩
      · have q6 : xk = 6 := by simpa using c6
        subst q6
        rcases hk9 with rfl | rfl
        all_goals
          simp only [↓wpre, wset, wcore, ne_eq, if_true, if_false, exists_eq_left', true_implies, false_implies, exists_const, exists_eq_right, binA, intA, loadA, storeA, pickC, setAt, mapO, argsE, X.isC, resA, oneA, unA, boundA, eqiA, eqsA, fillA, fillE, ASt.fz, strA, Nat.reduceEqDiff, Nat.reduceLT, ↓reduceIte, reduceCtorEq, Nat.reduceAdd, Nat.reduceLeDiff, Int.reduceBEq, Int.reduceBNe, Int.reduceLT, Int.reduceLE, Int.reduceGT, Int.reduceGE, Nat.reduceDiv, Nat.reduceMul, e2, e3, e4, e9, hdec, hxp]
          exact stpR_of (r' := (.mk 6 xi xn xs xkids, true, 0)) (by simp [Ex.red, ofE, Ex.k]) ⟨_, rfl, hx⟩
end Go.Proofs.Eng
