/- B2: what functions of the program return. No conditions beyond those in the theorems. -/
import Derived.Test.YtfopdknkbnhlkaaB1
set_option linter.all false
set_option linter.deprecated false
set_option linter.unnecessarySimpa false
set_option linter.unusedVariables false
set_option linter.unusedSimpArgs false
set_option linter.defProp false
namespace Go.Proofs.Eng
open Go Go.Proofs
set_option maxRecDepth 100000
def Ex.whole (gl : ByteArray → Bool) (e : Ex) : Int := if (e.err gl 0 != 0) = true then e.err gl 0 else if decide (e.size > 4096) = true then 5 else if decide (e.deep > 200) = true then 7 else 0
theorem rwhole_ret {p : Pr} {pa : AV} (hp : p.Is pa) {e : Ex} {a : AV} (h : e.Is a) : Out md pfs 42 [pa, a] (· = .int (e.whole p.gl)) fun _ => False := by
  obtain ⟨_, rfl, c1⟩ := (rcheck_ret hp e (v := 0) h).call rfl (by simp [pvs_cons, pvs_nil, pv_v, prPure hp, exPure _ h])
  obtain ⟨_, rfl, c2⟩ := (rsize_ret e h).call rfl (by simp [pvs_cons, pvs_nil, pv_v, exPure _ h])
  obtain ⟨_, rfl, c3⟩ := (deep_ret e h).call rfl (by simp [pvs_cons, pvs_nil, pv_v, exPure _ h])
  obtain ⟨gas, tg, c, rfl, h1, h2, h3, h4, h5, h6, h7, h8, h9, h10⟩ := id hp
  obtain ⟨c', rfl, l1, l2⟩ := exAgg.cells h
  have l3 : c'.take 5 = c' := List.take_of_length_le (by omega)
  refine out_of pf42_is (Nat.le_of_ble_eq_true rfl) ?_
  simp only [Ex.whole]
  cases b1 : (e.err p.gl 0 != 0)
  · cases b2 : decide (e.size > 4096)
    · cases b3 : decide (e.deep > 200)
      all_goals simp only [pf42, ↓wpre, wset, wcore, ne_eq, if_true, if_false, exists_eq_left', true_implies, false_implies, exists_const, exists_eq_right, binA, intA, loadA, storeA, pickC, setAt, mapO, argsE, X.isC, resA, oneA, unA, boundA, eqiA, eqsA, fillA, fillE, ASt.fz, strA, Nat.reduceEqDiff, Nat.reduceLT, ↓reduceIte, reduceCtorEq, Nat.reduceAdd, Nat.reduceLeDiff, Int.reduceBEq, Int.reduceBNe, Int.reduceLT, Int.reduceLE, Int.reduceGT, Int.reduceGE, Nat.reduceDiv, Nat.reduceMul, h5, h6, l1, l3, c1, c2, c3, b1, b2, b3]
    · simp only [pf42, ↓wpre, wset, wcore, ne_eq, if_true, if_false, exists_eq_left', true_implies, false_implies, exists_const, exists_eq_right, binA, intA, loadA, storeA, pickC, setAt, mapO, argsE, X.isC, resA, oneA, unA, boundA, eqiA, eqsA, fillA, fillE, ASt.fz, strA, Nat.reduceEqDiff, Nat.reduceLT, ↓reduceIte, reduceCtorEq, Nat.reduceAdd, Nat.reduceLeDiff, Int.reduceBEq, Int.reduceBNe, Int.reduceLT, Int.reduceLE, Int.reduceGT, Int.reduceGE, Nat.reduceDiv, Nat.reduceMul, h5, h6, l1, l3, c1, c2, c3, b1, b2]
  · simp only [pf42, ↓wpre, wset, wcore, ne_eq, if_true, if_false, exists_eq_left', true_implies, false_implies, exists_const, exists_eq_right, binA, intA, loadA, storeA, pickC, setAt, mapO, argsE, X.isC, resA, oneA, unA, boundA, eqiA, eqsA, fillA, fillE, ASt.fz, strA, Nat.reduceEqDiff, Nat.reduceLT, ↓reduceIte, reduceCtorEq, Nat.reduceAdd, Nat.reduceLeDiff, Int.reduceBEq, Int.reduceBNe, Int.reduceLT, Int.reduceLE, Int.reduceGT, Int.reduceGE, Nat.reduceDiv, Nat.reduceMul, h5, h6, l1, l3, c1, c2, c3, b1]
theorem ropen_ret {p : Pr} {pa : AV} (hp : p.Is pa) {e : Ex} {a : AV} (h : e.Is a) : Out md pfs 43 [pa, a] (· = .bool (e.err p.gl 1073741824 == 0)) fun _ => False := by
  obtain ⟨_, rfl, c1⟩ := (rcheck_ret hp e (v := 1073741824) h).call rfl (by simp [pvs_cons, pvs_nil, pv_v, prPure hp, exPure _ h])
  obtain ⟨gas, tg, c, rfl, h1, h2, h3, h4, h5, h6, h7, h8, h9, h10⟩ := id hp
  obtain ⟨c', rfl, l1, l2⟩ := exAgg.cells h
  have l3 : c'.take 5 = c' := List.take_of_length_le (by omega)
  refine out_of pf43_is (Nat.le_of_ble_eq_true rfl) ?_
  simp only [pf43, ↓wpre, wset, wcore, ne_eq, if_true, if_false, exists_eq_left', true_implies, false_implies, exists_const, exists_eq_right, binA, intA, loadA, storeA, pickC, setAt, mapO, argsE, X.isC, resA, oneA, unA, boundA, eqiA, eqsA, fillA, fillE, ASt.fz, strA, Nat.reduceEqDiff, Nat.reduceLT, ↓reduceIte, reduceCtorEq, Nat.reduceAdd, Nat.reduceLeDiff, Int.reduceBEq, Int.reduceBNe, Int.reduceLT, Int.reduceLE, Int.reduceGT, Int.reduceGE, Nat.reduceDiv, Nat.reduceMul, h5, h6, l1, l3, c1]
/-- The globals one after the other, and the main expression behind them. -/
def Pr.go (p : Pr) : List Gl → List Gl → Int
  | _, [] => p.main.whole p.gl
  | prev, g :: gs => if isName g.1 = false then 29 else if (prev.any fun x => decide (x.1 = g.1)) = true then 8 else if (g.2.whole p.gl != 0) = true then g.2.whole p.gl else p.go (prev ++ [g]) gs
def Pr.check (p : Pr) : Int := if decide ((p.gs.length : Int) > 1000) = true then 6 else p.go [] p.gs
theorem rCheck_ret {p : Pr} {pa : AV} (hp : p.Is pa) : Out md pfs 15 [pa] (· = .int p.check) fun _ => False := by
  obtain ⟨gas, tg, c, rfl, h1, h2, h3, h4, h5, h6, h7, h8, h9, h10⟩ := id hp
  refine out_of pf15_is (Nat.le_of_ble_eq_true rfl) ?_
  have hl := h3.len
  simp only [Pr.check]
  rw [← hl]
  cases b0 : decide ((gas.length : Int) > 1000)
  · simp only [pf15, ↓wpre, wset, wcore, ne_eq, if_true, if_false, exists_eq_left', true_implies, false_implies, exists_const, exists_eq_right, binA, intA, loadA, storeA, pickC, setAt, mapO, argsE, X.isC, resA, oneA, unA, boundA, eqiA, eqsA, fillA, fillE, ASt.fz, strA, Nat.reduceEqDiff, Nat.reduceLT, ↓reduceIte, reduceCtorEq, Nat.reduceAdd, Nat.reduceLeDiff, Int.reduceBEq, Int.reduceBNe, Int.reduceLT, Int.reduceLE, Int.reduceGT, Int.reduceGE, Nat.reduceDiv, Nat.reduceMul, h5, b0]
    refine W_loopE (fun j => gas.length - j) (fun j E H T => H = [.cells false (.sl gas tg :: c)] ∧ E 1 = .ptr 0 0 ∧ E 3 = .int j ∧ j ≤ gas.length ∧ p.go (p.gs.take j) (p.gs.drop j) = p.go [] p.gs) ?_ 0 ⟨rfl, rfl, rfl, Nat.zero_le _, rfl⟩
    rintro j E H T ⟨rfl, e1, e3, hj, hn⟩
    rcases Nat.lt_or_ge j gas.length with hlt | hge
    · obtain ⟨g, _, d0, d1, d3, d4, ⟨c2, rfl, hns, hg⟩⟩ := h3.at hlt
      obtain ⟨c3, e, b1, b2⟩ := exAgg.cells hg
      cases e
      have b3 : c2.take 5 = c2 := List.take_of_length_le (by omega)
      have hdec : decide ((j : Int) < gas.length) = true := by simpa using hlt
      rw [d1, Pr.go] at hn
      obtain ⟨_, rfl, cn⟩ := (refName_ret g.1 hns).call rfl (by simp [pvs_cons, pvs_nil, pv_v])
      obtain ⟨_, rfl, cw⟩ := (rwhole_ret hp hg).call rfl (by simp [pvs_cons, pvs_nil, pv_v, prPure hp, exPure _ hg])
      cases nm : isName g.1
      · simp only [↓wpre, wset, wcore, ne_eq, if_true, if_false, exists_eq_left', true_implies, false_implies, exists_const, exists_eq_right, binA, intA, loadA, storeA, pickC, setAt, mapO, argsE, X.isC, resA, oneA, unA, boundA, eqiA, eqsA, fillA, fillE, ASt.fz, strA, Nat.reduceEqDiff, Nat.reduceLT, ↓reduceIte, reduceCtorEq, Nat.reduceAdd, Nat.reduceLeDiff, Int.reduceBEq, Int.reduceBNe, Int.reduceLT, Int.reduceLE, Int.reduceGT, Int.reduceGE, Nat.reduceDiv, Nat.reduceMul, e1, e3, hdec, d4, h10, cn, nm]
        rw [← hn, if_pos nm]
      · rw [if_neg (by rw [nm]; decide)] at hn
        simp only [↓wpre, wset, wcore, ne_eq, if_true, if_false, exists_eq_left', true_implies, false_implies, exists_const, exists_eq_right, binA, intA, loadA, storeA, pickC, setAt, mapO, argsE, X.isC, resA, oneA, unA, boundA, eqiA, eqsA, fillA, fillE, ASt.fz, strA, Nat.reduceEqDiff, Nat.reduceLT, ↓reduceIte, reduceCtorEq, Nat.reduceAdd, Nat.reduceLeDiff, Int.reduceBEq, Int.reduceBNe, Int.reduceLT, Int.reduceLE, Int.reduceGT, Int.reduceGE, Nat.reduceDiv, Nat.reduceMul, e1, e3, hdec, d4, h10, cn, nm]
        refine W_loopE (fun m => j - m) (fun m E H T => H = [.cells false (.sl gas tg :: c)] ∧ E 1 = .ptr 0 0 ∧ E 3 = .int j ∧ E 4 = .int m ∧ m ≤ j ∧ ((p.gs.take m).any fun x => decide (x.1 = g.1)) = false) ?_ 0 ⟨rfl, e1, e3, rfl, Nat.zero_le _, rfl⟩
        rintro m E H T ⟨rfl, e1, e3, e4, hm, hm2⟩
        rcases Nat.lt_or_ge m j with hlt2 | hge2
        · obtain ⟨g2, _, q0, q1, q3, q4, ⟨c4, rfl, hns2, hg2⟩⟩ := h3.at (i := m) (by omega)
          have hdec2 : decide ((m : Int) < j) = true := by simpa using hlt2
          cases hx : decide (g2.1 = g.1)
          · simp only [↓wpre, wset, wcore, ne_eq, if_true, if_false, exists_eq_left', true_implies, false_implies, exists_const, exists_eq_right, binA, intA, loadA, storeA, pickC, setAt, mapO, argsE, X.isC, resA, oneA, unA, boundA, eqiA, eqsA, fillA, fillE, ASt.fz, strA, Nat.reduceEqDiff, Nat.reduceLT, ↓reduceIte, reduceCtorEq, Nat.reduceAdd, Nat.reduceLeDiff, Int.reduceBEq, Int.reduceBNe, Int.reduceLT, Int.reduceLE, Int.reduceGT, Int.reduceGE, Nat.reduceDiv, Nat.reduceMul, e1, e3, e4, hdec2, d4, q4, h10, str_eq, hx]
            exact EQ_in ⟨m + 1, by omega, rfl, e1, e3, next_ixv (by omega), by omega, by rw [List.take_add_one, q0]; simp [List.any_append, hm2, hx]⟩
          · simp only [↓wpre, wset, wcore, ne_eq, if_true, if_false, exists_eq_left', true_implies, false_implies, exists_const, exists_eq_right, binA, intA, loadA, storeA, pickC, setAt, mapO, argsE, X.isC, resA, oneA, unA, boundA, eqiA, eqsA, fillA, fillE, ASt.fz, strA, Nat.reduceEqDiff, Nat.reduceLT, ↓reduceIte, reduceCtorEq, Nat.reduceAdd, Nat.reduceLeDiff, Int.reduceBEq, Int.reduceBNe, Int.reduceLT, Int.reduceLE, Int.reduceGT, Int.reduceGE, Nat.reduceDiv, Nat.reduceMul, e1, e3, e4, hdec2, d4, q4, h10, str_eq, hx]
            have : ((p.gs.take j).any fun x => decide (x.1 = g.1)) = true := by
              refine List.any_eq_true.2 ⟨g2, ?_, hx⟩
              refine List.mem_of_getElem? (i := m) ?_
              rw [List.getElem?_take_of_lt hlt2]; exact q0
            rw [← hn, if_pos this]
        · have hmj : m = j := by omega
          subst hmj
          have hdec2 : decide ((m : Int) < m) = false := by simp
          rw [hm2] at hn
          rw [if_neg (by decide)] at hn
          cases hz : (g.2.whole p.gl != 0)
          · simp only [↓wpre, wset, wcore, ne_eq, if_true, if_false, exists_eq_left', true_implies, false_implies, exists_const, exists_eq_right, binA, intA, loadA, storeA, pickC, setAt, mapO, argsE, X.isC, resA, oneA, unA, boundA, eqiA, eqsA, fillA, fillE, ASt.fz, strA, Nat.reduceEqDiff, Nat.reduceLT, ↓reduceIte, reduceCtorEq, Nat.reduceAdd, Nat.reduceLeDiff, Int.reduceBEq, Int.reduceBNe, Int.reduceLT, Int.reduceLE, Int.reduceGT, Int.reduceGE, Nat.reduceDiv, Nat.reduceMul, h5, h6, e1, e3, e4, hdec2, d4, h10, b1, b3, cw, hz]
            rw [if_neg (by rw [hz]; decide)] at hn
            exact EQ_in ⟨m + 1, by omega, rfl, e1, next_ixv (by omega), by omega, by rw [List.take_add_one, d0]; exact hn⟩
          · simp only [↓wpre, wset, wcore, ne_eq, if_true, if_false, exists_eq_left', true_implies, false_implies, exists_const, exists_eq_right, binA, intA, loadA, storeA, pickC, setAt, mapO, argsE, X.isC, resA, oneA, unA, boundA, eqiA, eqsA, fillA, fillE, ASt.fz, strA, Nat.reduceEqDiff, Nat.reduceLT, ↓reduceIte, reduceCtorEq, Nat.reduceAdd, Nat.reduceLeDiff, Int.reduceBEq, Int.reduceBNe, Int.reduceLT, Int.reduceLE, Int.reduceGT, Int.reduceGE, Nat.reduceDiv, Nat.reduceMul, h5, h6, e1, e3, e4, hdec2, d4, h10, b1, b3, cw, hz]
            rw [if_pos hz] at hn
            rw [← hn]
    · have hdec : decide ((j : Int) < gas.length) = false := by simpa using hge
      rw [List.drop_eq_nil_of_le (by rw [← h3.len]; omega)] at hn
      obtain ⟨_, rfl, cw⟩ := (rwhole_ret hp h4).call rfl (by simp [pvs_cons, pvs_nil, pv_v, prPure hp, exPure _ h4])
      simp only [↓wpre, wset, wcore, ne_eq, if_true, if_false, exists_eq_left', true_implies, false_implies, exists_const, exists_eq_right, binA, intA, loadA, storeA, pickC, setAt, mapO, argsE, X.isC, resA, oneA, unA, boundA, eqiA, eqsA, fillA, fillE, ASt.fz, strA, Nat.reduceEqDiff, Nat.reduceLT, ↓reduceIte, reduceCtorEq, Nat.reduceAdd, Nat.reduceLeDiff, Int.reduceBEq, Int.reduceBNe, Int.reduceLT, Int.reduceLE, Int.reduceGT, Int.reduceGE, Nat.reduceDiv, Nat.reduceMul, h5, h6, e1, e3, hdec, cw]
      rw [← hn]; rfl
  · simp only [pf15, ↓wpre, wset, wcore, ne_eq, if_true, if_false, exists_eq_left', true_implies, false_implies, exists_const, exists_eq_right, binA, intA, loadA, storeA, pickC, setAt, mapO, argsE, X.isC, resA, oneA, unA, boundA, eqiA, eqsA, fillA, fillE, ASt.fz, strA, Nat.reduceEqDiff, Nat.reduceLT, ↓reduceIte, reduceCtorEq, Nat.reduceAdd, Nat.reduceLeDiff, Int.reduceBEq, Int.reduceBNe, Int.reduceLT, Int.reduceLE, Int.reduceGT, Int.reduceGE, Nat.reduceDiv, Nat.reduceMul, b0]
end Go.Proofs.Eng
