/- C1: what functions of the program return. No conditions beyond those in the theorems. -/
import Derived.Test.YtfopdknkbnhlkaaB2
set_option linter.all false
set_option linter.deprecated false
set_option linter.unnecessarySimpa false
set_option linter.unusedVariables false
set_option linter.unusedSimpArgs false
set_option linter.defProp false
namespace Go.Proofs.Eng
open Go Go.Proofs
set_option maxRecDepth 100000
mutual
def Ex.small : Int → Int → Ex → Option Int
  | nodes, depth, .mk _ _ n s kids => if decide (nodes ≤ 0) = true then none else if decide (depth ≤ 0) = true then none else if decide ((n.size : Int) > 80) = true then none else if decide ((s.length : Int) > 40) = true then none else smallL (w64 (depth - 1)) (w64 (nodes - 1)) kids
def smallL (depth : Int) : Int → List Ex → Option Int
  | nodes, [] => some nodes
  | nodes, e :: es => match Ex.small nodes depth e with
    | none => none
    | some m => smallL depth m es
end
def smallAV : Option Int → AV
  | none => .tup [.int 0, .bool false]
  | some m => .tup [.int m, .bool true]
theorem small_ret (e : Ex) : ∀ {a nodes depth}, e.Is a → Out md pfs 27 [a, .int nodes, .int depth] (· = smallAV (e.small nodes depth)) fun _ => False := by
  induction e using Ex.ind with
  | h k i n s kids ih =>
  intro a nodes depth h
  obtain ⟨t1, t2, kas, rfl, g1, g2, g3, g4, g5, g6⟩ := h.opn
  refine out_of pf27_is (Nat.le_of_ble_eq_true rfl) ?_
  simp only [Ex.small]
  cases c1 : decide (nodes ≤ 0)
  · cases c2 : decide (depth ≤ 0)
    · cases c3 : decide ((n.size : Int) > 80)
      · cases c4 : decide ((s.length : Int) > 40)
        · simp only [pf27, ↓wpre, wset, wcore, ne_eq, if_true, if_false, exists_eq_left', true_implies, false_implies, exists_const, exists_eq_right, binA, intA, loadA, storeA, pickC, setAt, mapO, argsE, X.isC, resA, oneA, unA, boundA, eqiA, eqsA, fillA, fillE, ASt.fz, strA, Nat.reduceEqDiff, Nat.reduceLT, ↓reduceIte, reduceCtorEq, Nat.reduceAdd, Nat.reduceLeDiff, Int.reduceBEq, Int.reduceBNe, Int.reduceLT, Int.reduceLE, Int.reduceGT, Int.reduceGE, Nat.reduceDiv, Nat.reduceMul, c1, c2, c3, c4, ints_len]
          refine W_loopE (fun j => kas.length - j) (fun j E H T => ∃ G nd, H = .cells false [.int k, .int i, .str n, .sl (ints s) t1, .sl kas t2] :: G ∧ E 1 = .int nd ∧ E 2 = .int depth ∧ E 33 = .sl kas t2 ∧ E 34 = .int kas.length ∧ E 35 = .int j ∧ j ≤ kas.length ∧ smallL (w64 (depth - 1)) nd (kids.drop j) = smallL (w64 (depth - 1)) (w64 (nodes - 1)) kids) ?_ 0 ⟨_, _, rfl, rfl, rfl, rfl, rfl, rfl, Nat.zero_le _, rfl⟩
          rintro j E H T ⟨G, nd, rfl, e1, e2, e33, e34, e35, hj, hn⟩
          rcases Nat.lt_or_ge j kas.length with hlt | hge
          · obtain ⟨y, c, d0, d1, d3, d4, d5, d6, d7, d8⟩ := g6.get exAgg hlt
            have hdec : decide ((j : Int) < kas.length) = true := by simpa using hlt
            have hall := g6.all exAgg
            obtain ⟨_, rfl, cr⟩ := (ih y d3 (nodes := nd) (depth := w64 (depth - 1)) d8).call rfl (by simp [pvs_cons, pvs_nil, pv_v, exPure _ d8])
            rw [d1, smallL] at hn
            cases hs : Ex.small nd (w64 (depth - 1)) y with
            | none =>
              rw [hs] at cr hn
              simp only [smallAV] at cr
              simp only [↓wpre, wset, wcore, ne_eq, if_true, if_false, exists_eq_left', true_implies, false_implies, exists_const, exists_eq_right, binA, intA, loadA, storeA, pickC, setAt, mapO, argsE, X.isC, resA, oneA, unA, boundA, eqiA, eqsA, fillA, fillE, ASt.fz, strA, Nat.reduceEqDiff, Nat.reduceLT, ↓reduceIte, reduceCtorEq, Nat.reduceAdd, Nat.reduceLeDiff, Int.reduceBEq, Int.reduceBNe, Int.reduceLT, Int.reduceLE, Int.reduceGT, Int.reduceGE, Nat.reduceDiv, Nat.reduceMul, e1, e2, e33, e34, e35, hdec, d4, d5, d6, d7, hall, cr]
              rw [← hn]; rfl
            | some m =>
              rw [hs] at cr hn
              simp only [smallAV] at cr
              simp only [↓wpre, wset, wcore, ne_eq, if_true, if_false, exists_eq_left', true_implies, false_implies, exists_const, exists_eq_right, binA, intA, loadA, storeA, pickC, setAt, mapO, argsE, X.isC, resA, oneA, unA, boundA, eqiA, eqsA, fillA, fillE, ASt.fz, strA, Nat.reduceEqDiff, Nat.reduceLT, ↓reduceIte, reduceCtorEq, Nat.reduceAdd, Nat.reduceLeDiff, Int.reduceBEq, Int.reduceBNe, Int.reduceLT, Int.reduceLE, Int.reduceGT, Int.reduceGE, Nat.reduceDiv, Nat.reduceMul, e1, e2, e33, e34, e35, hdec, d4, d5, d6, d7, hall, cr]
              exact EQ_in ⟨j + 1, by omega, _, m, rfl, rfl, e2, e33, e34, next_ixv (by omega), by omega, hn⟩
          · have hdec : decide ((j : Int) < kas.length) = false := by simpa using hge
            rw [List.drop_eq_nil_of_le (by rw [← g6.len]; omega), smallL] at hn
            simp only [↓wpre, wset, wcore, ne_eq, if_true, if_false, exists_eq_left', true_implies, false_implies, exists_const, exists_eq_right, binA, intA, loadA, storeA, pickC, setAt, mapO, argsE, X.isC, resA, oneA, unA, boundA, eqiA, eqsA, fillA, fillE, ASt.fz, strA, Nat.reduceEqDiff, Nat.reduceLT, ↓reduceIte, reduceCtorEq, Nat.reduceAdd, Nat.reduceLeDiff, Int.reduceBEq, Int.reduceBNe, Int.reduceLT, Int.reduceLE, Int.reduceGT, Int.reduceGE, Nat.reduceDiv, Nat.reduceMul, e1, e2, e33, e34, e35, hdec]
            rw [← hn]; rfl
        · simp only [pf27, ↓wpre, wset, wcore, ne_eq, if_true, if_false, exists_eq_left', true_implies, false_implies, exists_const, exists_eq_right, binA, intA, loadA, storeA, pickC, setAt, mapO, argsE, X.isC, resA, oneA, unA, boundA, eqiA, eqsA, fillA, fillE, ASt.fz, strA, Nat.reduceEqDiff, Nat.reduceLT, ↓reduceIte, reduceCtorEq, Nat.reduceAdd, Nat.reduceLeDiff, Int.reduceBEq, Int.reduceBNe, Int.reduceLT, Int.reduceLE, Int.reduceGT, Int.reduceGE, Nat.reduceDiv, Nat.reduceMul, c1, c2, c3, c4, ints_len]; rfl
      · simp only [pf27, ↓wpre, wset, wcore, ne_eq, if_true, if_false, exists_eq_left', true_implies, false_implies, exists_const, exists_eq_right, binA, intA, loadA, storeA, pickC, setAt, mapO, argsE, X.isC, resA, oneA, unA, boundA, eqiA, eqsA, fillA, fillE, ASt.fz, strA, Nat.reduceEqDiff, Nat.reduceLT, ↓reduceIte, reduceCtorEq, Nat.reduceAdd, Nat.reduceLeDiff, Int.reduceBEq, Int.reduceBNe, Int.reduceLT, Int.reduceLE, Int.reduceGT, Int.reduceGE, Nat.reduceDiv, Nat.reduceMul, c1, c2, c3]; rfl
    · simp only [pf27, ↓wpre, wset, wcore, ne_eq, if_true, if_false, exists_eq_left', true_implies, false_implies, exists_const, exists_eq_right, binA, intA, loadA, storeA, pickC, setAt, mapO, argsE, X.isC, resA, oneA, unA, boundA, eqiA, eqsA, fillA, fillE, ASt.fz, strA, Nat.reduceEqDiff, Nat.reduceLT, ↓reduceIte, reduceCtorEq, Nat.reduceAdd, Nat.reduceLeDiff, Int.reduceBEq, Int.reduceBNe, Int.reduceLT, Int.reduceLE, Int.reduceGT, Int.reduceGE, Nat.reduceDiv, Nat.reduceMul, c1, c2]; rfl
  · simp only [pf27, ↓wpre, wset, wcore, ne_eq, if_true, if_false, exists_eq_left', true_implies, false_implies, exists_const, exists_eq_right, binA, intA, loadA, storeA, pickC, setAt, mapO, argsE, X.isC, resA, oneA, unA, boundA, eqiA, eqsA, fillA, fillE, ASt.fz, strA, Nat.reduceEqDiff, Nat.reduceLT, ↓reduceIte, reduceCtorEq, Nat.reduceAdd, Nat.reduceLeDiff, Int.reduceBEq, Int.reduceBNe, Int.reduceLT, Int.reduceLE, Int.reduceGT, Int.reduceGE, Nat.reduceDiv, Nat.reduceMul, c1]; rfl
def Gl.few (g : Gl) : Bool := (g.2.small 60 60).isSome && decide ((g.1.size : Int) ≤ 80)
def Pr.few (p : Pr) : Bool := (p.main.small 60 60).isSome && p.gs.all Gl.few && decide ((p.gs.length : Int) ≤ 6)
theorem Few_ret {p : Pr} {pa : AV} (hp : p.Is pa) : Out md pfs 12 [pa] (· = .bool p.few) fun _ => False := by
  obtain ⟨gas, tg, c, rfl, h1, h2, h3, h4, h5, h6, h7, h8, h9, h10⟩ := id hp
  refine out_of pf12_is (Nat.le_of_ble_eq_true rfl) ?_
  have hl := h3.len
  obtain ⟨_, rfl, cm⟩ := (small_ret p.main (nodes := 60) (depth := 60) h4).call rfl (by simp [pvs_cons, pvs_nil, pv_v, exPure _ h4])
  have hsm : ∀ o : Option Int, ∃ x, smallAV o = .tup [.int x, .bool o.isSome] := fun o => by cases o <;> exact ⟨_, rfl⟩
  obtain ⟨x0, hx0⟩ := hsm (p.main.small 60 60)
  rw [hx0] at cm
  simp only [pf12, ↓wpre, wset, wcore, ne_eq, if_true, if_false, exists_eq_left', true_implies, false_implies, exists_const, exists_eq_right, binA, intA, loadA, storeA, pickC, setAt, mapO, argsE, X.isC, resA, oneA, unA, boundA, eqiA, eqsA, fillA, fillE, ASt.fz, strA, Nat.reduceEqDiff, Nat.reduceLT, ↓reduceIte, reduceCtorEq, Nat.reduceAdd, Nat.reduceLeDiff, Int.reduceBEq, Int.reduceBNe, Int.reduceLT, Int.reduceLE, Int.reduceGT, Int.reduceGE, Nat.reduceDiv, Nat.reduceMul, h5, h6, cm]
  refine W_loopE (fun j => gas.length - j) (fun j E H T => ∃ G, H = .cells false (.sl gas tg :: c) :: G ∧ E 1 = .ptr 0 0 ∧ E 4 = .bool ((p.main.small 60 60).isSome && (p.gs.take j).all Gl.few) ∧ E 16 = .sl gas tg ∧ E 17 = .int gas.length ∧ E 18 = .int j ∧ j ≤ gas.length) ?_ 0 ⟨_, rfl, rfl, by simp [updE], rfl, rfl, rfl, Nat.zero_le _⟩
  rintro j E H T ⟨G, rfl, e1, e4, e16, e17, e18, hj⟩
  generalize hb : ((p.main.small 60 60).isSome && (p.gs.take j).all Gl.few) = b at e4
  rcases Nat.lt_or_ge j gas.length with hlt | hge
  · obtain ⟨g, _, d0, d1, d3, d4, ⟨c2, rfl, hns, hg⟩⟩ := h3.at hlt
    obtain ⟨c3, e, b1, b2⟩ := exAgg.cells hg
    cases e
    have b3 : c2.take 5 = c2 := List.take_of_length_le (by omega)
    have hdec : decide ((j : Int) < gas.length) = true := by simpa using hlt
    obtain ⟨_, rfl, cg⟩ := (small_ret g.2 (nodes := 60) (depth := 60) hg).call rfl (by simp [pvs_cons, pvs_nil, pv_v, exPure _ hg])
    obtain ⟨x1, hx1⟩ := hsm (g.2.small 60 60)
    rw [hx1] at cg
    have hres : ((p.main.small 60 60).isSome && (p.gs.take (j + 1)).all Gl.few) = (b && ((g.2.small 60 60).isSome && decide ((g.1.size : Int) ≤ 80))) := by
      rw [List.take_add_one, d0, ← hb]; simp [List.all_append, Gl.few, Bool.and_assoc]
    cases b <;> cases c1 : (g.2.small 60 60).isSome <;> cases c2 : decide ((g.1.size : Int) ≤ 80)
    all_goals
      rw [c1] at cg hres
      rw [c2] at hres
      simp only [↓wpre, wset, wcore, ne_eq, if_true, if_false, exists_eq_left', true_implies, false_implies, exists_const, exists_eq_right, binA, intA, loadA, storeA, pickC, setAt, mapO, argsE, X.isC, resA, oneA, unA, boundA, eqiA, eqsA, fillA, fillE, ASt.fz, strA, Nat.reduceEqDiff, Nat.reduceLT, ↓reduceIte, reduceCtorEq, Nat.reduceAdd, Nat.reduceLeDiff, Int.reduceBEq, Int.reduceBNe, Int.reduceLT, Int.reduceLE, Int.reduceGT, Int.reduceGE, Nat.reduceDiv, Nat.reduceMul, h5, h6, e1, e4, e16, e17, e18, hdec, d4, h10, b1, b2, b3, cg, c2]
      exact EQ_in ⟨j + 1, by omega, _, rfl, e1, by rw [hres]; rfl, e16, e17, next_ixv (by omega), by omega⟩
  · have hdec : decide ((j : Int) < gas.length) = false := by simpa using hge
    rw [List.take_of_length_le (by omega)] at hb
    have hres : p.few = (b && decide ((gas.length : Int) ≤ 6)) := by rw [Pr.few, hb, hl]
    cases b <;> cases c1 : decide ((gas.length : Int) ≤ 6)
    all_goals
      rw [c1] at hres
      simp only [↓wpre, wset, wcore, ne_eq, if_true, if_false, exists_eq_left', true_implies, false_implies, exists_const, exists_eq_right, binA, intA, loadA, storeA, pickC, setAt, mapO, argsE, X.isC, resA, oneA, unA, boundA, eqiA, eqsA, fillA, fillE, ASt.fz, strA, Nat.reduceEqDiff, Nat.reduceLT, ↓reduceIte, reduceCtorEq, Nat.reduceAdd, Nat.reduceLeDiff, Int.reduceBEq, Int.reduceBNe, Int.reduceLT, Int.reduceLE, Int.reduceGT, Int.reduceGE, Nat.reduceDiv, Nat.reduceMul, e1, e4, e16, e17, e18, hdec, c1]
      rw [hres]; rfl
def Ex.few (gl : ByteArray → Bool) (e : Ex) : Bool := (e.small 60 60).isSome && (e.err gl 1073741824 == 0)
theorem few_ret {p : Pr} {pa : AV} (hp : p.Is pa) {l : List Ex} {al : List AV} {t : Tl} (hl : LIs Ex.Is l al) (ht : t.pure = true) (hlen : al.length ≤ lenB) : Out md pfs 16 [pa, .sl al t] (· = .bool (l.all (Ex.few p.gl) && decide ((al.length : Int) ≤ 6))) fun _ => False := by
  obtain ⟨gas, tg, c, rfl, h1, h2, h3, h4, h5, h6, h7, h8, h9, h10⟩ := id hp
  refine out_of pf16_is (Nat.le_of_ble_eq_true rfl) ?_
  have hsm : ∀ o : Option Int, ∃ x, smallAV o = .tup [.int x, .bool o.isSome] := fun o => by cases o <;> exact ⟨_, rfl⟩
  simp only [pf16, ↓wpre, wset, wcore, ne_eq, if_true, if_false, exists_eq_left', true_implies, false_implies, exists_const, exists_eq_right, binA, intA, loadA, storeA, pickC, setAt, mapO, argsE, X.isC, resA, oneA, unA, boundA, eqiA, eqsA, fillA, fillE, ASt.fz, strA, Nat.reduceEqDiff, Nat.reduceLT, ↓reduceIte, reduceCtorEq, Nat.reduceAdd, Nat.reduceLeDiff, Int.reduceBEq, Int.reduceBNe, Int.reduceLT, Int.reduceLE, Int.reduceGT, Int.reduceGE, Nat.reduceDiv, Nat.reduceMul, h5, h6]
  refine W_loopE (fun j => al.length - j) (fun j E H T => ∃ G, H = .cells false (.sl gas tg :: c) :: G ∧ E 1 = .sl al t ∧ E 2 = .ptr 0 0 ∧ E 9 = .sl al t ∧ E 10 = .int al.length ∧ E 11 = .int j ∧ j ≤ al.length ∧ (l.take j).all (Ex.few p.gl) = true) ?_ 0 ⟨_, rfl, rfl, rfl, rfl, rfl, rfl, Nat.zero_le _, rfl⟩
  rintro j E H T ⟨G, rfl, e1, e2, e9, e10, e11, hj, hn⟩
  rcases Nat.lt_or_ge j al.length with hlt | hge
  · obtain ⟨y, c2, d0, d1, d3, d4, d5, d6, d7, d8⟩ := hl.get exAgg hlt
    have hdec : decide ((j : Int) < al.length) = true := by simpa using hlt
    have hall := hl.all exAgg
    obtain ⟨_, rfl, cg⟩ := (small_ret y (nodes := 60) (depth := 60) d8).call rfl (by simp [pvs_cons, pvs_nil, pv_v, exPure _ d8])
    obtain ⟨_, rfl, co⟩ := (ropen_ret hp d8).call rfl (by simp [pvs_cons, pvs_nil, pv_v, prPure hp, exPure _ d8])
    obtain ⟨x1, hx1⟩ := hsm (y.small 60 60)
    rw [hx1] at cg
    cases c1 : (y.small 60 60).isSome <;> cases c2 : (y.err p.gl 1073741824 == 0)
    all_goals
      rw [c1] at cg
      rw [c2] at co
      simp only [↓wpre, wset, wcore, ne_eq, if_true, if_false, exists_eq_left', true_implies, false_implies, exists_const, exists_eq_right, binA, intA, loadA, storeA, pickC, setAt, mapO, argsE, X.isC, resA, oneA, unA, boundA, eqiA, eqsA, fillA, fillE, ASt.fz, strA, Nat.reduceEqDiff, Nat.reduceLT, ↓reduceIte, reduceCtorEq, Nat.reduceAdd, Nat.reduceLeDiff, Int.reduceBEq, Int.reduceBNe, Int.reduceLT, Int.reduceLE, Int.reduceGT, Int.reduceGE, Nat.reduceDiv, Nat.reduceMul, h5, h6, e1, e2, e9, e10, e11, hdec, d4, d5, d6, d7, hall, cg, co]
      first
        | exact EQ_in ⟨j + 1, by omega, _, rfl, e1, e2, e9, e10, next_ixv (by omega), by omega, by rw [List.take_add_one, d0]; simp [List.all_append, hn, Ex.few, c1, c2]⟩
        | (have : l.all (Ex.few p.gl) = false := by
             rw [List.all_eq_false]
             exact ⟨y, d3, by simp [Ex.few, c1, c2]⟩
           rw [this]; rfl)
  · have hdec : decide ((j : Int) < al.length) = false := by simpa using hge
    rw [List.take_of_length_le (by rw [← hl.len]; omega)] at hn
    simp only [↓wpre, wset, wcore, ne_eq, if_true, if_false, exists_eq_left', true_implies, false_implies, exists_const, exists_eq_right, binA, intA, loadA, storeA, pickC, setAt, mapO, argsE, X.isC, resA, oneA, unA, boundA, eqiA, eqsA, fillA, fillE, ASt.fz, strA, Nat.reduceEqDiff, Nat.reduceLT, ↓reduceIte, reduceCtorEq, Nat.reduceAdd, Nat.reduceLeDiff, Int.reduceBEq, Int.reduceBNe, Int.reduceLT, Int.reduceLE, Int.reduceGT, Int.reduceGE, Nat.reduceDiv, Nat.reduceMul, e1, e2, e9, e10, e11, hdec]
    rw [hn]; rfl
end Go.Proofs.Eng
