/- B1: what functions of the program return. No conditions beyond those in the theorems. -/
import Derived.Test.YtfopdknkbnhlkaaA9
import Derived.Test.YtfopdknkbnhlkaaA1
set_option linter.all false
set_option linter.deprecated false
set_option linter.unnecessarySimpa false
set_option linter.unusedVariables false
set_option linter.unusedSimpArgs false
set_option linter.defProp false
namespace Go.Proofs.Eng
open Go Go.Proofs
set_option maxRecDepth 100000
abbrev Gl := ByteArray × Ex
def glIs (g : Gl) (a : AV) : Prop := ∃ c, a = .agg (.str g.1 :: c) ∧ g.1.size ≤ lenB ∧ g.2.Is (.agg c)
theorem glAgg : AggR glIs 6 := ⟨fun {x a} h => by
    obtain ⟨c, rfl, _, h⟩ := h
    obtain ⟨c', e, hl, ho⟩ := exAgg.cells h
    cases e
    exact ⟨_, rfl, by simp [hl], by simpa [onec_v] using ho⟩, fun {x a} h => by
    obtain ⟨c, rfl, _, h⟩ := h
    have := exPure _ h
    rw [pv_agg] at this
    simp [pv_agg, pvs_cons, pv_v, this]⟩
structure Pr where
  gs : List Gl
  main : Ex
def Pr.Is (p : Pr) (a : AV) : Prop := ∃ gas tg c, a = .agg (.sl gas tg :: c) ∧ tg.pure = true ∧ gas.length ≤ lenB ∧ LIs glIs p.gs gas ∧ p.main.Is (.agg c) ∧ c.length = 5 ∧ c.take 5 = c ∧ c.all oneCell = true ∧ pureAVs c = true ∧ pureAVs gas = true ∧ (gas.all fun x => x.cells.length == 6) = true
theorem prPure {p : Pr} {a : AV} (h : p.Is a) : pureAV a = true := by
  obtain ⟨gas, tg, c, rfl, h1, h2, h3, h4, h5, h6, h7, h8, h9, _⟩ := h
  simp [pv_agg, pvs_cons, pv_sl, h1, h8, h9]
def gfind : List Gl → ByteArray → Option Ex
  | [], _ => none
  | g :: gs, n => if g.1 = n then some g.2 else gfind gs n
theorem global_ret {p : Pr} {a : AV} (h : p.Is a) (n : ByteArray) : Out md pfs 53 [a, .str n] (fun v => (∃ e a, gfind p.gs n = some e ∧ v = .tup [a, .bool true] ∧ e.Is a) ∨ (gfind p.gs n = none ∧ v = .tup [zeroAV, .bool false])) fun _ => False := by
  have hp := prPure h
  obtain ⟨gas, tg, c, rfl, h1, h2, h3, h4, h5, h6, h7, h8, h9, h10⟩ := h
  refine out_of pf53_is (Nat.le_of_ble_eq_true rfl) ?_
  simp only [pf53, ↓wpre, wset, wcore, ne_eq, if_true, if_false, exists_eq_left', true_implies, false_implies, exists_const, exists_eq_right, binA, intA, loadA, storeA, pickC, setAt, mapO, argsE, X.isC, resA, oneA, unA, boundA, eqiA, eqsA, fillA, fillE, ASt.fz, strA, Nat.reduceEqDiff, Nat.reduceLT, ↓reduceIte, reduceCtorEq, Nat.reduceAdd, Nat.reduceLeDiff, Int.reduceBEq, Int.reduceBNe, Int.reduceLT, Int.reduceLE, Int.reduceGT, Int.reduceGE, Nat.reduceDiv, Nat.reduceMul, h5]
  refine W_loopE (fun j => gas.length - j) (fun j E H T => H = [.cells false (.sl gas tg :: c), .cells false [.int 0, .int 0, .str ⟨#[]⟩, .sl [] .nil, .sl [] .nil]] ∧ E 1 = .str n ∧ E 2 = .ptr 0 0 ∧ E 4 = .ptr 1 0 ∧ E 6 = .int j ∧ j ≤ gas.length ∧ gfind (p.gs.drop j) n = gfind p.gs n) ?_ 0 ⟨rfl, rfl, rfl, rfl, rfl, Nat.zero_le _, rfl⟩
  rintro j E H T ⟨rfl, e1, e2, e4, e6, hj, hn⟩
  rcases Nat.lt_or_ge j gas.length with hlt | hge
  · obtain ⟨g, c', d0, d1, d3, d4, ⟨c2, e, hns, hg⟩⟩ := h3.at hlt
    subst e
    obtain ⟨c3, e, b1, b2⟩ := exAgg.cells hg
    cases e
    have b3 : c2.take 5 = c2 := List.take_of_length_le (by omega)
    have hdec : decide ((j : Int) < gas.length) = true := by simpa using hlt
    rw [d1, gfind] at hn
    cases hx : decide (g.1 = n)
    · simp only [↓wpre, wset, wcore, ne_eq, if_true, if_false, exists_eq_left', true_implies, false_implies, exists_const, exists_eq_right, binA, intA, loadA, storeA, pickC, setAt, mapO, argsE, X.isC, resA, oneA, unA, boundA, eqiA, eqsA, fillA, fillE, ASt.fz, strA, Nat.reduceEqDiff, Nat.reduceLT, ↓reduceIte, reduceCtorEq, Nat.reduceAdd, Nat.reduceLeDiff, Int.reduceBEq, Int.reduceBNe, Int.reduceLT, Int.reduceLE, Int.reduceGT, Int.reduceGE, Nat.reduceDiv, Nat.reduceMul, e1, e2, e4, e6, hdec, d4, h10, str_eq, hx, b1, b2, b3]
      rw [if_neg (by simpa using hx)] at hn
      exact EQ_in ⟨j + 1, by omega, rfl, e1, e2, e4, next_ixv (by omega), by omega, hn⟩
    · simp only [↓wpre, wset, wcore, ne_eq, if_true, if_false, exists_eq_left', true_implies, false_implies, exists_const, exists_eq_right, binA, intA, loadA, storeA, pickC, setAt, mapO, argsE, X.isC, resA, oneA, unA, boundA, eqiA, eqsA, fillA, fillE, ASt.fz, strA, Nat.reduceEqDiff, Nat.reduceLT, ↓reduceIte, reduceCtorEq, Nat.reduceAdd, Nat.reduceLeDiff, Int.reduceBEq, Int.reduceBNe, Int.reduceLT, Int.reduceLE, Int.reduceGT, Int.reduceGE, Nat.reduceDiv, Nat.reduceMul, e1, e2, e4, e6, hdec, d4, h10, str_eq, hx, b1, b2, b3, exPure _ hg]
      rw [if_pos (by simpa using hx)] at hn
      exact .inl ⟨_, _, hn.symm, rfl, hg⟩
  · have hdec : decide ((j : Int) < gas.length) = false := by simpa using hge
    rw [List.drop_eq_nil_of_le (by rw [← h3.len]; omega)] at hn
    simp only [↓wpre, wset, wcore, ne_eq, if_true, if_false, exists_eq_left', true_implies, false_implies, exists_const, exists_eq_right, binA, intA, loadA, storeA, pickC, setAt, mapO, argsE, X.isC, resA, oneA, unA, boundA, eqiA, eqsA, fillA, fillE, ASt.fz, strA, Nat.reduceEqDiff, Nat.reduceLT, ↓reduceIte, reduceCtorEq, Nat.reduceAdd, Nat.reduceLeDiff, Int.reduceBEq, Int.reduceBNe, Int.reduceLT, Int.reduceLE, Int.reduceGT, Int.reduceGE, Nat.reduceDiv, Nat.reduceMul, e1, e2, e4, e6, hdec]
    exact .inr ⟨hn.symm, rfl⟩
mutual
/-- The error of an expression. -/
def Ex.err (gl : ByteArray → Bool) : Int → Ex → Int
  | v, .mk k i n s kids => if fmB k i n s kids.length = false then 3 else if namedB k = true ∧ isName n = false then 29 else if k = 0 ∧ decide (i ≥ v) = true then 24 else if k = 5 ∧ gl n = false then 9 else errL gl k s v 0 kids
def errL (gl : ByteArray → Bool) (k : Int) (s : List Int) (v : Int) : Nat → List Ex → Int
  | _, [] => 0
  | j, e :: es => if Ex.err gl (w64 (v + under k s j)) e = 0 then errL gl k s v (j + 1) es else Ex.err gl (w64 (v + under k s j)) e
end
abbrev Pr.gl (p : Pr) (n : ByteArray) : Bool := (gfind p.gs n).isSome
theorem rcheck_ret {p : Pr} {pa : AV} (hp : p.Is pa) (e : Ex) : ∀ {a v}, e.Is a → Out md pfs 70 [pa, a, .int v] (· = .int (e.err p.gl v)) fun _ => False := by
  obtain ⟨gas, tg, c, rfl, h1, h2, h3, h4, h5, h6, h7, h8, h9, h10⟩ := id hp
  induction e using Ex.ind with
  | h k i n s kids ih =>
  intro a v h
  obtain ⟨t1, t2, kas, rfl, g1, g2, g3, g4, g5, g6⟩ := h.opn
  refine out_of pf70_is (Nat.le_of_ble_eq_true rfl) ?_
  obtain ⟨_, rfl, cf⟩ := (rformed_ret h).call rfl (by simp [pvs_cons, pvs_nil, exPure _ h])
  obtain ⟨_, rfl, cn⟩ := (refName_ret n g3.2).call rfl (by simp [pvs_cons, pvs_nil, pv_v])
  obtain ⟨w, hw, cg⟩ := (global_ret hp n).call rfl (by simp [pvs_cons, pvs_nil, pv_v, prPure hp])
  have hw' : ∃ cg5, w = .tup [.agg cg5, .bool (p.gl n)] ∧ cg5.length = 5 ∧ cg5.all oneCell = true := by
    rcases hw with ⟨e, a, q1, rfl, q2⟩ | ⟨q1, rfl⟩
    · obtain ⟨c5, rfl, l1, l2⟩ := exAgg.cells q2
      exact ⟨c5, by simp [Pr.gl, q1], l1, l2⟩
    · exact ⟨[.int 0, .int 0, .str ⟨#[]⟩, .sl [] .nil, .sl [] .nil], by simp [Pr.gl, q1, zeroAV], rfl, rfl⟩
  obtain ⟨cg5, rfl, w1, w2⟩ := hw'
  simp only [Ex.err]
  rw [show fmB k i n s kids.length = Ex.fm (.mk k i n s kids) from rfl]
  cases hf : (Ex.fm (.mk k i n s kids))
  · simp only [pf70, ↓wpre, wset, wcore, ne_eq, if_true, if_false, exists_eq_left', true_implies, false_implies, exists_const, exists_eq_right, binA, intA, loadA, storeA, pickC, setAt, mapO, argsE, X.isC, resA, oneA, unA, boundA, eqiA, eqsA, fillA, fillE, ASt.fz, strA, Nat.reduceEqDiff, Nat.reduceLT, ↓reduceIte, reduceCtorEq, Nat.reduceAdd, Nat.reduceLeDiff, Int.reduceBEq, Int.reduceBNe, Int.reduceLT, Int.reduceLE, Int.reduceGT, Int.reduceGE, Nat.reduceDiv, Nat.reduceMul, h5, h6, h7, cf, hf]
  · rw [if_neg (by decide)]
    have hnb : namedB k = (k == 3 || k == 5) := rfl
    obtain ⟨gb, hgb⟩ : ∃ b, p.gl n = b := ⟨_, rfl⟩
    obtain ⟨nm, hnm⟩ : ∃ b, isName n = b := ⟨_, rfl⟩
    obtain ⟨iv, hiv⟩ : ∃ b, decide (i ≥ v) = b := ⟨_, rfl⟩
    rw [hnm, hgb, hiv]
    rw [hgb] at cg
    rw [hnm] at cn
    by_cases hN : namedB k = true ∧ nm = false
    · rw [if_pos hN]
      obtain ⟨hN, rfl⟩ := hN
      cases x3 : (k == 3) <;> cases x5 : (k == 5)
      · rw [hnb, x3, x5] at hN; cases hN
      all_goals simp only [pf70, ↓wpre, wset, wcore, ne_eq, if_true, if_false, exists_eq_left', true_implies, false_implies, exists_const, exists_eq_right, binA, intA, loadA, storeA, pickC, setAt, mapO, argsE, X.isC, resA, oneA, unA, boundA, eqiA, eqsA, fillA, fillE, ASt.fz, strA, Nat.reduceEqDiff, Nat.reduceLT, ↓reduceIte, reduceCtorEq, Nat.reduceAdd, Nat.reduceLeDiff, Int.reduceBEq, Int.reduceBNe, Int.reduceLT, Int.reduceLE, Int.reduceGT, Int.reduceGE, Nat.reduceDiv, Nat.reduceMul, h5, h6, h7, cf, hf, cn, x3, x5]
    rw [if_neg hN]
    by_cases hS : k = 0 ∧ iv = true
    · rw [if_pos hS]
      obtain ⟨rfl, rfl⟩ := hS
      simp only [pf70, ↓wpre, wset, wcore, ne_eq, if_true, if_false, exists_eq_left', true_implies, false_implies, exists_const, exists_eq_right, binA, intA, loadA, storeA, pickC, setAt, mapO, argsE, X.isC, resA, oneA, unA, boundA, eqiA, eqsA, fillA, fillE, ASt.fz, strA, Nat.reduceEqDiff, Nat.reduceLT, ↓reduceIte, reduceCtorEq, Nat.reduceAdd, Nat.reduceLeDiff, Int.reduceBEq, Int.reduceBNe, Int.reduceLT, Int.reduceLE, Int.reduceGT, Int.reduceGE, Nat.reduceDiv, Nat.reduceMul, h5, h6, h7, cf, hf, cn, hiv]
    rw [if_neg hS]
    by_cases hG : k = 5 ∧ gb = false
    · rw [if_pos hG]
      obtain ⟨rfl, rfl⟩ := hG
      have : nm = true := by cases nm; exact absurd ⟨rfl, rfl⟩ hN; rfl
      subst this
      simp only [pf70, ↓wpre, wset, wcore, ne_eq, if_true, if_false, exists_eq_left', true_implies, false_implies, exists_const, exists_eq_right, binA, intA, loadA, storeA, pickC, setAt, mapO, argsE, X.isC, resA, oneA, unA, boundA, eqiA, eqsA, fillA, fillE, ASt.fz, strA, Nat.reduceEqDiff, Nat.reduceLT, ↓reduceIte, reduceCtorEq, Nat.reduceAdd, Nat.reduceLeDiff, Int.reduceBEq, Int.reduceBNe, Int.reduceLT, Int.reduceLE, Int.reduceGT, Int.reduceGE, Nat.reduceDiv, Nat.reduceMul, h5, h6, h7, cf, hf, cn, cg, w1, w2]
    rw [if_neg hG]
    have key : ∀ x3 x5 x0 : Bool, (k == 3) = x3 → (k == 5) = x5 → (k == 0) = x0 → ((x3 = true ∨ x5 = true) → nm = true) → (x0 = true → iv = false) → (x5 = true → gb = true) → W (run md pfs) md pf70.body ⟨tmE pf70.nt (argsE [.agg (.sl gas tg :: c), .agg [.int k, .int i, .str n, .sl (ints s) t1, .sl kas t2], .int v]), [], ⟨[], []⟩⟩ (RQ pf70.res (· = .int (errL p.gl k s v 0 kids)) fun _ => False) () := by
      intro x3 x5 x0 hx3 hx5 hx0 a1 a2 a3
      cases x3 <;> cases x5 <;> cases x0
      all_goals try (exfalso; simp at hx3 hx5 hx0; omega)
      all_goals first | (have b1 := a1 (.inl rfl); subst b1) | (have b1 := a1 (.inr rfl); subst b1) | skip
      all_goals try (have b2 := a2 rfl; subst b2)
      all_goals try (have b3 := a3 rfl; subst b3)
      all_goals
        simp only [pf70, ↓wpre, wset, wcore, ne_eq, if_true, if_false, exists_eq_left', true_implies, false_implies, exists_const, exists_eq_right, binA, intA, loadA, storeA, pickC, setAt, mapO, argsE, X.isC, resA, oneA, unA, boundA, eqiA, eqsA, fillA, fillE, ASt.fz, strA, Nat.reduceEqDiff, Nat.reduceLT, ↓reduceIte, reduceCtorEq, Nat.reduceAdd, Nat.reduceLeDiff, Int.reduceBEq, Int.reduceBNe, Int.reduceLT, Int.reduceLE, Int.reduceGT, Int.reduceGE, Nat.reduceDiv, Nat.reduceMul, h5, h6, h7, cf, hf, cn, cg, w1, w2, hx3, hx5, hx0, hiv]
        refine W_loopE (fun j => kas.length - j) (fun j E H T => ∃ x, H = [.cells false (.sl gas tg :: c), .cells false [.int k, .int i, .str n, .sl (ints s) t1, .sl kas t2], x] ∧ E 2 = .int v ∧ E 3 = .ptr 0 0 ∧ E 4 = .ptr 1 0 ∧ E 9 = .int j ∧ j ≤ kas.length ∧ errL p.gl k s v j (kids.drop j) = errL p.gl k s v 0 kids) ?_ 0 ⟨_, rfl, rfl, rfl, rfl, rfl, Nat.zero_le _, rfl⟩
        rintro j E H T ⟨x, rfl, e2, e3, e4, e9, hj, hn⟩
        rcases Nat.lt_or_ge j kas.length with hlt | hge
        · obtain ⟨y, c2, d0, d1, d3, d4, d5, d6, d7, d8⟩ := g6.get exAgg hlt
          have hdec : decide ((j : Int) < kas.length) = true := by simpa using hlt
          have hall := g6.all exAgg
          obtain ⟨_, rfl, cb⟩ := (binds_ret k i n s t1 t2 kas j (by omega) g4).call rfl (by simp [pvs_cons, pvs_nil, pv_v, exPure _ h])
          obtain ⟨_, rfl, cr⟩ := (ih y d3 (v := w64 (v + under k s j)) d8).call rfl (by simp [pvs_cons, pvs_nil, pv_v, prPure hp, exPure _ d8])
          rw [d1, errL] at hn
          cases hz : (Ex.err p.gl (w64 (v + under k s j)) y != 0)
          · simp only [↓wpre, wset, wcore, ne_eq, if_true, if_false, exists_eq_left', true_implies, false_implies, exists_const, exists_eq_right, binA, intA, loadA, storeA, pickC, setAt, mapO, argsE, X.isC, resA, oneA, unA, boundA, eqiA, eqsA, fillA, fillE, ASt.fz, strA, Nat.reduceEqDiff, Nat.reduceLT, ↓reduceIte, reduceCtorEq, Nat.reduceAdd, Nat.reduceLeDiff, Int.reduceBEq, Int.reduceBNe, Int.reduceLT, Int.reduceLE, Int.reduceGT, Int.reduceGE, Nat.reduceDiv, Nat.reduceMul, h5, h6, h7, e2, e3, e4, e9, hdec, d4, d5, d6, d7, hall, cb, cr, hz]
            rw [if_pos (by simpa using hz)] at hn
            exact EQ_in ⟨j + 1, by omega, _, rfl, e2, e3, e4, next_ixv (by omega), by omega, hn⟩
          · simp only [↓wpre, wset, wcore, ne_eq, if_true, if_false, exists_eq_left', true_implies, false_implies, exists_const, exists_eq_right, binA, intA, loadA, storeA, pickC, setAt, mapO, argsE, X.isC, resA, oneA, unA, boundA, eqiA, eqsA, fillA, fillE, ASt.fz, strA, Nat.reduceEqDiff, Nat.reduceLT, ↓reduceIte, reduceCtorEq, Nat.reduceAdd, Nat.reduceLeDiff, Int.reduceBEq, Int.reduceBNe, Int.reduceLT, Int.reduceLE, Int.reduceGT, Int.reduceGE, Nat.reduceDiv, Nat.reduceMul, h5, h6, h7, e2, e3, e4, e9, hdec, d4, d5, d6, d7, hall, cb, cr, hz]
            rw [if_neg (by simpa using hz)] at hn
            rw [← hn]
        · have hdec : decide ((j : Int) < kas.length) = false := by simpa using hge
          rw [List.drop_eq_nil_of_le (by rw [← g6.len]; omega)] at hn
          simp only [↓wpre, wset, wcore, ne_eq, if_true, if_false, exists_eq_left', true_implies, false_implies, exists_const, exists_eq_right, binA, intA, loadA, storeA, pickC, setAt, mapO, argsE, X.isC, resA, oneA, unA, boundA, eqiA, eqsA, fillA, fillE, ASt.fz, strA, Nat.reduceEqDiff, Nat.reduceLT, ↓reduceIte, reduceCtorEq, Nat.reduceAdd, Nat.reduceLeDiff, Int.reduceBEq, Int.reduceBNe, Int.reduceLT, Int.reduceLE, Int.reduceGT, Int.reduceGE, Nat.reduceDiv, Nat.reduceMul, e2, e3, e4, e9, hdec]
          rw [← hn]; rfl
    refine key _ _ _ rfl rfl rfl ?_ ?_ ?_
    · intro h; cases nm
      · exact absurd ⟨by rw [hnb]; simpa using h, rfl⟩ hN
      · rfl
    · intro h; cases iv
      · rfl
      · exact absurd ⟨by simpa using h, rfl⟩ hS
    · intro h; cases gb
      · exact absurd ⟨by simpa using h, rfl⟩ hG
      · rfl
end Go.Proofs.Eng
