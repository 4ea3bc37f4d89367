/- E1: what functions of the program return. No conditions beyond those in the theorems. -/
import Derived.Test.YtfopdknkbnhlkaaB5
import Derived.Test.YtfopdknkbnhlkaaA4
set_option linter.all false
set_option linter.deprecated false
set_option linter.unnecessarySimpa false
set_option linter.unusedVariables false
set_option linter.unusedSimpArgs false
set_option linter.defProp false
namespace Go.Proofs.Eng
open Go Go.Proofs
set_option maxRecDepth 100000
theorem findFn_ret {g : Gl} {a : AV} (h : glIs g a) (n : ByteArray) : Out md pfs 88 [a, .ip [.str n] 0] (· = .bool (decide (g.1 = n))) fun _ => False := by
  obtain ⟨c, rfl, _, hg⟩ := h
  obtain ⟨c3, e, b1, b2⟩ := exAgg.cells hg
  cases e
  refine out_of pf88_is (Nat.le_of_ble_eq_true rfl) ?_
  simp only [pf88, ↓wpre, wset, wcore, ne_eq, if_true, if_false, exists_eq_left', true_implies, false_implies, exists_const, exists_eq_right, binA, intA, loadA, storeA, pickC, setAt, mapO, argsE, X.isC, resA, oneA, unA, boundA, eqiA, eqsA, fillA, fillE, ASt.fz, strA, Nat.reduceEqDiff, Nat.reduceLT, ↓reduceIte, reduceCtorEq, Nat.reduceAdd, Nat.reduceLeDiff, Int.reduceBEq, Int.reduceBNe, Int.reduceLT, Int.reduceLE, Int.reduceGT, Int.reduceGE, Nat.reduceDiv, Nat.reduceMul, b1, str_eq]
theorem gfind_at {n : ByteArray} : ∀ {gs : List Gl} {j : Nat} {g : Gl}, gs[j]? = some g → g.1 = n → ((gs.take j).any fun g => decide (g.1 = n)) = false → gfind gs n = some g.2
  | [], _, _, h, _, _ => by simp at h
  | x :: gs, 0, g, h, h1, _ => by simp at h; subst h; rw [gfind, if_pos h1]
  | x :: gs, j + 1, g, h, h1, h2 => by
    simp at h2
    rw [gfind, if_neg h2.1]
    exact gfind_at (j := j) (by simpa using h) h1 (by simpa using h2.2)
theorem find_ret {p : Pr} {pa : AV} (hp : p.Is pa) (n : ByteArray) : Out md pfs 79 [pa, .str n] (fun v => ∃ e, gfind p.gs n = some e ∧ e.Is v) (fun v => gfind p.gs n = none ∧ v = wr 9) := by
  obtain ⟨gas, tg, c, rfl, h1, h2, h3, h4, h5, h6, h7, h8, h9, h10⟩ := id hp
  refine out_of pf79_is (Nat.le_of_ble_eq_true rfl) ?_
  have hm := index6_ret glAgg 88 [.ip [.str n] 0] rfl (by simp [pvs_cons, pvs_nil, pv_v, pv_ip]) (fun g => decide (g.1 = n)) (t := tg) h3 h2 (fun g _ a h => findFn_ret h n)
  obtain ⟨_, ⟨r, rfl, hr⟩, hc⟩ := hm.callP rfl (s := ⟨[.cells false (.sl gas tg :: c), .cells false [.str n], .cells false [.int 0, .int 0, .str ⟨#[]⟩, .sl [] .nil, .sl [] .nil]], []⟩) (args := [.sl gas tg, .fn 88 [.ptr 1 0]]) (by simp only [↓wpre, wset, wcore, ne_eq, if_true, if_false, exists_eq_left', true_implies, false_implies, exists_const, exists_eq_right, binA, intA, loadA, storeA, pickC, setAt, mapO, argsE, X.isC, resA, oneA, unA, boundA, eqiA, eqsA, fillA, fillE, ASt.fz, strA, Nat.reduceEqDiff, Nat.reduceLT, ↓reduceIte, reduceCtorEq, Nat.reduceAdd, Nat.reduceLeDiff, Int.reduceBEq, Int.reduceBNe, Int.reduceLT, Int.reduceLE, Int.reduceGT, Int.reduceGE, Nat.reduceDiv, Nat.reduceMul, h1, h9])
  rcases hr with ⟨rfl, hn⟩ | ⟨j, g, rfl, q1, q2, q3⟩
  · simp only [pf79, ↓wpre, wset, wcore, ne_eq, if_true, if_false, exists_eq_left', true_implies, false_implies, exists_const, exists_eq_right, binA, intA, loadA, storeA, pickC, setAt, mapO, argsE, X.isC, resA, oneA, unA, boundA, eqiA, eqsA, fillA, fillE, ASt.fz, strA, Nat.reduceEqDiff, Nat.reduceLT, ↓reduceIte, reduceCtorEq, Nat.reduceAdd, Nat.reduceLeDiff, Int.reduceBEq, Int.reduceBNe, Int.reduceLT, Int.reduceLE, Int.reduceGT, Int.reduceGE, Nat.reduceDiv, Nat.reduceMul, h1, h9, h5, hc, dem_f, wrPure]
    have := gfind_any n p.gs
    rw [hn] at this
    cases hg : gfind p.gs n with
    | none => rfl
    | some _ => rw [hg] at this; cases this
  · have hj : j < gas.length := by rw [h3.len]; exact (List.getElem?_eq_some_iff.1 q1).1
    obtain ⟨g', _, d0, d1, d3, d4, ⟨c2, rfl, hns, hg⟩⟩ := h3.at hj
    rw [q1] at d0; cases d0
    obtain ⟨c3, e, b1, b2⟩ := exAgg.cells hg
    cases e
    have b3 : c2.take 5 = c2 := List.take_of_length_le (by omega)
    simp only [pf79, ↓wpre, wset, wcore, ne_eq, if_true, if_false, exists_eq_left', true_implies, false_implies, exists_const, exists_eq_right, binA, intA, loadA, storeA, pickC, setAt, mapO, argsE, X.isC, resA, oneA, unA, boundA, eqiA, eqsA, fillA, fillE, ASt.fz, strA, Nat.reduceEqDiff, Nat.reduceLT, ↓reduceIte, reduceCtorEq, Nat.reduceAdd, Nat.reduceLeDiff, Int.reduceBEq, Int.reduceBNe, Int.reduceLT, Int.reduceLE, Int.reduceGT, Int.reduceGE, Nat.reduceDiv, Nat.reduceMul, h1, h9, h5, hc, dem_t, h10, d4, b1, b2, b3, exPure _ hg, ge_iff_le]
    exact ⟨_, gfind_at q1 (by simpa using q2) q3, hg⟩
end Go.Proofs.Eng
