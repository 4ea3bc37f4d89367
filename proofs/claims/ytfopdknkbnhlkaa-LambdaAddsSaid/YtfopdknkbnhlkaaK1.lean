/- K1: what functions of the program return. No conditions beyond those in the theorems. -/
import Derived.Test.YtfopdknkbnhlkaaE6
import Derived.Test.YtfopdknkbnhlkaaP4
set_option linter.all false
set_option linter.deprecated false
set_option linter.unnecessarySimpa false
set_option linter.unusedVariables false
set_option linter.unusedSimpArgs false
set_option linter.defProp false
namespace Go.Proofs.Eng
open Go Go.Proofs
set_option maxRecDepth 100000
set_option maxHeartbeats 4000000
theorem app_blk {s : ASt} {es : Nat} {l : List AV} (hne : l ≠ []) (hl : l.length ≤ 1073741824) (h2 : (l.all fun x => x.cells.length == es && x.cells.all oneCell) = true) : appA s es (some true) [] .nil l = some (.bs s.H.length 0 l.length es true, { s with H := s.H ++ [.cells false (flat l)] }) := by
  cases l with
  | nil => exact absurd rfl hne
  | cons x l =>
    have e : ([] : List AV).length + (x :: l).length = (x :: l).length := by simp
    simp only [appA, e, List.nil_append]
    rw [if_pos ⟨hl, rfl, h2⟩]
/-- The result of a step of a kid. -/
def Ex.ins (k i : Int) (n : ByteArray) (s : List Int) (kids : List Ex) (j : Nat) (r : Ex × Bool × Int) : Ex × Bool × Int :=
  if r.2.2 = 0 then (.mk k i n s (kids.set j r.1), true, 0) else (.zero, false, r.2.2)
def StpR (r : Ex × Bool × Int) (v : AV) : Prop := ∃ ax, v = .tup [ax, .bool r.2.1, .int r.2.2] ∧ r.1.Is ax
theorem inside_ret {p : Pr} {pa : AV} (hp : p.Is pa) {k i : Int} {n : ByteArray} {s : List Int} {kids : List Ex} {a : AV} (h : (Ex.mk k i n s kids).Is a) {j : Nat} {x : Ex} (hj : kids[j]? = some x) (hcap : kids.length ≤ capB) {r : Ex × Bool × Int} (hr : ∀ {ax}, x.Is ax → Out md pfs 21 [pa, ax] (StpR r) fun _ => False) : Out md pfs 54 [pa, a, .int j] (StpR (Ex.ins k i n s kids j r)) fun _ => False := by
  have he := exPure _ h
  obtain ⟨t1, t2, kas, rfl, h1, h2, h3, h4, h5, h6⟩ := h.opn
  have hjl : j < kas.length := by rw [h6.len]; exact (List.getElem?_eq_some_iff.1 hj).1
  obtain ⟨x', cx, d0, _, d3, d4, d5, d6, d7, hx⟩ := h6.get exAgg hjl
  rw [hj] at d0; cases d0
  have hpp := prPure hp
  obtain ⟨_, ⟨ax, rfl, hax⟩, hc⟩ := (hr hx).call rfl (by simp [pvs_cons, pvs_nil, hpp, exPure _ hx])
  obtain ⟨cy, rfl, y1, y2⟩ := exAgg.cells hax
  have y3 : cy.take 5 = cy := List.take_of_length_le (by omega)
  obtain ⟨gas, tg, c, rfl, p1, p2, p3, p4, p5, p6, p7, p8, p9, p10⟩ := id hp
  obtain ⟨ry, rb, rc⟩ := r
  have hall := h6.all exAgg
  have hall2 := h6.all2 exAgg
  refine out_of pf54_is (Nat.le_of_ble_eq_true rfl) ?_
  cases hz : (rc != 0)
  · have e0 : rc = 0 := by simpa using hz
    subst e0
    have hcap2 : kas.length ≤ 1073741824 := by rw [h6.len]; exact hcap
    have hab : ∀ s0 : ASt, appA s0 5 (some true) [] .nil kas = some (.bs s0.H.length 0 kas.length 5 true, { s0 with H := s0.H ++ [.cells false (flat kas)] }) := fun s0 => app_blk (by intro e; rw [e] at hjl; simp at hjl) hcap2 hall2
    have hrs := rows_set (h6.rows exAgg) hjl y1
    have hle : j * 5 + 5 ≤ (flat kas).length := by rw [rows_len (h6.rows exAgg)]; omega
    unfold setAt at hrs
    rw [y1] at hrs
    have hlt' : (j : Int) < kas.length := by omega
    have hset := LIs.set j h6 hax
    have hpz := purify_bs exAgg (n := 18) (s := ⟨[AObj.cells false (.sl gas tg :: c), .cells false [.int k, .int i, .str n, .sl (ints s) t1, .sl kas t2], .cells false [.int 0, .int 0, .str ⟨#[]⟩, .sl [] .nil, .sl [] .nil], .cells false cy, .cells false (flat (kas.set j (.agg cy)))], []⟩) (i := 4) (fz := false) hset rfl (m := kas.length) (by simp)
    have hel := elems_bs exAgg (s := ⟨[AObj.cells false (.sl gas tg :: c), .cells false [.int k, .int i, .str n, .sl (ints s) t1, .sl kas t2], .cells false [.int 0, .int 0, .str ⟨#[]⟩, .sl [] .nil, .sl [] .nil], .cells false cy, .cells false (flat (kas.set j (.agg cy)))], []⟩) (i := 4) (fz := false) hset rfl (m := kas.length) (by simp)
    obtain ⟨_, rfl, hw⟩ := (with_ret (t := .none) (kas2 := kas.set j (.agg cy)) he h1 rfl (exsPure hset)).callP rfl (s := ⟨[AObj.cells false (.sl gas tg :: c), .cells false [.int k, .int i, .str n, .sl (ints s) t1, .sl kas t2], .cells false [.int 0, .int 0, .str ⟨#[]⟩, .sl [] .nil, .sl [] .nil], .cells false cy, .cells false (flat (kas.set j (.agg cy)))], []⟩) (args := [.agg [.int k, .int i, .str n, .sl (ints s) t1, .sl kas t2], .bs 4 0 kas.length 5 true]) (by simp only [mapO, purify_pure (n := 19) he]; rw [hpz])
    rw [List.foldl_cons, List.foldl_cons, List.foldl_nil, fr_pure he, fr_bs, hel, Option.getD_some, fz_cells (b := false) (l := flat (kas.set j (.agg cy))) rfl, frzs_pure (flat_pure (exsPure hset))] at hw
    have hins : Ex.ins k i n s kids j (ry, rb, 0) = (.mk k i n s (kids.set j ry), true, 0) := rfl
    rw [hins]
    have hI : (Ex.mk k i n s (kids.set j ry)).Is (.agg [.int k, .int i, .str n, .sl (ints s) t1, .sl (kas.set j (.agg cy)) .none]) := Ex.Is.mk h1 rfl h3 h4 (by simpa using h5) hset
    simp only [List.set_cons_succ, List.set_cons_zero] at hw
    simp only [pf54, ↓wpre, wset, wcore, ne_eq, if_true, if_false, exists_eq_left', true_implies, false_implies, exists_const, exists_eq_right, binA, intA, loadA, storeA, pickC, setAt, mapO, argsE, X.isC, resA, oneA, unA, boundA, eqiA, eqsA, fillA, fillE, ASt.fz, strA, Nat.reduceEqDiff, Nat.reduceLT, ↓reduceIte, reduceCtorEq, Nat.reduceAdd, Nat.reduceLeDiff, Int.reduceBEq, Int.reduceBNe, Int.reduceLT, Int.reduceLE, Int.reduceGT, Int.reduceGE, Nat.reduceDiv, Nat.reduceMul, p5, p6, d4, d5, d6, d7, hc, hz, y1, y2, y3, hall, hab, hlt', hle, hrs, hw, exPure _ hI]
    exact ⟨_, rfl, hI⟩
  · have hins : Ex.ins k i n s kids j (ry, rb, rc) = (.zero, false, rc) := by
      unfold Ex.ins
      rw [if_neg (by simpa using hz)]
    rw [hins]
    simp only [pf54, ↓wpre, wset, wcore, ne_eq, if_true, if_false, exists_eq_left', true_implies, false_implies, exists_const, exists_eq_right, binA, intA, loadA, storeA, pickC, setAt, mapO, argsE, X.isC, resA, oneA, unA, boundA, eqiA, eqsA, fillA, fillE, ASt.fz, strA, Nat.reduceEqDiff, Nat.reduceLT, ↓reduceIte, reduceCtorEq, Nat.reduceAdd, Nat.reduceLeDiff, Int.reduceBEq, Int.reduceBNe, Int.reduceLT, Int.reduceLE, Int.reduceGT, Int.reduceGE, Nat.reduceDiv, Nat.reduceMul, p5, p6, d4, d5, d6, d7, hc, hz, y1, y2, y3, hall]
    exact ⟨_, rfl, zeroIs⟩
end Go.Proofs.Eng
