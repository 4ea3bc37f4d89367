/- L11: what functions of the program return. No conditions beyond those in the theorems. -/
import Derived.Test.YtfopdknkbnhlkaaD5
import Derived.Test.YtfopdknkbnhlkaaL2
import Derived.Test.YtfopdknkbnhlkaaF3
import Derived.Test.YtfopdknkbnhlkaaL3
set_option linter.all false
set_option linter.deprecated false
set_option linter.unnecessarySimpa false
set_option linter.unusedVariables false
set_option linter.unusedSimpArgs false
set_option linter.defProp false
namespace Go.Proofs.Eng
open Go Go.Proofs
set_option maxRecDepth 100000
set_option maxHeartbeats 4000000
mutual
/-- The names of a tree are names. -/
def Dt.ok : Dt → Bool
  | .mk c l => isName c && okL l
def okL : List Dt → Bool
  | [] => true
  | d :: ds => d.ok && okL ds
end
theorem tree_fm {c : ByteArray} {l : Nat} (h : l ≤ 4096) : fmB 3 0 c [] l = true := by
  have : (l : Int) ≤ 4096 := by omega
  simp [fmB, namedB, tabB, ctorB, this]
theorem tree_len (l : List Dt) : (treeL l).length = l.length := by rw [treeL_map, List.length_map]
theorem tree_data (d : Dt) : d.sz ≤ 4096 → d.tree.data = if d.ok = true then some d else none := by
  induction d using Dt.ind with
  | h c l ih =>
    intro hs
    simp only [Dt.sz] at hs
    have hl := dsz_len l
    have key : ∀ l' : List Dt, (∀ x ∈ l', x ∈ l) → dataL (treeL l') = if okL l' = true then some l' else none := by
      intro l'
      induction l' with
      | nil => intro _; simp [treeL, dataL, okL]
      | cons x xs ihx =>
        intro h
        have hx := ih x (h x (by simp)) (by have := dsz_kid (h x (by simp)); omega)
        have hxs := ihx fun y hy => h y (by simp [hy])
        rw [treeL, dataL, hx, okL]
        cases x.ok
        · simp
        · simp only [if_true, Bool.true_and]
          rw [hxs]
          cases okL xs <;> simp
    rw [Dt.tree, Ex.data, Dt.ok, key l (fun _ h => h)]
    cases isName c
    · simp
    · rw [if_pos ⟨rfl, by rw [tree_len]; exact tree_fm (by omega), rfl⟩]
      cases okL l <;> simp
theorem tree_err (gl : ByteArray → Bool) (d : Dt) : ∀ v, d.sz ≤ 4096 → (d.tree.err gl v = 0 ↔ d.ok = true) := by
  induction d using Dt.ind with
  | h c l ih =>
    intro v hs
    simp only [Dt.sz] at hs
    have hl := dsz_len l
    have key : ∀ (l' : List Dt) (j : Nat), (∀ x ∈ l', x ∈ l) → (errL gl 3 [] v j (treeL l') = 0 ↔ okL l' = true) := by
      intro l'
      induction l' with
      | nil => intro j _; simp [treeL, errL, okL]
      | cons x xs ihx =>
        intro j h
        have hx := ih x (h x (by simp)) (w64 (v + under 3 [] j)) (by have := dsz_kid (h x (by simp)); omega)
        have hxs := ihx (j + 1) fun y hy => h y (by simp [hy])
        rw [treeL, errL, okL]
        by_cases h0 : x.tree.err gl (w64 (v + under 3 [] j)) = 0
        · rw [if_pos h0, hxs, hx.1 h0, Bool.true_and]
        · rw [if_neg h0]
          have : x.ok = false := by
            cases hk : x.ok
            · rfl
            · exact absurd (hx.2 hk) h0
          rw [this]
          simp [h0]
    rw [Dt.tree, Ex.err, Dt.ok, tree_len, tree_fm (by omega)]
    cases hc : isName c
    · simp [namedB]
    · simp only [Bool.true_eq_false, if_false, and_false, Bool.true_and]
      rw [if_neg (by simp), if_neg (by simp)]
      exact key l 0 fun _ h => h
theorem tree_val (d : Dt) : d.tree.val = true := by
  induction d using Dt.ind with
  | h c l ih =>
    rw [Dt.tree, Ex.val, if_neg (by simp), if_pos (by simp), valL_all, treeL_map]
    simp only [List.all_map, List.all_eq_true]
    exact fun x hx => ih x hx
theorem tree_sz (d : Dt) : d.tree.sz = d.sz := by
  induction d using Dt.ind with
  | h c l ih =>
    have key : ∀ l' : List Dt, (∀ x ∈ l', x ∈ l) → szL (treeL l') = dszL l' := by
      intro l'
      induction l' with
      | nil => intro _; simp [treeL, szL, dszL]
      | cons x xs ihx =>
        intro h
        rw [treeL, szL, dszL, ih x (h x (by simp)), ihx fun y hy => h y (by simp [hy])]
    rw [Dt.tree, Ex.sz, Dt.sz, key l fun _ h => h, Nat.add_comm]
theorem tree_deep (d : Dt) : d.sz ≤ 4096 → 0 ≤ d.tree.deep ∧ d.tree.deep ≤ d.sz := by
  induction d using Dt.ind with
  | h c l ih =>
    intro hs
    simp only [Dt.sz] at hs
    have key : ∀ (l' : List Dt) (acc : Int), (∀ x ∈ l', x ∈ l) → 0 ≤ acc → acc ≤ dszL l → 0 ≤ Ex.deeps acc (treeL l') ∧ Ex.deeps acc (treeL l') ≤ dszL l := by
      intro l'
      induction l' with
      | nil => intro acc _ h0 h1; simp only [treeL, Ex.deeps]; exact ⟨h0, h1⟩
      | cons x xs ihx =>
        intro acc h h0 h1
        have hk := dsz_kid (h x (by simp))
        have hx := ih x (h x (by simp)) (by omega)
        rw [treeL, Ex.deeps]
        refine ihx _ (fun y hy => h y (by simp [hy])) ?_ ?_
        · split <;> omega
        · split <;> omega
    have := key l 0 (fun _ h => h) (Int.le_refl _) (by omega)
    rw [Dt.tree, Ex.deep, Dt.sz, show IntKind.i64.wrap (Ex.deeps 0 (treeL l) + 1) = Ex.deeps 0 (treeL l) + 1 from wrap_small (by omega) (by omega)]
    omega
theorem tree_wf (d : Dt) : d.sz ≤ 4096 → d.tree.wf := by
  induction d using Dt.ind with
  | h c l ih =>
    intro hs
    simp only [Dt.sz] at hs
    have hl := dsz_len l
    rw [Dt.tree, Ex.wf_iff, tree_len]
    refine ⟨tree_fm (by omega), fun x hx => ?_⟩
    rw [treeL_map, List.mem_map] at hx
    obtain ⟨y, hy, rfl⟩ := hx
    exact ih y hy (by have := dsz_kid hy; omega)
theorem tree_eval (d : Dt) (hs : d.sz ≤ 40) : (d.ok = true → (Pr.mk [] d.tree).eval 0 = (d.tree, 0)) ∧ (d.ok = false → ((Pr.mk [] d.tree).eval 0).2 ≠ 0) := by
  have hsz := size_eq d.tree (by rw [tree_sz]; omega)
  rw [tree_sz] at hsz
  have hdp := tree_deep d (by omega)
  have hch : (Pr.mk [] d.tree).check = d.tree.err (Pr.mk [] d.tree).gl 0 := by
    simp only [Pr.check, Pr.go, Ex.whole]
    rw [if_neg (by simp)]
    split
    · rfl
    · rename_i h0
      rw [if_neg (by simp; omega), if_neg (by simp; omega)]
      simpa using (by simpa using h0 : _ = _).symm
  have he := tree_err (Pr.mk [] d.tree).gl d 0 (by omega)
  constructor
  · intro hk
    have h0 := he.2 hk
    simp only [Pr.eval]
    rw [hch, h0]
    simp only [bne_self_eq_false, Bool.false_eq_true, if_false, Int.lt_irrefl, decide_false]
    rw [if_neg (by simp), Int.toNat_zero, ev_eq, if_neg (by simp; omega), if_pos (tree_val d)]
  · intro hk
    have h0 : ¬ d.tree.err (Pr.mk [] d.tree).gl 0 = 0 := fun h => by rw [he.1 h] at hk; cases hk
    simp only [Pr.eval]
    rw [hch, if_pos (by simpa using h0)]
    exact h0
theorem trees_law {d : Dt} {a : AV} (h : d.Is a) : Out md pfs 11 [a] (· = .bool true) fun _ => False := by
  obtain ⟨_, rfl, c0⟩ := (flat_ret d h (nodes := 40)).call rfl (by simp [pvs_cons, pvs_nil, pv_v, dtPure _ h])
  obtain ⟨_, rfl, c4⟩ := awake_ret.call rfl (by simp [pvs_nil])
  obtain ⟨c, rfl, l1, l2⟩ := dtAgg.cells h
  have l3 : c.take 2 = c := List.take_of_length_le (by omega)
  refine out_of pf11_is (Nat.le_of_ble_eq_true rfl) ?_
  cases hs : d.flat 40 with
  | none =>
    rw [hs] at c0
    simp only [smallAV] at c0
    simp only [pf11, ↓wpre, wset, wcore, ne_eq, if_true, if_false, exists_eq_left', true_implies, false_implies, exists_const, exists_eq_right, binA, intA, loadA, storeA, pickC, setAt, mapO, argsE, X.isC, resA, oneA, unA, boundA, eqiA, eqsA, fillA, fillE, ASt.fz, strA, Nat.reduceEqDiff, Nat.reduceLT, ↓reduceIte, reduceCtorEq, Nat.reduceAdd, Nat.reduceLeDiff, Int.reduceBEq, Int.reduceBNe, Int.reduceLT, Int.reduceLE, Int.reduceGT, Int.reduceGE, Nat.reduceDiv, Nat.reduceMul, l1, l3, c0, c4]
  | some m =>
    rw [hs] at c0
    simp only [smallAV] at c0
    have hsz := flat_sz d hs (by omega)
    have hsz40 : d.sz ≤ 40 := by omega
    obtain ⟨et, het, c1⟩ := (tree_ret d h (by omega)).call rfl (by simp [pvs_cons, pvs_nil, dtPure _ h])
    obtain ⟨_, ⟨ad, rfl, had⟩, c2⟩ := (Data_ret het).call rfl (by simp [pvs_cons, pvs_nil, exPure _ het])
    obtain ⟨ct, rfl, t1, t2⟩ := exAgg.cells het
    have t3 : ct.take 5 = ct := List.take_of_length_le (by omega)
    have hct := exPure _ het
    rw [pv_agg] at hct
    have hp : (Pr.mk [] d.tree).Is (.agg (.sl [] .nil :: ct)) := ⟨[], .nil, ct, rfl, rfl, by simp, trivial, het, t1, t3, t2, hct, by rw [pvs_nil], rfl⟩
    have hwf := tree_wf d (by omega)
    have hdp := dep_sz d.tree
    rw [tree_sz] at hdp
    obtain ⟨_, ⟨ax, rfl, hax⟩, c3⟩ := (Eval_ret hp (I := fun n x => n = 0 ∧ x.wf ∧ 64 * (x.dep : Int) ≤ B62) ⟨fun h => h.2, fun h => absurd h.1 (by omega)⟩ (steps := 0) (fun _ _ _ => ⟨rfl, hwf, by show 64 * (d.tree.dep : Int) ≤ B62; unfold B62; omega⟩)).call rfl (by simp [pvs_cons, pvs_nil, pv_v, prPure hp])
    obtain ⟨cx, rfl, x1, x2⟩ := exAgg.cells hax
    have x3 : cx.take 5 = cx := List.take_of_length_le (by omega)
    obtain ⟨cd, rfl, q1, q2⟩ := dtAgg.cells had
    have q3 : cd.take 2 = cd := List.take_of_length_le (by omega)
    rw [tree_data d (by omega)] at had c2
    cases hk : d.ok
    · have hne := (tree_eval d hsz40).2 hk
      generalize ((Pr.mk [] d.tree).eval 0).2 = bad at hne c3
      rw [hk] at c2
      have hb : (bad == 0) = false := by simpa using hne
      simp only [Bool.false_eq_true, if_false, Option.isSome_none] at c2
      simp only [pf11, ↓wpre, wset, wcore, ne_eq, if_true, if_false, exists_eq_left', true_implies, false_implies, exists_const, exists_eq_right, binA, intA, loadA, storeA, pickC, setAt, mapO, argsE, X.isC, resA, oneA, unA, boundA, eqiA, eqsA, fillA, fillE, ASt.fz, strA, Nat.reduceEqDiff, Nat.reduceLT, ↓reduceIte, reduceCtorEq, Nat.reduceAdd, Nat.reduceLeDiff, Int.reduceBEq, Int.reduceBNe, Int.reduceLT, Int.reduceLE, Int.reduceGT, Int.reduceGE, Nat.reduceDiv, Nat.reduceMul, l1, l3, c0, c1, c2, c3, c4, t1, t2, t3, x1, x2, q1, q2, hb]
    · have hev := (tree_eval d hsz40).1 hk
      rw [hev] at hax c3
      rw [hk] at c2 had
      simp only [if_true, Option.isSome_some] at c2
      simp only [if_true, Option.getD_some] at had
      obtain ⟨_, rfl, c5⟩ := (sameData_ret _ had h).call rfl (by simp [pvs_cons, pvs_nil, dtPure _ had, dtPure _ h])
      obtain ⟨_, rfl, c6⟩ := (same_ret _ hax het).call rfl (by simp [pvs_cons, pvs_nil, exPure _ hax, exPure _ het])
      simp only [pf11, ↓wpre, wset, wcore, ne_eq, if_true, if_false, exists_eq_left', true_implies, false_implies, exists_const, exists_eq_right, binA, intA, loadA, storeA, pickC, setAt, mapO, argsE, X.isC, resA, oneA, unA, boundA, eqiA, eqsA, fillA, fillE, ASt.fz, strA, Nat.reduceEqDiff, Nat.reduceLT, ↓reduceIte, reduceCtorEq, Nat.reduceAdd, Nat.reduceLeDiff, Int.reduceBEq, Int.reduceBNe, Int.reduceLT, Int.reduceLE, Int.reduceGT, Int.reduceGE, Nat.reduceDiv, Nat.reduceMul, l1, l3, c0, c1, c2, c3, c4, c5, c6, t1, t2, t3, x1, x2, x3, q1, q2, q3]
end Go.Proofs.Eng
