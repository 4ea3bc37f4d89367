/- E4: what functions of the program return. No conditions beyond those in the theorems. -/
import Derived.Test.YtfopdknkbnhlkaaE3
set_option linter.all false
set_option linter.deprecated false
set_option linter.unnecessarySimpa false
set_option linter.unusedVariables false
set_option linter.unusedSimpArgs false
set_option linter.defProp false
namespace Go.Proofs.Eng
open Go Go.Proofs
set_option maxRecDepth 100000
set_option maxHeartbeats 4000000
theorem LIs.reverse {α : Type} {R : α → AV → Prop} : ∀ {l : List α} {al : List AV}, LIs R l al → LIs R l.reverse al.reverse
  | [], [], _ => trivial
  | x :: l, a :: al, h => by
    simp only [LIs] at h
    rw [List.reverse_cons, List.reverse_cons]
    exact (LIs.reverse h.2).append (LIs.one h.1)
  | [], _ :: _, h => by simp [LIs] at h
  | _ :: _, [], h => by simp [LIs] at h
theorem reverse_nil (t : Tl) (s : ASt) : Sh md pfs 89 [.sl [] t] s (fun v s' => v = .tup [] ∧ s' = s) fun _ _ => False := by
  refine sh_of pf89_is (Nat.le_of_ble_eq_true rfl) ?_
  have hw : IntKind.i64.wrap (0 - 1) = -1 := by decide
  obtain ⟨H, T⟩ := s
  simp only [pf89, ↓wpre, wset, wcore, ne_eq, if_true, if_false, exists_eq_left', true_implies, false_implies, exists_const, exists_eq_right, binA, intA, loadA, storeA, pickC, setAt, mapO, argsE, X.isC, resA, oneA, unA, boundA, eqiA, eqsA, fillA, fillE, ASt.fz, strA, Nat.reduceEqDiff, Nat.reduceLT, ↓reduceIte, reduceCtorEq, Nat.reduceAdd, Nat.reduceLeDiff, Int.reduceBEq, Int.reduceBNe, Int.reduceLT, Int.reduceLE, Int.reduceGT, Int.reduceGE, Nat.reduceDiv, Nat.reduceMul, hw]
  refine W_loopE (fun _ => 0) (fun (_ : Unit) E H' T' => H' = H ∧ T' = T ∧ E 2 = .int 0 ∧ E 3 = .int (-1)) ?_ () ⟨rfl, rfl, rfl, rfl⟩
  rintro _ E H' T' ⟨rfl, rfl, e2, e3⟩
  simp only [↓wpre, wset, wcore, ne_eq, if_true, if_false, exists_eq_left', true_implies, false_implies, exists_const, exists_eq_right, binA, intA, loadA, storeA, pickC, setAt, mapO, argsE, X.isC, resA, oneA, unA, boundA, eqiA, eqsA, fillA, fillE, ASt.fz, strA, Nat.reduceEqDiff, Nat.reduceLT, ↓reduceIte, reduceCtorEq, Nat.reduceAdd, Nat.reduceLeDiff, Int.reduceBEq, Int.reduceBNe, Int.reduceLT, Int.reduceLE, Int.reduceGT, Int.reduceGE, Nat.reduceDiv, Nat.reduceMul, e2, e3]
theorem red_case {i : Int} {n : ByteArray} {s : List Int} {kids : List Ex} {xk xi : Int} {xn : ByteArray} {xs : List Int} {xkids : List Ex} (hx0 : kids.getD 0 .zero = .mk xk xi xn xs xkids) : (Ex.mk 4 i n s kids).red = if xk = 3 ∧ xi < s.length ∧ (xkids.length : Int) = s.getD xi.toNat 0 then .ok ((kids.getD (1 + xi.toNat) .zero).subst xkids.reverse) else .error 10 := by
  simp only [Ex.red, hx0]; rfl
theorem red4 {i : Int} {n : ByteArray} {s : List Int} {kids : List Ex} {a : AV} (h : (Ex.mk 4 i n s kids).Is a) (hw : (Ex.mk 4 i n s kids).wf) (hd : 64 * (Ex.mk 4 i n s kids).dep ≤ B62) : Out md pfs 81 [a] (RedR (Ex.mk 4 i n s kids)) (RedP (Ex.mk 4 i n s kids)) := by
  have he := exPure _ h
  obtain ⟨t1, t2, kas, rfl, h1, h2, h3, h4, h5, h6⟩ := h.opn
  rw [Ex.wf_iff] at hw
  have hf := fm_facts hw.1
  have hkl : kids.length = s.length + 1 := by omega
  obtain ⟨x, cx, d0, _, d3, d4, d5, d6, d7, hx⟩ := h6.get exAgg (i := 0) (by rw [h6.len]; omega)
  have hwx := hw.2 x d3
  have hdx := dep_kid d3
  simp only [Ex.dep] at hd
  obtain ⟨xk, xi, xn, xs, xkids⟩ := x
  have hxp := exPure _ hx
  obtain ⟨u1, u2, xkas, e, g1, g2, g3, g4, g5, g6⟩ := hx.opn
  cases e
  rw [Ex.wf_iff] at hwx
  have hfx := fm_facts hwx.1
  have hall := h6.all exAgg
  have hx0 : kids.getD 0 .zero = .mk xk xi xn xs xkids := by rw [List.getD, d0]; rfl
  refine out_of pf81_is (Nat.le_of_ble_eq_true rfl) ?_
  cases c3 : (xk == 3)
  · simp only [pf81, ↓wpre, wset, wcore, ne_eq, if_true, if_false, exists_eq_left', true_implies, false_implies, exists_const, exists_eq_right, binA, intA, loadA, storeA, pickC, setAt, mapO, argsE, X.isC, resA, oneA, unA, boundA, eqiA, eqsA, fillA, fillE, ASt.fz, strA, Nat.reduceEqDiff, Nat.reduceLT, ↓reduceIte, reduceCtorEq, Nat.reduceAdd, Nat.reduceLeDiff, Int.reduceBEq, Int.reduceBNe, Int.reduceLT, Int.reduceLE, Int.reduceGT, Int.reduceGE, Nat.reduceDiv, Nat.reduceMul, d4, hall, c3, dem_f, wrPure]
    exact ⟨_, by rw [red_case hx0, if_neg (by simp at c3; omega)], rfl⟩
  · obtain ⟨q, rfl⟩ : ∃ q : Nat, xi = q := ⟨xi.toNat, by omega⟩
    cases c4 : decide ((q : Int) < (ints s).length)
    · simp only [pf81, ↓wpre, wset, wcore, ne_eq, if_true, if_false, exists_eq_left', true_implies, false_implies, exists_const, exists_eq_right, binA, intA, loadA, storeA, pickC, setAt, mapO, argsE, X.isC, resA, oneA, unA, boundA, eqiA, eqsA, fillA, fillE, ASt.fz, strA, Nat.reduceEqDiff, Nat.reduceLT, ↓reduceIte, reduceCtorEq, Nat.reduceAdd, Nat.reduceLeDiff, Int.reduceBEq, Int.reduceBNe, Int.reduceLT, Int.reduceLE, Int.reduceGT, Int.reduceGE, Nat.reduceDiv, Nat.reduceMul, d4, hall, c3, c4, dem_f, wrPure]
      exact ⟨_, by rw [red_case hx0, if_neg (by simp [ints_len] at c4; omega)], rfl⟩
    · have hq : q < s.length := by simp [ints_len] at c4; omega
      obtain ⟨z, z0, z1, z2⟩ := ints_get hq
      cases c5 : ((xkas.length : Int) == z)
      · simp only [pf81, ↓wpre, wset, wcore, ne_eq, if_true, if_false, exists_eq_left', true_implies, false_implies, exists_const, exists_eq_right, binA, intA, loadA, storeA, pickC, setAt, mapO, argsE, X.isC, resA, oneA, unA, boundA, eqiA, eqsA, fillA, fillE, ASt.fz, strA, Nat.reduceEqDiff, Nat.reduceLT, ↓reduceIte, reduceCtorEq, Nat.reduceAdd, Nat.reduceLeDiff, Int.reduceBEq, Int.reduceBNe, Int.reduceLT, Int.reduceLE, Int.reduceGT, Int.reduceGE, Nat.reduceDiv, Nat.reduceMul, d4, hall, c3, c4, ints_all, z2, c5, dem_f, wrPure]
        exact ⟨_, by rw [red_case hx0, Int.toNat_natCast, if_neg (by rw [List.getD, z0, ← g6.len]; simp at c5; simp; omega)], rfl⟩
      · obtain ⟨y, cy, e0, _, e3, e4, e5, e6, e7, hy⟩ := h6.get exAgg (i := 1 + q) (by rw [h6.len]; omega)
        have hwy := hw.2 y e3
        have hdy := dep_kid e3
        have hw1 : IntKind.i64.wrap (1 + (q : Int)) = ((1 + q : Nat) : Int) := by rw [wrap_small (by omega) (by omega)]; omega
        have hred : (Ex.mk 4 i n s kids).red = .ok (y.subst xkids.reverse) := by
          rw [red_case hx0, Int.toNat_natCast, if_pos ⟨by simpa using c3, by omega, by rw [List.getD, z0, ← g6.len]; simpa using c5⟩, List.getD, e0]; rfl
        have hxs : ∀ v ∈ xkids.reverse, v.fits 0 ∧ v.slim := by
          intro v hv
          have hv : v ∈ xkids := by simpa using hv
          have := dep_kid hv
          simp only [Ex.dep] at hdx
          exact ⟨fits_of _ (hwx.2 v hv) (by omega) (by omega), slim_of _ (hwx.2 v hv)⟩
        have hfy := fits_of y hwy (d := 0) (by omega) (by omega)
        cases xkids with
        | nil =>
          cases xkas with
          | cons _ _ => exact g6.elim
          | nil =>
            obtain ⟨tn, htn, hnt⟩ : ∃ tn, nilTl (.sl [] u2) = tn ∧ tn.pure = true := ⟨_, rfl, by cases u2 <;> rfl⟩
            obtain ⟨v, hv, hc⟩ := (subst_ret hy hfy (slim_of _ hwy) (vs := []) (vas := []) (tv := tn) trivial hnt hxs).call rfl (by simp [pvs_cons, pvs_nil, pv_sl, exPure _ hy, hnt])
            obtain ⟨cv, rfl, v1, v2⟩ := exAgg.cells hv
            have v3 : cv.take 5 = cv := List.take_of_length_le (by omega)
            rcases (reverse_nil tn ⟨[.cells false [.int 4, .int i, .str n, .sl (ints s) t1, .sl kas t2], .cells false [.int 0, .int 0, .str ⟨#[]⟩, .sl [] .nil, .sl [] .nil], .cells false [.int xk, .int q, .str xn, .sl (ints xs) u1, .sl [] u2]], []⟩).call rfl with ⟨_, _, ⟨rfl, rfl⟩, hc2⟩ | ⟨_, _, h, _⟩
            · have c5 : ((0 : Int) == z) = true := by simpa using c5
              simp only [pf81, ↓wpre, wset, wcore, ne_eq, if_true, if_false, exists_eq_left', true_implies, false_implies, exists_const, exists_eq_right, binA, intA, loadA, storeA, pickC, setAt, mapO, argsE, X.isC, resA, oneA, unA, boundA, eqiA, eqsA, fillA, fillE, ASt.fz, strA, Nat.reduceEqDiff, Nat.reduceLT, ↓reduceIte, reduceCtorEq, Nat.reduceAdd, Nat.reduceLeDiff, Int.reduceBEq, Int.reduceBNe, Int.reduceLT, Int.reduceLE, Int.reduceGT, Int.reduceGE, Nat.reduceDiv, Nat.reduceMul, d4, hall, c3, c4, ints_all, z2, c5, dem_t, Option.getD_some, htn, hc2, hw1, e4, e5, e6, e7, hc, v1, v2, v3, exPure _ hv]
              exact ⟨_, hred, hv⟩
            · exact h.elim
        | cons x0 xr =>
          cases xkas with
          | nil => exact g6.elim
          | cons a0 ar =>
            have hrev := g6.reverse
            have hall2 := g6.all2 exAgg
            have hcap : (a0 :: ar).length ≤ 1073741824 := by rw [g6.len]; omega
            rcases (reverse_sh (bi := 3) (H := [.cells false [.int 4, .int i, .str n, .sl (ints s) t1, .sl kas t2], .cells false [.int 0, .int 0, .str ⟨#[]⟩, .sl [] .nil, .sl [] .nil], .cells false [.int xk, .int q, .str xn, .sl (ints xs) u1, .sl (a0 :: ar) u2], .cells false (flat (a0 :: ar))]) (T := []) (g6.rows exAgg) hcap rfl).call rfl with ⟨_, _, ⟨rfl, rfl⟩, hc2⟩ | ⟨_, _, h, _⟩
            · have hpz := purify_bs exAgg (n := 18) (s := ⟨[.cells false [.int 4, .int i, .str n, .sl (ints s) t1, .sl kas t2], .cells false [.int 0, .int 0, .str ⟨#[]⟩, .sl [] .nil, .sl [] .nil], .cells false [.int xk, .int q, .str xn, .sl (ints xs) u1, .sl (a0 :: ar) u2], .cells false (flat (a0 :: ar).reverse)], []⟩) (i := 3) (fz := false) hrev rfl (m := (a0 :: ar).length) (by simp)
              have hel := elems_bs exAgg (s := ⟨[.cells false [.int 4, .int i, .str n, .sl (ints s) t1, .sl kas t2], .cells false [.int 0, .int 0, .str ⟨#[]⟩, .sl [] .nil, .sl [] .nil], .cells false [.int xk, .int q, .str xn, .sl (ints xs) u1, .sl (a0 :: ar) u2], .cells false (flat (a0 :: ar).reverse)], []⟩) (i := 3) (fz := false) hrev rfl (m := (a0 :: ar).length) (by simp)
              obtain ⟨v, hv, hc⟩ := (subst_ret hy hfy (slim_of _ hwy) (vs := (x0 :: xr).reverse) (vas := (a0 :: ar).reverse) (tv := .none) hrev rfl hxs).callP rfl (s := ⟨[.cells false [.int 4, .int i, .str n, .sl (ints s) t1, .sl kas t2], .cells false [.int 0, .int 0, .str ⟨#[]⟩, .sl [] .nil, .sl [] .nil], .cells false [.int xk, .int q, .str xn, .sl (ints xs) u1, .sl (a0 :: ar) u2], .cells false (flat (a0 :: ar).reverse)], []⟩) (args := [.agg cy, .bs 3 0 (a0 :: ar).length 5 true]) (by simp only [mapO, purify_pure (n := 19) (exPure _ hy)]; rw [hpz])
              rw [List.foldl_cons, List.foldl_cons, List.foldl_nil, fr_pure (exPure _ hy), fr_bs, hel, Option.getD_some, fz_cells (b := false) (l := flat (a0 :: ar).reverse) rfl, frzs_pure (flat_pure (exsPure hrev))] at hc
              obtain ⟨cv, rfl, v1, v2⟩ := exAgg.cells hv
              have v3 : cv.take 5 = cv := List.take_of_length_le (by omega)
              simp only [List.set_cons_succ, List.set_cons_zero, List.length_cons] at hc hc2 hcap c5
              simp only [List.all_cons, Bool.and_eq_true] at hall2
              obtain ⟨⟨hl0, ho0⟩, hl1⟩ := hall2
              simp only [pf81, ↓wpre, wset, wcore, ne_eq, if_true, if_false, exists_eq_left', true_implies, false_implies, exists_const, exists_eq_right, binA, intA, loadA, storeA, pickC, setAt, mapO, argsE, X.isC, resA, oneA, unA, boundA, eqiA, eqsA, fillA, fillE, ASt.fz, strA, Nat.reduceEqDiff, Nat.reduceLT, ↓reduceIte, reduceCtorEq, Nat.reduceAdd, Nat.reduceLeDiff, Int.reduceBEq, Int.reduceBNe, Int.reduceLT, Int.reduceLE, Int.reduceGT, Int.reduceGE, Nat.reduceDiv, Nat.reduceMul, d4, hall, c3, c4, ints_all, z2, c5, dem_t, hcap, hl0, ho0, hl1, hc2, hw1, e4, e5, e6, e7, hc, v1, v2, v3, exPure _ hv]
              exact ⟨_, hred, hv⟩
            · exact h.elim
end Go.Proofs.Eng
