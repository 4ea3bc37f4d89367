/- Point: the reference's. No conditions beyond those in the theorems. -/
import Derived.Test.YtglembbmmnakaaaDoorF23
set_option linter.all false
set_option linter.deprecated false
set_option linter.unnecessarySimpa false
set_option linter.unusedVariables false
set_option linter.unusedSimpArgs false
set_option linter.defProp false
namespace Go.Proofs.Eng
open Go Go.Proofs
set_option maxRecDepth 100000
set_option maxHeartbeats 16000000
theorem flD_sumR {r pt : List Int} {k n m : Nat} {A : Rw} (hE : RowE (n + 1) m A) (hpl : pt.length = n) (hp : Bnd limP pt) (hk : k < n) (hn : n ≤ 8) (d : Int) (hd : 0 < d) : -1000000000000000000 ≤ flD (-sumR A.A pt k) d ∧ flD (-sumR A.A pt k) d ≤ 1000000000000000000 := by
  have h1 := sumTo_bnd (k := k) hE.bA hp (pt.length - (k + 1)) (by omega)
  have h2 := flD_bnd (n := -sumR A.A pt k) hd
  unfold sumR at *
  omega
theorem chooseR_bnd {l : List Rw} {k n m : Nat} {pt : List Int} {x : Int} (hE : ∀ r ∈ l, RowE (n + 1) m r) (hpl : pt.length = n) (hp : Bnd limP pt) (hk : k < n) (hn : n ≤ 8) (h : chooseR l k pt = some x) : -9223372036854775807 ≤ x ∧ x ≤ 9223372036854775807 := by
  let ok : Option Int → Prop := fun o => ∀ y, o = some y → -1000000000000000000 ≤ y ∧ y ≤ 1000000000000000000
  have key : ∀ (l : List Rw) (b : Option Int × Option Int), (∀ r ∈ l, RowE (n + 1) m r) → ok b.1 → ok b.2 → ok (l.foldl (stepC k pt) b).1 ∧ ok (l.foldl (stepC k pt) b).2 := by
    intro l
    induction l with
    | nil => intro b _ h1 h2; exact ⟨h1, h2⟩
    | cons r l ih =>
      intro b hE h1 h2
      rw [List.foldl_cons]
      refine ih _ (fun r hr => hE r (by simp [hr])) ?_ ?_
      · unfold stepC
        split
        · exact h1
        · split
          · intro y hy
            have := flD_sumR (r := []) (hE r (by simp)) hpl hp hk hn (-r.A.getD k 0) (by omega)
            simp only at hy
            split at hy
            · cases hy; omega
            · exact h1 y hy
          · exact h1
      · unfold stepC
        split
        · intro y hy
          have := flD_sumR (r := []) (hE r (by simp)) hpl hp hk hn (r.A.getD k 0) (by omega)
          simp only at hy
          split at hy
          · cases hy; omega
          · exact h2 y hy
        · split
          · exact h2
          · exact h2
  obtain ⟨k1, k2⟩ := key l (none, none) hE (fun y hy => by cases hy) (fun y hy => by cases hy)
  unfold chooseR at h
  generalize l.foldl (stepC k pt) (none, none) = b at *
  obtain ⟨lo, hi⟩ := b
  unfold endC at h
  simp only at h
  split at h
  · cases h
  · split at h
    · rename_i c
      cases lo with
      | none => simp at c
      | some y => cases h; have := k1 y rfl; simp only [Option.getD_some]; omega
    · split at h
      · rename_i c
        cases hi with
        | none => simp at c
        | some y => cases h; have := k2 y rfl; simp only [Option.getD_some]; omega
      · cases h; omega
theorem rpoint_ret {rows : List (List Int)} {al : List AV} {t : Tl} (h : LIs RowIs rows al) (ht : t.pure = true) (hl : al.length ≤ lenB) : Out md pfs 18 [.sl al t] (RefV (pointR rows)) fun _ => False := by
  have hln := h.len
  have hp := rowsPure h
  have hall := rows_all h
  obtain ⟨_, rfl, c19⟩ := (right_ret (t := t) h hl).call rfl (by simp [pvs_cons, pvs_nil, pv_sl, ht, hp])
  refine out_of pf18_is (Nat.le_of_ble_eq_true rfl) ?_
  by_cases hr : rightR rows = 0
  · have d1 : (rightR rows != 0) = false := by rw [hr]; rfl
    have hpr := pointR_of hr
    by_cases h0 : rows.length = 0
    · obtain rfl : al = [] := List.length_eq_zero_iff.1 (by omega)
      obtain rfl : rows = [] := List.length_eq_zero_iff.1 h0
      obtain ⟨_, ⟨s, rfl, hs⟩, c28⟩ := (stages_nil ht).call rfl (by simp [pvs_cons, pvs_nil, pv_sl, ht])
      have e : pointR [] = ([], true, 0) := rfl
      rw [e]
      simp only [pf18, ↓wpre, wset, wcore, ne_eq, if_true, if_false, exists_eq_left', true_implies, false_implies, exists_const, exists_eq_right, binA, intA, loadA, storeA, pickC, setAt, mapO, argsE, X.isC, resA, oneA, unA, boundA, eqiA, eqsA, fillA, fillE, ASt.fz, strA, Nat.reduceEqDiff, Nat.reduceLT, ↓reduceIte, reduceCtorEq, Nat.reduceAdd, Nat.reduceLeDiff, Int.reduceBEq, Int.reduceBNe, Int.reduceLT, Int.reduceLE, Int.reduceGT, Int.reduceGE, Nat.reduceDiv, Nat.reduceMul, Nat.reduceBEq, Nat.reduceMod, Nat.reduceSub, c19, d1, c28]
      exact refV_nil
    · have d2 : ((al.length : Int) == 0) = false := by rw [beq_eq_false_iff_ne]; omega
      have hR := right_of hr
      have hfew := hR.few
      obtain ⟨v, hv, c28⟩ := (stages_ret h ht hR (by omega)).call rfl (by simp [pvs_cons, pvs_nil, pv_sl, ht, hp])
      cases hE : elimA rows with
      | err n =>
        rw [hE] at hv
        obtain ⟨hn0, rfl⟩ := hv
        have d3 : (((n : Nat) : Int) != 0) = true := by rw [bne_iff_ne]; omega
        rw [hE] at hpr
        rw [hpr]
        simp only [pf18, ↓wpre, wset, wcore, ne_eq, if_true, if_false, exists_eq_left', true_implies, false_implies, exists_const, exists_eq_right, binA, intA, loadA, storeA, pickC, setAt, mapO, argsE, X.isC, resA, oneA, unA, boundA, eqiA, eqsA, fillA, fillE, ASt.fz, strA, Nat.reduceEqDiff, Nat.reduceLT, ↓reduceIte, reduceCtorEq, Nat.reduceAdd, Nat.reduceLeDiff, Int.reduceBEq, Int.reduceBNe, Int.reduceLT, Int.reduceLE, Int.reduceGT, Int.reduceGE, Nat.reduceDiv, Nat.reduceMul, Nat.reduceBEq, Nat.reduceMod, Nat.reduceSub, c19, d1, c28, d3]
        exact refV_nil
      | ref F =>
        rw [hE] at hv
        obtain ⟨s, u, rfl, hs, hu⟩ := hv
        rw [hE] at hpr
        rw [hpr]
        simp only [pf18, ↓wpre, wset, wcore, ne_eq, if_true, if_false, exists_eq_left', true_implies, false_implies, exists_const, exists_eq_right, binA, intA, loadA, storeA, pickC, setAt, mapO, argsE, X.isC, resA, oneA, unA, boundA, eqiA, eqsA, fillA, fillE, ASt.fz, strA, Nat.reduceEqDiff, Nat.reduceLT, ↓reduceIte, reduceCtorEq, Nat.reduceAdd, Nat.reduceLeDiff, Int.reduceBEq, Int.reduceBNe, Int.reduceLT, Int.reduceLE, Int.reduceGT, Int.reduceGE, Nat.reduceDiv, Nat.reduceMul, Nat.reduceBEq, Nat.reduceMod, Nat.reduceSub, c19, d1, c28]
        exact refV_nil
      | sts S =>
        rw [hE] at hv
        obtain ⟨s, rfl, sal, ts, rfl, hts, hS⟩ := hv
        obtain ⟨n, hn⟩ : ∃ n, (rows.headD []).length = n + 1 := ⟨(rows.headD []).length - 1, by have := (hR.pos (by omega)).1; omega⟩
        have hn8 : n ≤ 8 := by have := (hR.pos (by omega)).2; omega
        rw [hn] at hR
        have hC := elimA_chain hn hE
        have hat := hC.at (iniL_E hR) (by rw [iniL, iniP_len]; omega)
        have hsall := sts_all hS
        have hslen := hS.len
        have hSl := hC.len
        obtain ⟨t0, k1, k2⟩ := head_of h (by omega)
        have hwr : IntKind.i64.wrap (((ints (rows.headD [])).length : Nat) - 1 : Int) = (n : Int) := by rw [ints_len, hn, wrap_in (by unfold Eng.in64; omega)]; omega
        have hm : (0 : Int) ≤ (n : Int) ∧ (n : Int) ≤ 1073741824 := by omega
        have htn : ((n : Nat) : Int).toNat = n := Int.toNat_natCast _
        have hwr2 : IntKind.i64.wrap ((n : Int) - 1) = (n : Int) - 1 := wrap_in (by unfold Eng.in64; omega)
        rw [hE, hn] at hpr
        simp only [Nat.add_sub_cancel] at hpr
        rw [hpr]
        simp only [pf18, ↓wpre, wset, wcore, ne_eq, if_true, if_false, exists_eq_left', true_implies, false_implies, exists_const, exists_eq_right, binA, intA, loadA, storeA, pickC, setAt, mapO, argsE, X.isC, resA, oneA, unA, boundA, eqiA, eqsA, fillA, fillE, ASt.fz, strA, Nat.reduceEqDiff, Nat.reduceLT, ↓reduceIte, reduceCtorEq, Nat.reduceAdd, Nat.reduceLeDiff, Int.reduceBEq, Int.reduceBNe, Int.reduceLT, Int.reduceLE, Int.reduceGT, Int.reduceGE, Nat.reduceDiv, Nat.reduceMul, Nat.reduceBEq, Nat.reduceMod, Nat.reduceSub, List.length_append, List.append_assoc, app_get_len, app_get_add, app_set_len, app_set_add, c19, d1, d2, c28, k1, hall, hwr, hm, htn, hwr2, flat_rep]
        refine W_loopE (fun k => k) (fun k E H T => ∃ pt, E 6 = .sl sal ts ∧ E 10 = .bs 0 0 n 1 false ∧ E 11 = .int ((k : Nat) - 1 : Int) ∧ H = [.cells false (ints pt)] ∧ pt.length = n ∧ Bnd limP pt ∧ k ≤ n ∧ pointL S k pt = pointL S n (List.replicate n 0)) ?_ n ⟨List.replicate n 0, rfl, rfl, rfl, rfl, by simp, fun y hy => by rw [List.eq_of_mem_replicate hy]; unfold limP; omega, Nat.le_refl _, rfl⟩
        rintro k E H T ⟨pt, e6, e10, e11, rfl, hpl, hpb, hk, hL⟩
        rw [← hL]
        cases k with
        | zero =>
          replace e11 : E 11 = .int (-1) := by rw [e11]; rfl
          have hdec : decide ((-1 : Int) ≥ 0) = false := rfl
          simp only [↓wpre, wset, wcore, ne_eq, if_true, if_false, exists_eq_left', true_implies, false_implies, exists_const, exists_eq_right, binA, intA, loadA, storeA, pickC, setAt, mapO, argsE, X.isC, resA, oneA, unA, boundA, eqiA, eqsA, fillA, fillE, ASt.fz, strA, Nat.reduceEqDiff, Nat.reduceLT, ↓reduceIte, reduceCtorEq, Nat.reduceAdd, Nat.reduceLeDiff, Int.reduceBEq, Int.reduceBNe, Int.reduceLT, Int.reduceLE, Int.reduceGT, Int.reduceGE, Nat.reduceDiv, Nat.reduceMul, Nat.reduceBEq, Nat.reduceMod, Nat.reduceSub, List.length_append, List.append_assoc, app_get_len, app_get_add, app_set_len, app_set_add, e6, e10, e11, hdec]
          refine ⟨.tup [.sl (ints pt) .none, .bool true, .int 0], ?_, .none, rfl, rfl⟩
          rw [pz_ints (n := 17) (L := pt) (fz := false) rfl (by omega), List.drop_zero, List.take_of_length_le (by omega)]
          rfl
        | succ j =>
          replace e11 : E 11 = .int (j : Nat) := by rw [e11]; congr 1; omega
          have hdec : decide (((j : Nat) : Int) ≥ 0) = true := decide_eq_true (by omega)
          obtain ⟨l, a, g1, _, g3, g4, bl, tb, rfl, htb, hbl⟩ := LIs.at hS (i := j) (by omega)
          obtain ⟨l', g5, hE', _, hcap⟩ := hat j (by omega)
          rw [g1] at g5; cases g5
          have hgd : S.getD j [] = l := by rw [List.getD_eq_getElem?_getD, g1]; rfl
          have hbn := hbl.len
          rcases (choose_sh (k := j) (i := 0) (H0 := [.cells false (ints pt)]) (T0 := T) (t := tb) hbl (by omega) hE' hpl hpb (by omega) hn8 rfl).call rfl with ⟨v, s', ⟨rfl, rfl⟩, c33⟩ | ⟨v, s', hf, _⟩
          · rw [pointL, hgd]
            cases hch : chooseR l j pt with
            | none =>
              rw [hch] at c33
              simp only [chV] at c33
              simp only [↓wpre, wset, wcore, ne_eq, if_true, if_false, exists_eq_left', true_implies, false_implies, exists_const, exists_eq_right, binA, intA, loadA, storeA, pickC, setAt, mapO, argsE, X.isC, resA, oneA, unA, boundA, eqiA, eqsA, fillA, fillE, ASt.fz, strA, Nat.reduceEqDiff, Nat.reduceLT, ↓reduceIte, reduceCtorEq, Nat.reduceAdd, Nat.reduceLeDiff, Int.reduceBEq, Int.reduceBNe, Int.reduceLT, Int.reduceLE, Int.reduceGT, Int.reduceGE, Nat.reduceDiv, Nat.reduceMul, Nat.reduceBEq, Nat.reduceMod, Nat.reduceSub, List.length_append, List.append_assoc, app_get_len, app_get_add, app_set_len, app_set_add, e6, e10, e11, hdec, g4, hsall, c33]
              exact refV_nil
            | some x =>
              rw [hch] at c33
              simp only [chV] at c33
              have hxb : -9223372036854775807 ≤ x ∧ x ≤ 9223372036854775807 := chooseR_bnd hE' hpl hpb (by omega) hn8 hch
              obtain ⟨_, rfl, c34⟩ := (abs_ret hxb).call rfl (by simp [pvs_cons, pvs_nil, pv_v])
              by_cases hx : (x.natAbs : Int) > 16777216
              · have q1 : decide ((x.natAbs : Int) > 16777216) = true := decide_eq_true hx
                simp only [↓wpre, wset, wcore, ne_eq, if_true, if_false, exists_eq_left', true_implies, false_implies, exists_const, exists_eq_right, binA, intA, loadA, storeA, pickC, setAt, mapO, argsE, X.isC, resA, oneA, unA, boundA, eqiA, eqsA, fillA, fillE, ASt.fz, strA, Nat.reduceEqDiff, Nat.reduceLT, ↓reduceIte, reduceCtorEq, Nat.reduceAdd, Nat.reduceLeDiff, Int.reduceBEq, Int.reduceBNe, Int.reduceLT, Int.reduceLE, Int.reduceGT, Int.reduceGE, Nat.reduceDiv, Nat.reduceMul, Nat.reduceBEq, Nat.reduceMod, Nat.reduceSub, List.length_append, List.append_assoc, app_get_len, app_get_add, app_set_len, app_set_add, e6, e10, e11, hdec, g4, hsall, c33, c34, q1]
                rw [if_pos hx]; exact refV_nil
              · have q1 : decide ((x.natAbs : Int) > 16777216) = false := decide_eq_false hx
                have hkw : ((j : Int) < (n : Int)) = True := eq_true (by omega)
                have hwr3 : IntKind.i64.wrap ((j : Int) - 1) = (j : Int) - 1 := wrap_in (by unfold Eng.in64; omega)
                simp only [↓wpre, wset, wcore, ne_eq, if_true, if_false, exists_eq_left', true_implies, false_implies, exists_const, exists_eq_right, binA, intA, loadA, storeA, pickC, setAt, mapO, argsE, X.isC, resA, oneA, unA, boundA, eqiA, eqsA, fillA, fillE, ASt.fz, strA, Nat.reduceEqDiff, Nat.reduceLT, ↓reduceIte, reduceCtorEq, Nat.reduceAdd, Nat.reduceLeDiff, Int.reduceBEq, Int.reduceBNe, Int.reduceLT, Int.reduceLE, Int.reduceGT, Int.reduceGE, Nat.reduceDiv, Nat.reduceMul, Nat.reduceBEq, Nat.reduceMod, Nat.reduceSub, List.length_append, List.append_assoc, app_get_len, app_get_add, app_set_len, app_set_add, e6, e10, e11, hdec, g4, hsall, c33, c34, q1, hkw, hwr3, List.getElem?_cons_zero, List.set_cons_zero, Nat.mul_one]
                refine ⟨by rw [ints_len]; omega, EQ_in ⟨j, by omega, pt.set j x, e6, e10, rfl, by rw [← set_cells (by omega)], by rw [List.length_set, hpl], fun y hy => by
                  rcases List.mem_or_eq_of_mem_set hy with hy | rfl
                  · exact hpb y hy
                  · unfold limP; omega, by omega, by rw [if_neg hx]⟩⟩
          · exact hf.elim
  · have d1 : (rightR rows != 0) = true := by simpa using hr
    have e : pointR rows = ([], false, rightR rows) := by rw [pointR, if_pos hr]
    rw [e]
    simp only [pf18, ↓wpre, wset, wcore, ne_eq, if_true, if_false, exists_eq_left', true_implies, false_implies, exists_const, exists_eq_right, binA, intA, loadA, storeA, pickC, setAt, mapO, argsE, X.isC, resA, oneA, unA, boundA, eqiA, eqsA, fillA, fillE, ASt.fz, strA, Nat.reduceEqDiff, Nat.reduceLT, ↓reduceIte, reduceCtorEq, Nat.reduceAdd, Nat.reduceLeDiff, Int.reduceBEq, Int.reduceBNe, Int.reduceLT, Int.reduceLE, Int.reduceGT, Int.reduceGE, Nat.reduceDiv, Nat.reduceMul, Nat.reduceBEq, Nat.reduceMod, Nat.reduceSub, c19, d1]
    exact refV_nil
end Go.Proofs.Eng
