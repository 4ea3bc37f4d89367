/- Point: the program's. No conditions beyond those in the theorems. -/
import Derived.Test.YtglembbmmnakaaaDoorF19
import Derived.Test.YtglembbmmnakaaaDoorF22
import Derived.Test.YtglembbmmnakaaaDoorT3
set_option linter.all false
set_option linter.deprecated false
set_option linter.unnecessarySimpa false
set_option linter.unusedVariables false
set_option linter.unusedSimpArgs false
set_option linter.defProp false
namespace Go.Proofs.Eng
open Go Go.Proofs
set_option maxRecDepth 100000
set_option maxHeartbeats 16000000
theorem unw31_none {call : Oracle} {s : ASt} : unwindA call md pfs [(31, [.ptr 0 0, .ptr 1 0, .ptr 2 0])] none s = some (none, s) := by
  simp only [unwindA, pf31_is, pf31, rcOf, List.length_cons, List.length_nil, Nat.zero_add, Nat.reduceAdd, Nat.reduceSub, List.replicate_succ, List.replicate_zero, List.cons_append, List.nil_append, execR, stepsR, stepA, opA, evX, put, wantedA, List.getElem?_cons_zero, List.getElem?_cons_succ, List.set_cons_zero, List.set_cons_succ, Option.map_some, eqiA, X.isC, if_true, Bool.xor_true, Bool.not_true, resA, List.isEmpty_nil, Option.isSome_some, Bool.and_true, rcEnd]
theorem unw31_some {n : Int} {H : List AObj} {T : List Nat} {a b c : AV} : unwindA (run md pfs) md pfs [(31, [.ptr 0 0, .ptr 1 0, .ptr 2 0])] (some (.iface 28 (.int n))) ⟨.cells false [a] :: .cells false [b] :: .cells false [c] :: H, T⟩ = some (none, ⟨.cells false [.sl [] .nil] :: .cells false [.bool false] :: .cells false [.int n] :: H, T⟩) := by
  have h24 := callA_of (caught_ret (n := n)) rfl rfl
  simp only [unwindA, pf31_is, pf31, rcOf, List.length_cons, List.length_nil, Nat.zero_add, Nat.reduceAdd, Nat.reduceSub, List.replicate_succ, List.replicate_zero, List.cons_append, List.nil_append, execR, stepsR, stepA, opA, evX, put, wantedA, List.getElem?_cons_zero, List.getElem?_cons_succ, List.set_cons_zero, List.set_cons_succ, Option.map_some, eqiA, X.isC, if_true, Bool.xor_true, Bool.not_true, Bool.not_false, resA, List.isEmpty_nil, Option.isSome_some, Bool.and_true, rcEnd, mapO, h24, storeA, cells_sl, cells_v, setAt, List.take_zero, List.drop_zero, List.all_cons, List.all_nil, onec_v, onec_sl, and_self, Nat.le_refl, List.drop_succ_cons, List.append_nil, List.drop_nil, Bool.true_and, Bool.xor_false, Nat.add_zero, Bool.false_eq_true, if_false]
theorem set_cells {pt : List Int} {k : Nat} {x : Int} (h : k < pt.length) : AObj.cells false (List.take k (ints pt) ++ AV.v (Value.int IntKind.i64 x) :: List.drop (k + 1) (ints pt)) = .cells false (ints (pt.set k x)) := by
  rw [List.set_eq_take_append_cons_drop, if_pos h, ints_app, ← ints_take]
  simp [ints]
theorem sts_all : ∀ {ss : List (List Rw)} {sal : List AV}, LIs RwsIs ss sal → (sal.all fun x => x.cells.length == 1) = true
  | [], [], _ => rfl
  | _ :: _, [], h => by simp [LIs] at h
  | [], _ :: _, h => by simp [LIs] at h
  | x :: l, a :: al, h => by
    simp only [LIs] at h
    obtain ⟨⟨bl, t, rfl, _⟩, h2⟩ := h
    rw [List.all_cons, sts_all h2]; rfl
theorem pointR_of {rows : List (List Int)} (hr : rightR rows = 0) : pointR rows = match elimA rows with
    | .err e => ([], false, (e : Int))
    | .ref _ => ([], false, 0)
    | .sts S => pointL S ((rows.headD []).length - 1) (List.replicate ((rows.headD []).length - 1) 0) := by rw [pointR, if_neg (by simp [hr])]; cases elimA rows <;> rfl
theorem point_ret {rows : List (List Int)} {al : List AV} {t : Tl} (h : LIs RowIs rows al) (ht : t.pure = true) (hl : al.length ≤ lenB) : Out md pfs 17 [.sl al t] (RefV (pointR rows)) fun _ => False := by
  have hln := h.len
  have hp := rowsPure h
  have hall := rows_all h
  obtain ⟨_, rfl, c22⟩ := (check_ret (t := t) h hl).call rfl (by simp [pvs_cons, pvs_nil, pv_sl, ht, hp])
  refine out_of_LW pf17_is (Nat.le_of_ble_eq_true rfl) ?_
  by_cases hr : rightR rows = 0
  · have d1 : (rightR rows != 0) = false := by rw [hr]; rfl
    by_cases h0 : rows.length = 0
    · have d2 : ((al.length : Int) == 0) = true := by rw [beq_iff_eq]; omega
      have d3 : (rightR rows == 0) = true := by rw [hr]; rfl
      have e : pointR rows = ([], true, rightR rows) := by
        rw [List.length_eq_zero_iff.1 h0]; rfl
      simp only [pf17, ↓wpre, wset, wcore, ne_eq, if_true, if_false, exists_eq_left', true_implies, false_implies, exists_const, exists_eq_right, binA, intA, loadA, storeA, pickC, setAt, mapO, argsE, X.isC, resA, oneA, unA, boundA, eqiA, eqsA, fillA, fillE, ASt.fz, strA, Nat.reduceEqDiff, Nat.reduceLT, ↓reduceIte, reduceCtorEq, Nat.reduceAdd, Nat.reduceLeDiff, Int.reduceBEq, Int.reduceBNe, Int.reduceLT, Int.reduceLE, Int.reduceGT, Int.reduceGE, Nat.reduceDiv, Nat.reduceMul, Nat.reduceBEq, Nat.reduceMod, Nat.reduceSub, List.length_append, List.append_assoc, app_get_len, app_get_add, app_set_len, app_set_add, c22, d1, d2, d3, LW_ret, leave_nil]
      exact ⟨_, _, rfl, purify_pure rfl, by rw [e]; exact refV_nil⟩
    · have d2 : ((al.length : Int) == 0) = false := by rw [beq_eq_false_iff_ne]; omega
      have hR := right_of hr
      have hfew := hR.few
      have hel := (eliminate_ret h ht hR (by omega)).call2 rfl (by simp [pvs_cons, pvs_nil, pv_sl, ht, hp])
      have hpr := pointR_of hr
      rcases hel with ⟨v, hv, c25⟩ | ⟨v, ⟨n, hv, rfl⟩, c25⟩
      · cases hE : elimA rows with
        | err n => rw [hE] at hv; exact hv.elim
        | ref F =>
          rw [hE] at hv
          obtain ⟨s, u, rfl, hs, hu⟩ := hv
          rw [hE] at hpr
          rw [hpr]
          simp only [pf17, ↓wpre, wset, wcore, ne_eq, if_true, if_false, exists_eq_left', true_implies, false_implies, exists_const, exists_eq_right, binA, intA, loadA, storeA, pickC, setAt, mapO, argsE, X.isC, resA, oneA, unA, boundA, eqiA, eqsA, fillA, fillE, ASt.fz, strA, Nat.reduceEqDiff, Nat.reduceLT, ↓reduceIte, reduceCtorEq, Nat.reduceAdd, Nat.reduceLeDiff, Int.reduceBEq, Int.reduceBNe, Int.reduceLT, Int.reduceLE, Int.reduceGT, Int.reduceGE, Nat.reduceDiv, Nat.reduceMul, Nat.reduceBEq, Nat.reduceMod, Nat.reduceSub, List.length_append, List.append_assoc, app_get_len, app_get_add, app_set_len, app_set_add, c22, d1, d2, c25, LW_ret, leave_cons, unw31_none]
          exact ⟨_, _, rfl, purify_pure rfl, refV_nil⟩
        | sts S =>
          rw [hE] at hv
          obtain ⟨s, rfl, sal, ts, rfl, hts, hS⟩ := hv
          obtain ⟨n, hn⟩ : ∃ n, (rows.headD []).length = n + 1 := ⟨(rows.headD []).length - 1, by have := (hR.pos (by omega)).1; omega⟩
          have hn8 : n ≤ 8 := by have := (hR.pos (by omega)).2; omega
          rw [hn] at hR
          have hC := elimA_chain hn hE
          have hat := hC.at (iniL_E hR) (by rw [iniL, iniP_len]; omega)
          have hsall := sts_all hS
          have hslen := hS.len
          have hSl := hC.len
          obtain ⟨t0, k1, k2⟩ := head_of h (by omega)
          have hwr : IntKind.i64.wrap (((ints (rows.headD [])).length : Nat) - 1 : Int) = (n : Int) := by rw [ints_len, hn, wrap_in (by unfold Eng.in64; omega)]; omega
          have hm : (0 : Int) ≤ (n : Int) ∧ (n : Int) ≤ 1073741824 := by omega
          have htn : ((n : Nat) : Int).toNat = n := Int.toNat_natCast _
          have hwr2 : IntKind.i64.wrap ((n : Int) - 1) = (n : Int) - 1 := wrap_in (by unfold Eng.in64; omega)
          rw [hE, hn] at hpr
          simp only [Nat.add_sub_cancel] at hpr
          rw [hpr]
          simp only [pf17, ↓wpre, wset, wcore, ne_eq, if_true, if_false, exists_eq_left', true_implies, false_implies, exists_const, exists_eq_right, binA, intA, loadA, storeA, pickC, setAt, mapO, argsE, X.isC, resA, oneA, unA, boundA, eqiA, eqsA, fillA, fillE, ASt.fz, strA, Nat.reduceEqDiff, Nat.reduceLT, ↓reduceIte, reduceCtorEq, Nat.reduceAdd, Nat.reduceLeDiff, Int.reduceBEq, Int.reduceBNe, Int.reduceLT, Int.reduceLE, Int.reduceGT, Int.reduceGE, Nat.reduceDiv, Nat.reduceMul, Nat.reduceBEq, Nat.reduceMod, Nat.reduceSub, List.length_append, List.append_assoc, app_get_len, app_get_add, app_set_len, app_set_add, c22, d1, d2, c25, k1, hall, hwr, hm, htn, hwr2, flat_rep]
          refine W_loopE (fun k => k) (fun k E H T => ∃ pt Z, E 2 = .ptr 0 0 ∧ E 3 = .ptr 1 0 ∧ E 4 = .ptr 2 0 ∧ E 6 = .sl sal ts ∧ E 9 = .bs 3 0 n 1 false ∧ E 10 = .int ((k : Nat) - 1 : Int) ∧ H = .cells false [.sl [] .nil] :: .cells false [.bool false] :: .cells false [.int 0] :: .cells false (ints pt) :: Z ∧ pt.length = n ∧ Bnd limP pt ∧ k ≤ n ∧ pointL S k pt = pointL S n (List.replicate n 0)) ?_ n ⟨List.replicate n 0, [], rfl, rfl, rfl, rfl, rfl, rfl, rfl, by simp, fun y hy => by rw [List.eq_of_mem_replicate hy]; unfold limP; omega, Nat.le_refl _, rfl⟩
          rintro k E H T ⟨pt, Z, e2, e3, e4, e6, e9, e10, rfl, hpl, hpb, hk, hL⟩
          rw [← hL]
          cases k with
          | zero =>
            replace e10 : E 10 = .int (-1) := by rw [e10]; rfl
            have hdec : decide ((-1 : Int) ≥ 0) = false := rfl
            simp only [↓wpre, wset, wcore, ne_eq, if_true, if_false, exists_eq_left', true_implies, false_implies, exists_const, exists_eq_right, binA, intA, loadA, storeA, pickC, setAt, mapO, argsE, X.isC, resA, oneA, unA, boundA, eqiA, eqsA, fillA, fillE, ASt.fz, strA, Nat.reduceEqDiff, Nat.reduceLT, ↓reduceIte, reduceCtorEq, Nat.reduceAdd, Nat.reduceLeDiff, Int.reduceBEq, Int.reduceBNe, Int.reduceLT, Int.reduceLE, Int.reduceGT, Int.reduceGE, Nat.reduceDiv, Nat.reduceMul, Nat.reduceBEq, Nat.reduceMod, Nat.reduceSub, List.length_append, List.append_assoc, app_get_len, app_get_add, app_set_len, app_set_add, e2, e3, e4, e6, e9, e10, hdec, List.getElem?_cons_zero, List.getElem?_cons_succ, List.set_cons_zero, List.set_cons_succ, LW_ret, leave_cons, unw31_none]
            refine ⟨_, _, rfl, ?_, .none, rfl, rfl⟩
            rw [pz_tup]
            simp only [mapO]
            rw [pz_ints (n := 17) (L := pt) (fz := false) rfl (by omega), List.drop_zero, List.take_of_length_le (by omega)]
            rfl
          | succ j =>
            replace e10 : E 10 = .int (j : Nat) := by rw [e10]; congr 1; omega
            have hdec : decide (((j : Nat) : Int) ≥ 0) = true := decide_eq_true (by omega)
            obtain ⟨l, a, g1, _, g3, g4, bl, tb, rfl, htb, hbl⟩ := LIs.at hS (i := j) (by omega)
            obtain ⟨l', g5, hE', _, hcap⟩ := hat j (by omega)
            rw [g1] at g5; cases g5
            have hgd : S.getD j [] = l := by rw [List.getD_eq_getElem?_getD, g1]; rfl
            have hbn := hbl.len
            rcases (value_sh (k := j) (i := 3) (H0 := .cells false [.sl [] .nil] :: .cells false [.bool false] :: .cells false [.int 0] :: .cells false (ints pt) :: Z) (T0 := T) (t := tb) hbl (by omega) hE' hpl hpb (by omega) hn8 rfl).call rfl with ⟨v, s', ⟨rfl, Z', rfl⟩, c32⟩ | ⟨v, s', hf, _⟩
            · simp only [List.cons_append] at c32
              rw [pointL, hgd]
              cases hch : chooseR l j pt with
              | none =>
                rw [hch] at c32
                simp only [chV] at c32
                simp only [↓wpre, wset, wcore, ne_eq, if_true, if_false, exists_eq_left', true_implies, false_implies, exists_const, exists_eq_right, binA, intA, loadA, storeA, pickC, setAt, mapO, argsE, X.isC, resA, oneA, unA, boundA, eqiA, eqsA, fillA, fillE, ASt.fz, strA, Nat.reduceEqDiff, Nat.reduceLT, ↓reduceIte, reduceCtorEq, Nat.reduceAdd, Nat.reduceLeDiff, Int.reduceBEq, Int.reduceBNe, Int.reduceLT, Int.reduceLE, Int.reduceGT, Int.reduceGE, Nat.reduceDiv, Nat.reduceMul, Nat.reduceBEq, Nat.reduceMod, Nat.reduceSub, List.length_append, List.append_assoc, app_get_len, app_get_add, app_set_len, app_set_add, e2, e3, e4, e6, e9, e10, hdec, g4, hsall, c32, List.getElem?_cons_zero, List.getElem?_cons_succ, List.set_cons_zero, List.set_cons_succ, LW_ret, leave_cons, unw31_none]
                exact ⟨_, _, rfl, purify_pure rfl, refV_nil⟩
              | some x =>
                rw [hch] at c32
                simp only [chV] at c32
                by_cases hx : (x.natAbs : Int) > 16777216
                · by_cases h1 : x > 16777216
                  · have q1 : decide (x > 16777216) = true := decide_eq_true h1
                    simp only [↓wpre, wset, wcore, ne_eq, if_true, if_false, exists_eq_left', true_implies, false_implies, exists_const, exists_eq_right, binA, intA, loadA, storeA, pickC, setAt, mapO, argsE, X.isC, resA, oneA, unA, boundA, eqiA, eqsA, fillA, fillE, ASt.fz, strA, Nat.reduceEqDiff, Nat.reduceLT, ↓reduceIte, reduceCtorEq, Nat.reduceAdd, Nat.reduceLeDiff, Int.reduceBEq, Int.reduceBNe, Int.reduceLT, Int.reduceLE, Int.reduceGT, Int.reduceGE, Nat.reduceDiv, Nat.reduceMul, Nat.reduceBEq, Nat.reduceMod, Nat.reduceSub, List.length_append, List.append_assoc, app_get_len, app_get_add, app_set_len, app_set_add, e2, e3, e4, e6, e9, e10, hdec, g4, hsall, c32, q1, List.getElem?_cons_zero, List.getElem?_cons_succ, List.set_cons_zero, List.set_cons_succ, LW_ret, leave_cons, unw31_none]
                    exact ⟨_, _, rfl, purify_pure rfl, by rw [if_pos hx]; exact refV_nil⟩
                  · have q1 : decide (x > 16777216) = false := decide_eq_false h1
                    have q2 : decide (x < -16777216) = true := decide_eq_true (by omega)
                    simp only [↓wpre, wset, wcore, ne_eq, if_true, if_false, exists_eq_left', true_implies, false_implies, exists_const, exists_eq_right, binA, intA, loadA, storeA, pickC, setAt, mapO, argsE, X.isC, resA, oneA, unA, boundA, eqiA, eqsA, fillA, fillE, ASt.fz, strA, Nat.reduceEqDiff, Nat.reduceLT, ↓reduceIte, reduceCtorEq, Nat.reduceAdd, Nat.reduceLeDiff, Int.reduceBEq, Int.reduceBNe, Int.reduceLT, Int.reduceLE, Int.reduceGT, Int.reduceGE, Nat.reduceDiv, Nat.reduceMul, Nat.reduceBEq, Nat.reduceMod, Nat.reduceSub, List.length_append, List.append_assoc, app_get_len, app_get_add, app_set_len, app_set_add, e2, e3, e4, e6, e9, e10, hdec, g4, hsall, c32, q1, q2, List.getElem?_cons_zero, List.getElem?_cons_succ, List.set_cons_zero, List.set_cons_succ, LW_ret, leave_cons, unw31_none]
                    exact ⟨_, _, rfl, purify_pure rfl, by rw [if_pos hx]; exact refV_nil⟩
                · have q1 : decide (x > 16777216) = false := decide_eq_false (by omega)
                  have q2 : decide (x < -16777216) = false := decide_eq_false (by omega)
                  have hkw : ((j : Int) < (n : Int)) = True := eq_true (by omega)
                  have hwr3 : IntKind.i64.wrap ((j : Int) - 1) = (j : Int) - 1 := wrap_in (by unfold Eng.in64; omega)
                  simp only [↓wpre, wset, wcore, ne_eq, if_true, if_false, exists_eq_left', true_implies, false_implies, exists_const, exists_eq_right, binA, intA, loadA, storeA, pickC, setAt, mapO, argsE, X.isC, resA, oneA, unA, boundA, eqiA, eqsA, fillA, fillE, ASt.fz, strA, Nat.reduceEqDiff, Nat.reduceLT, ↓reduceIte, reduceCtorEq, Nat.reduceAdd, Nat.reduceLeDiff, Int.reduceBEq, Int.reduceBNe, Int.reduceLT, Int.reduceLE, Int.reduceGT, Int.reduceGE, Nat.reduceDiv, Nat.reduceMul, Nat.reduceBEq, Nat.reduceMod, Nat.reduceSub, List.length_append, List.append_assoc, app_get_len, app_get_add, app_set_len, app_set_add, e2, e3, e4, e6, e9, e10, hdec, g4, hsall, c32, q1, q2, hkw, hwr3, List.getElem?_cons_zero, List.getElem?_cons_succ, List.set_cons_zero, List.set_cons_succ, Nat.mul_one]
                  refine ⟨by rw [ints_len]; omega, EQ_in ⟨j, by omega, pt.set j x, Z ++ Z', e2, e3, e4, e6, e9, rfl, by rw [← set_cells (by omega)], by rw [List.length_set, hpl], fun y hy => by
                    rcases List.mem_or_eq_of_mem_set hy with hy | rfl
                    · exact hpb y hy
                    · unfold limP; omega, by omega, by rw [if_neg hx]⟩⟩
            · exact hf.elim
      · rw [hv] at hpr
        rw [hpr]
        simp only [pf17, ↓wpre, wset, wcore, ne_eq, if_true, if_false, exists_eq_left', true_implies, false_implies, exists_const, exists_eq_right, binA, intA, loadA, storeA, pickC, setAt, mapO, argsE, X.isC, resA, oneA, unA, boundA, eqiA, eqsA, fillA, fillE, ASt.fz, strA, Nat.reduceEqDiff, Nat.reduceLT, ↓reduceIte, reduceCtorEq, Nat.reduceAdd, Nat.reduceLeDiff, Int.reduceBEq, Int.reduceBNe, Int.reduceLT, Int.reduceLE, Int.reduceGT, Int.reduceGE, Nat.reduceDiv, Nat.reduceMul, Nat.reduceBEq, Nat.reduceMod, Nat.reduceSub, List.length_append, List.append_assoc, app_get_len, app_get_add, app_set_len, app_set_add, c22, d1, d2, c25, LW_pan, leave_cons, unw31_some]
        exact ⟨_, _, rfl, purify_pure rfl, refV_nil⟩
  · have d1 : (rightR rows != 0) = true := by simpa using hr
    have d3 : (rightR rows == 0) = false := by simpa using hr
    have e : pointR rows = ([], false, rightR rows) := by rw [pointR, if_pos hr]
    simp only [pf17, ↓wpre, wset, wcore, ne_eq, if_true, if_false, exists_eq_left', true_implies, false_implies, exists_const, exists_eq_right, binA, intA, loadA, storeA, pickC, setAt, mapO, argsE, X.isC, resA, oneA, unA, boundA, eqiA, eqsA, fillA, fillE, ASt.fz, strA, Nat.reduceEqDiff, Nat.reduceLT, ↓reduceIte, reduceCtorEq, Nat.reduceAdd, Nat.reduceLeDiff, Int.reduceBEq, Int.reduceBNe, Int.reduceLT, Int.reduceLE, Int.reduceGT, Int.reduceGE, Nat.reduceDiv, Nat.reduceMul, Nat.reduceBEq, Nat.reduceMod, Nat.reduceSub, List.length_append, List.append_assoc, app_get_len, app_get_add, app_set_len, app_set_add, c22, d1, d3, LW_ret, leave_nil]
    exact ⟨_, _, rfl, purify_pure rfl, by rw [e]; exact refV_nil⟩
end Go.Proofs.Eng
