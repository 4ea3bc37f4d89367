/- The reference's Check. No conditions beyond those in the theorems. -/
import Derived.Test.YtglembbmmnakaaaDoorF4
set_option linter.all false
set_option linter.deprecated false
set_option linter.unnecessarySimpa false
set_option linter.unusedVariables false
set_option linter.unusedSimpArgs false
set_option linter.defProp false
namespace Go.Proofs.Eng
open Go Go.Proofs
set_option maxRecDepth 100000
set_option maxHeartbeats 16000000
theorem checkR_f {rows : List (List Int)} {fs : List Int} (h : rightR rows ≠ 0 ∨ rows.length = 0 ∨ fs.length ≠ rows.length) : checkR rows fs = false := by
  unfold checkR
  rcases h with h | h | h
  · rw [decide_eq_false h]; rfl
  · rw [decide_eq_false (p := rows.length ≠ 0) (by omega)]; simp
  · rw [decide_eq_false h]; simp
theorem checkR_o {rows : List (List Int)} {fs : List Int} {f : Int} {j : Nat} (h : fs[j]? = some f) (hf : okF f = false) : checkR rows fs = false := by
  unfold checkR
  have : fs.all okF = false := by
    rw [List.all_eq_false]
    exact ⟨f, List.mem_of_getElem? h, by rw [hf]; exact Bool.false_ne_true⟩
  rw [this]; simp
theorem okF_0 {f : Int} (h : f < 0) : okF f = false := by unfold okF; rw [decide_eq_false (by omega)]; rfl
theorem okF_1 {f : Int} (h : f > 1073741824) : okF f = false := by unfold okF; rw [decide_eq_false (p := f ≤ 1073741824) (by omega), Bool.and_false]
theorem checkR_t {rows : List (List Int)} {fs : List Int} (h : rightR rows = 0) (h0 : rows.length ≠ 0) (hl : fs.length = rows.length) (ho : ∀ f ∈ fs, okF f = true) : checkR rows fs = refS (tot rows fs (List.replicate (rows.headD []).length 0)) := by
  unfold checkR
  rw [decide_eq_true h, decide_eq_true h0, decide_eq_true hl, List.all_eq_true.2 ho]
  simp
theorem rcheck_ret {rows : List (List Int)} {al : List AV} {t u : Tl} {fs : List Int} (h : LIs RowIs rows al) (ht : t.pure = true) (hl : al.length ≤ lenB) (hu : u.pure = true) (hfl : fs.length ≤ lenB) : Out md pfs 16 [.sl al t, .sl (ints fs) u] (· = .bool (checkR rows fs)) fun _ => False := by
  have hlen := h.len
  have hp := rowsPure h
  have hall := rows_all h
  obtain ⟨_, rfl, c19⟩ := (right_ret (t := t) h hl).call rfl (by simp [pvs_cons, pvs_nil, pv_sl, ht, hp])
  refine out_of pf16_is (Nat.le_of_ble_eq_true rfl) ?_
  by_cases hr : rightR rows = 0
  · have d1 : ((rightR rows) != 0) = false := by rw [hr]; rfl
    by_cases h0 : rows.length = 0
    · have d2 : ((al.length : Int) == 0) = true := by rw [beq_iff_eq]; omega
      simp only [pf16, ↓wpre, wset, wcore, ne_eq, if_true, if_false, exists_eq_left', true_implies, false_implies, exists_const, exists_eq_right, binA, intA, loadA, storeA, pickC, setAt, mapO, argsE, X.isC, resA, oneA, unA, boundA, eqiA, eqsA, fillA, fillE, ASt.fz, strA, Nat.reduceEqDiff, Nat.reduceLT, ↓reduceIte, reduceCtorEq, Nat.reduceAdd, Nat.reduceLeDiff, Int.reduceBEq, Int.reduceBNe, Int.reduceLT, Int.reduceLE, Int.reduceGT, Int.reduceGE, Nat.reduceDiv, Nat.reduceMul, Nat.reduceBEq, Nat.reduceMod, Nat.reduceSub, c19, d1, d2]
      rw [checkR_f (.inr (.inl h0))]
    · have d2 : ((al.length : Int) == 0) = false := by rw [beq_eq_false_iff_ne]; omega
      by_cases hfs : fs.length = rows.length
      · have d3 : ((((ints fs).length : Nat) : Int) != (al.length : Int)) = false := by rw [ints_len, bne_eq_false_iff_eq]; omega
        obtain ⟨t0, k1, k2⟩ := head_of h (by omega)
        have hRS := right_of hr
        obtain ⟨w1, w2⟩ := hRS.pos (by omega)
        have hfew := hRS.few
        generalize hw : (rows.headD []).length = w at *
        have hgetf : ∀ j, j < rows.length → ∃ f, fs[j]? = some f := fun j hj => ⟨_, List.getElem?_eq_getElem (by omega)⟩
        have hfacts := tot_facts hRS hgetf
        have hm : (0 : Int) ≤ (((ints (rows.headD [])).length : Nat) : Int) ∧ (((ints (rows.headD [])).length : Nat) : Int) ≤ 1073741824 := by rw [ints_len, hw]; omega
        have hrep : flat (List.replicate w (AV.v (.int .i64 0))) = ints (List.replicate w 0) := by
          have := flat_ints (List.replicate w 0)
          simpa [ints] using this
        have htn : (((ints (rows.headD [])).length : Nat) : Int).toNat = w := by rw [ints_len, hw, Int.toNat_natCast]
        simp only [pf16, ↓wpre, wset, wcore, ne_eq, if_true, if_false, exists_eq_left', true_implies, false_implies, exists_const, exists_eq_right, binA, intA, loadA, storeA, pickC, setAt, mapO, argsE, X.isC, resA, oneA, unA, boundA, eqiA, eqsA, fillA, fillE, ASt.fz, strA, Nat.reduceEqDiff, Nat.reduceLT, ↓reduceIte, reduceCtorEq, Nat.reduceAdd, Nat.reduceLeDiff, Int.reduceBEq, Int.reduceBNe, Int.reduceLT, Int.reduceLE, Int.reduceGT, Int.reduceGE, Nat.reduceDiv, Nat.reduceMul, Nat.reduceBEq, Nat.reduceMod, Nat.reduceSub, c19, d1, d2, d3, k1, hall, hm, hrep, htn]
        refine W_loopE (fun j => al.length - j) (fun j E H T => E 0 = .sl al t ∧ E 1 = .sl (ints fs) u ∧ E 6 = .int (j : Nat) ∧ j ≤ al.length ∧ (∀ f ∈ fs.take j, okF f = true) ∧ (∃ t', purify 20 ⟨H, T⟩ (E 5) = some (.sl (ints (tot (rows.take j) (fs.take j) (List.replicate w 0))) t')) ∧ (0 < j → ∃ t', E 5 = .sl (ints (tot (rows.take j) (fs.take j) (List.replicate w 0))) t')) ?_ 0 ⟨rfl, rfl, rfl, Nat.zero_le _, by simp, ⟨.none, by show purify 20 _ (AV.bs 0 0 w 1 false) = _; rw [pz_ints (n := 18) (L := List.replicate w 0) (fz := false) rfl (by simp)]; simp [tot]⟩, fun h => by omega⟩
        rintro j E H T ⟨e0, e1, e6, hj, hok, ⟨t', hpz⟩, hsl⟩
        obtain ⟨f1, f2⟩ := hfacts j (by omega) hok
        have haf := ints_all fs
        rcases Nat.lt_or_ge j al.length with hlt | hge
        · have hdec : decide ((j : Int) < al.length) = true := by simpa using hlt
          obtain ⟨x, tx, g1, g2, g3, g4, g5, g6⟩ := row_get h hlt
          obtain ⟨f, q1, _, q3⟩ := ints_get (show j < fs.length by omega)
          cases c1 : decide (f < 0)
          · cases c2 : decide (f > 1073741824)
            · have hof : okF f = true := by
                simp only [decide_eq_false_iff_not] at c1 c2
                rw [okF, decide_eq_true (by omega), decide_eq_true (by omega)]; rfl
              simp only [decide_eq_false_iff_not] at c1 c2
              have hx := hRS.bnd x g2
              have hxl := hRS.len x g2
              have hm30 : mapO (purify 20 ⟨H, T⟩) [E 5, .sl (ints x) tx, .int 1, .int f] = some [.sl (ints (tot (rows.take j) (fs.take j) (List.replicate w 0))) t', .sl (ints x) tx, .int 1, .int f] := by
                simp only [mapO, hpz, purify20 (show pureAV (.sl (ints x) tx) = true by simp [pv_sl, g4, ints_pure]), purify20 (pv_v)]
              obtain ⟨_, ⟨t2, rfl, ht2⟩, c30⟩ := (rsum_ret (t := t') (u := tx) (p := 1) (q := f) (a := tot (rows.take j) (fs.take j) (List.replicate w 0)) (b := x) (by rw [f1, hxl]) (by omega) (fun n hn m hm => by
                have h1 := f2 n hn
                have h2 := hx m hm
                have h3 := Int.mul_le_mul_of_nonneg_left h2.1 (show 0 ≤ f by omega)
                have h4 := Int.mul_le_mul_of_nonneg_left h2.2 (show 0 ≤ f by omega)
                rw [Int.mul_neg] at h3
                unfold in64; omega)).callP rfl hm30
              generalize [E 5, AV.sl (ints x) tx, .int 1, .int f].foldl (frz 20) ⟨H, T⟩ = s2 at c30
              obtain ⟨H2, T2⟩ := s2
              have c1 : decide (f < 0) = false := by simp only [decide_eq_false_iff_not]; omega
              have c2 : decide (f > 1073741824) = false := by simp only [decide_eq_false_iff_not]; omega
              simp only [↓wpre, wset, wcore, ne_eq, if_true, if_false, exists_eq_left', true_implies, false_implies, exists_const, exists_eq_right, binA, intA, loadA, storeA, pickC, setAt, mapO, argsE, X.isC, resA, oneA, unA, boundA, eqiA, eqsA, fillA, fillE, ASt.fz, strA, Nat.reduceEqDiff, Nat.reduceLT, ↓reduceIte, reduceCtorEq, Nat.reduceAdd, Nat.reduceLeDiff, Int.reduceBEq, Int.reduceBNe, Int.reduceLT, Int.reduceLE, Int.reduceGT, Int.reduceGE, Nat.reduceDiv, Nat.reduceMul, Nat.reduceBEq, Nat.reduceMod, Nat.reduceSub, e0, e1, e6, hdec, g3, hall, q3, haf, c1, c2, c30]
              have htt := tot_take (acc := List.replicate w 0) g1 q1
              exact EQ_in ⟨j + 1, by omega, e0, e1, next_ixv (by omega), by omega, fun g hg => by
                have : fs.take (j + 1) = fs.take j ++ [f] := by rw [List.take_add_one, q1]; rfl
                rw [this, List.mem_append, List.mem_singleton] at hg
                rcases hg with hg | rfl
                · exact hok g hg
                · exact hof, ⟨t2, by rw [htt]; exact purify20 (show pureAV (.sl (ints (addM 1 f (tot (rows.take j) (fs.take j) (List.replicate w 0)) x)) t2) = true by simp [pv_sl, ht2, ints_pure])⟩, fun _ => ⟨t2, by rw [htt]; rfl⟩⟩
            · simp only [↓wpre, wset, wcore, ne_eq, if_true, if_false, exists_eq_left', true_implies, false_implies, exists_const, exists_eq_right, binA, intA, loadA, storeA, pickC, setAt, mapO, argsE, X.isC, resA, oneA, unA, boundA, eqiA, eqsA, fillA, fillE, ASt.fz, strA, Nat.reduceEqDiff, Nat.reduceLT, ↓reduceIte, reduceCtorEq, Nat.reduceAdd, Nat.reduceLeDiff, Int.reduceBEq, Int.reduceBNe, Int.reduceLT, Int.reduceLE, Int.reduceGT, Int.reduceGE, Nat.reduceDiv, Nat.reduceMul, Nat.reduceBEq, Nat.reduceMod, Nat.reduceSub, e0, e1, e6, hdec, q3, haf, c1, c2]
              rw [checkR_o q1 (okF_1 (of_decide_eq_true c2))]
          · simp only [↓wpre, wset, wcore, ne_eq, if_true, if_false, exists_eq_left', true_implies, false_implies, exists_const, exists_eq_right, binA, intA, loadA, storeA, pickC, setAt, mapO, argsE, X.isC, resA, oneA, unA, boundA, eqiA, eqsA, fillA, fillE, ASt.fz, strA, Nat.reduceEqDiff, Nat.reduceLT, ↓reduceIte, reduceCtorEq, Nat.reduceAdd, Nat.reduceLeDiff, Int.reduceBEq, Int.reduceBNe, Int.reduceLT, Int.reduceLE, Int.reduceGT, Int.reduceGE, Nat.reduceDiv, Nat.reduceMul, Nat.reduceBEq, Nat.reduceMod, Nat.reduceSub, e0, e1, e6, hdec, q3, haf, c1]
            rw [checkR_o q1 (okF_0 (of_decide_eq_true c1))]
        · have hdec : decide ((j : Int) < al.length) = false := by simpa using hge
          obtain ⟨t3, e5⟩ := hsl (by omega)
          rw [List.take_of_length_le (show rows.length ≤ j by omega), List.take_of_length_le (show fs.length ≤ j by omega)] at e5 f1
          rw [List.take_of_length_le (show fs.length ≤ j by omega)] at hok
          have hch := checkR_t hr h0 hfs hok
          rw [hw] at hch
          generalize tot rows fs (List.replicate w 0) = S at *
          have hx1 : IntKind.i64.wrap (((ints S).length : Nat) - 1 : Int) = ((w - 1 : Nat) : Int) := by rw [ints_len, f1, wrap_in (by unfold in64; omega)]; omega
          have hSa := ints_all S
          simp only [↓wpre, wset, wcore, ne_eq, if_true, if_false, exists_eq_left', true_implies, false_implies, exists_const, exists_eq_right, binA, intA, loadA, storeA, pickC, setAt, mapO, argsE, X.isC, resA, oneA, unA, boundA, eqiA, eqsA, fillA, fillE, ASt.fz, strA, Nat.reduceEqDiff, Nat.reduceLT, ↓reduceIte, reduceCtorEq, Nat.reduceAdd, Nat.reduceLeDiff, Int.reduceBEq, Int.reduceBNe, Int.reduceLT, Int.reduceLE, Int.reduceGT, Int.reduceGE, Nat.reduceDiv, Nat.reduceMul, Nat.reduceBEq, Nat.reduceMod, Nat.reduceSub, e0, e1, e5, e6, hdec]
          refine W_loopE (fun k => w - 1 - k) (fun k E H T => E 5 = .sl (ints S) t3 ∧ E 7 = .int (k : Nat) ∧ k ≤ w - 1 ∧ (S.take k).all (fun n => decide (n = 0)) = true) ?_ 0 ⟨e5, rfl, Nat.zero_le _, by simp⟩
          clear e0 e1 e5 e6 hpz hdec
          rintro k E H T ⟨e5, e7, hk, hz⟩
          rcases Nat.lt_or_ge k (w - 1) with hkl | hkg
          · have hdec : decide ((k : Int) < ((w - 1 : Nat) : Int)) = true := by simpa using hkl
            obtain ⟨n, n1, _, n3⟩ := ints_get (show k < S.length by omega)
            by_cases hn : n = 0
            · have d7 : (n != 0) = false := by simp [hn]
              simp only [↓wpre, wset, wcore, ne_eq, if_true, if_false, exists_eq_left', true_implies, false_implies, exists_const, exists_eq_right, binA, intA, loadA, storeA, pickC, setAt, mapO, argsE, X.isC, resA, oneA, unA, boundA, eqiA, eqsA, fillA, fillE, ASt.fz, strA, Nat.reduceEqDiff, Nat.reduceLT, ↓reduceIte, reduceCtorEq, Nat.reduceAdd, Nat.reduceLeDiff, Int.reduceBEq, Int.reduceBNe, Int.reduceLT, Int.reduceLE, Int.reduceGT, Int.reduceGE, Nat.reduceDiv, Nat.reduceMul, Nat.reduceBEq, Nat.reduceMod, Nat.reduceSub, e5, e7, hdec, hx1, hSa, n3, d7]
              exact EQ_in ⟨k + 1, by omega, e5, next_ixv (by unfold lenB; omega), by omega, by
                have : S.take (k + 1) = S.take k ++ [n] := by rw [List.take_add_one, n1]; rfl
                rw [this, List.all_append, hz]; simp [hn]⟩
            · have d7 : (n != 0) = true := by simp [hn]
              simp only [↓wpre, wset, wcore, ne_eq, if_true, if_false, exists_eq_left', true_implies, false_implies, exists_const, exists_eq_right, binA, intA, loadA, storeA, pickC, setAt, mapO, argsE, X.isC, resA, oneA, unA, boundA, eqiA, eqsA, fillA, fillE, ASt.fz, strA, Nat.reduceEqDiff, Nat.reduceLT, ↓reduceIte, reduceCtorEq, Nat.reduceAdd, Nat.reduceLeDiff, Int.reduceBEq, Int.reduceBNe, Int.reduceLT, Int.reduceLE, Int.reduceGT, Int.reduceGE, Nat.reduceDiv, Nat.reduceMul, Nat.reduceBEq, Nat.reduceMod, Nat.reduceSub, e5, e7, hdec, hx1, hSa, n3, d7]
              rw [hch, refS, f1]
              have : (S.take (w - 1)).all (fun n => decide (n = 0)) = false := by
                rw [List.all_eq_false]
                exact ⟨n, List.mem_of_getElem? (show (S.take (w - 1))[k]? = some n by rw [List.getElem?_take, if_pos hkl]; exact n1), by simp [hn]⟩
              rw [this]; rfl
          · have hdec : decide ((k : Int) < ((w - 1 : Nat) : Int)) = false := by simpa using hkg
            obtain ⟨n, n1, _, n3⟩ := ints_get (show w - 1 < S.length by omega)
            simp only [↓wpre, wset, wcore, ne_eq, if_true, if_false, exists_eq_left', true_implies, false_implies, exists_const, exists_eq_right, binA, intA, loadA, storeA, pickC, setAt, mapO, argsE, X.isC, resA, oneA, unA, boundA, eqiA, eqsA, fillA, fillE, ASt.fz, strA, Nat.reduceEqDiff, Nat.reduceLT, ↓reduceIte, reduceCtorEq, Nat.reduceAdd, Nat.reduceLeDiff, Int.reduceBEq, Int.reduceBNe, Int.reduceLT, Int.reduceLE, Int.reduceGT, Int.reduceGE, Nat.reduceDiv, Nat.reduceMul, Nat.reduceBEq, Nat.reduceMod, Nat.reduceSub, e5, e7, hdec, hx1, hSa, n3]
            obtain rfl : k = w - 1 := by omega
            rw [hch, refS, f1, hz, List.getD_eq_getElem?_getD, n1]; rfl
      · have d3 : ((((ints fs).length : Nat) : Int) != (al.length : Int)) = true := by rw [ints_len, bne_iff_ne]; omega
        simp only [pf16, ↓wpre, wset, wcore, ne_eq, if_true, if_false, exists_eq_left', true_implies, false_implies, exists_const, exists_eq_right, binA, intA, loadA, storeA, pickC, setAt, mapO, argsE, X.isC, resA, oneA, unA, boundA, eqiA, eqsA, fillA, fillE, ASt.fz, strA, Nat.reduceEqDiff, Nat.reduceLT, ↓reduceIte, reduceCtorEq, Nat.reduceAdd, Nat.reduceLeDiff, Int.reduceBEq, Int.reduceBNe, Int.reduceLT, Int.reduceLE, Int.reduceGT, Int.reduceGE, Nat.reduceDiv, Nat.reduceMul, Nat.reduceBEq, Nat.reduceMod, Nat.reduceSub, c19, d1, d2, d3]
        rw [checkR_f (.inr (.inr hfs))]
  · have d1 : ((rightR rows) != 0) = true := by simp [hr]
    simp only [pf16, ↓wpre, wset, wcore, ne_eq, if_true, if_false, exists_eq_left', true_implies, false_implies, exists_const, exists_eq_right, binA, intA, loadA, storeA, pickC, setAt, mapO, argsE, X.isC, resA, oneA, unA, boundA, eqiA, eqsA, fillA, fillE, ASt.fz, strA, Nat.reduceEqDiff, Nat.reduceLT, ↓reduceIte, reduceCtorEq, Nat.reduceAdd, Nat.reduceLeDiff, Int.reduceBEq, Int.reduceBNe, Int.reduceLT, Int.reduceLE, Int.reduceGT, Int.reduceGE, Nat.reduceDiv, Nat.reduceMul, Nat.reduceBEq, Nat.reduceMod, Nat.reduceSub, c19, d1]
    rw [checkR_f (.inl hr)]
end Go.Proofs.Eng
