/- The program's Check. No conditions beyond those in the theorems. -/
import Derived.Test.YtglembbmmnakaaaDoorF5
set_option linter.all false
set_option linter.deprecated false
set_option linter.unnecessarySimpa false
set_option linter.unusedVariables false
set_option linter.unusedSimpArgs false
set_option linter.defProp false
namespace Go.Proofs.Eng
open Go Go.Proofs
set_option maxRecDepth 100000
set_option maxHeartbeats 16000000
/-- A list that has been turned up to a place. -/
def mid (k : Nat) (a b : List Int) : List Int := a.take k ++ b.drop k
theorem mid_len {k : Nat} {a b : List Int} (h : a.length = b.length) : (mid k a b).length = b.length := by simp only [mid, List.length_append, List.length_take, List.length_drop]; omega
theorem mid_get {k : Nat} {a b : List Int} (h : a.length = b.length) (hk : k < b.length) : (mid k a b)[k]? = b[k]? := by
  unfold mid
  rw [List.getElem?_append_right (by rw [List.length_take]; omega), List.length_take, Nat.min_eq_left (by omega), Nat.sub_self, List.getElem?_drop, Nat.add_zero]
theorem mid_set {k : Nat} {a b : List Int} {v : Int} (h : a.length = b.length) (hk : k < b.length) (hv : a[k]? = some v) : (mid k a b).take k ++ v :: (mid k a b).drop (k + 1) = mid (k + 1) a b := by
  unfold mid
  have h1 : (a.take k).length = k := by rw [List.length_take]; omega
  rw [List.take_append_of_le_length (by omega), List.take_of_length_le (by omega), List.drop_append, List.drop_of_length_le (by omega), h1, List.nil_append, List.drop_drop, List.take_add_one, hv]
  simp only [Option.toList_some, List.append_assoc, List.singleton_append]
  rw [show k + (k + 1 - k) = k + 1 by omega]
theorem mid_full {a b : List Int} (h : a.length = b.length) : mid b.length a b = a := by unfold mid; rw [← h, List.take_length, h, List.drop_length, List.append_nil]
theorem drop_get {l : List Int} {k : Nat} {n : Int} (h : l[k]? = some n) : (ints l).drop k = .int n :: (ints l).drop (k + 1) := by
  have hk := (List.getElem?_eq_some_iff.1 h).1
  rw [List.drop_eq_getElem_cons (by rw [ints_len]; exact hk)]
  congr 1
  have := (List.getElem?_eq_some_iff.1 h).2
  simp [ints, this]
theorem gcdF_0 : ∀ {l : List Int} {g : Nat}, gcdF g l = 0 ↔ g = 0 ∧ ∀ n ∈ l, n = 0
  | [], g => by simp [gcdF]
  | n :: l, g => by
    rw [gcdF, gcdF_0 (l := l), Nat.gcd_eq_zero_iff]
    simp only [List.mem_cons, forall_eq_or_imp]
    constructor
    · rintro ⟨⟨h1, h2⟩, h3⟩; exact ⟨h1, by omega, h3⟩
    · rintro ⟨h1, h2, h3⟩; exact ⟨⟨h1, by omega⟩, h3⟩
theorem gcdL_0 {l : List Int} : gcdL l = 0 ↔ ∀ n ∈ l, n = 0 := by unfold gcdL; rw [gcdF_0]; simp
theorem check_all {l : List Int} : (((gcdL l : Nat) : Int) == 0) = l.all fun n => decide (n = 0) := by
  rw [Bool.eq_iff_iff, beq_iff_eq, List.all_eq_true]
  simp only [decide_eq_true_eq]
  rw [← gcdL_0]; omega
theorem pcheck_ret {rows : List (List Int)} {al : List AV} {t u : Tl} {fs : List Int} (h : LIs RowIs rows al) (ht : t.pure = true) (hl : al.length ≤ lenB) (hu : u.pure = true) (hfl : fs.length ≤ lenB) : Out md pfs 15 [.sl al t, .sl (ints fs) u] (· = .bool (checkR rows fs)) fun _ => False := by
  have hlen := h.len
  have hp := rowsPure h
  have hall := rows_all h
  obtain ⟨_, rfl, c22⟩ := (check_ret (t := t) h hl).call rfl (by simp [pvs_cons, pvs_nil, pv_sl, ht, hp])
  refine out_of pf15_is (Nat.le_of_ble_eq_true rfl) ?_
  by_cases hr : rightR rows = 0
  · have d1 : ((rightR rows) != 0) = false := by rw [hr]; rfl
    by_cases h0 : rows.length = 0
    · have d2 : ((al.length : Int) == 0) = true := by rw [beq_iff_eq]; omega
      simp only [pf15, ↓wpre, wset, wcore, ne_eq, if_true, if_false, exists_eq_left', true_implies, false_implies, exists_const, exists_eq_right, binA, intA, loadA, storeA, pickC, setAt, mapO, argsE, X.isC, resA, oneA, unA, boundA, eqiA, eqsA, fillA, fillE, ASt.fz, strA, Nat.reduceEqDiff, Nat.reduceLT, ↓reduceIte, reduceCtorEq, Nat.reduceAdd, Nat.reduceLeDiff, Int.reduceBEq, Int.reduceBNe, Int.reduceLT, Int.reduceLE, Int.reduceGT, Int.reduceGE, Nat.reduceDiv, Nat.reduceMul, Nat.reduceBEq, Nat.reduceMod, Nat.reduceSub, c22, d1, d2]
      rw [checkR_f (.inr (.inl h0))]
    · have d2 : ((al.length : Int) == 0) = false := by rw [beq_eq_false_iff_ne]; omega
      by_cases hfs : fs.length = rows.length
      · have d3 : ((((ints fs).length : Nat) : Int) != (al.length : Int)) = false := by rw [ints_len, bne_eq_false_iff_eq]; omega
        obtain ⟨t0, k1, k2⟩ := head_of h (by omega)
        have hRS := right_of hr
        obtain ⟨w1, w2⟩ := hRS.pos (by omega)
        have hfew := hRS.few
        generalize hw : (rows.headD []).length = w at *
        have hgetf : ∀ j, j < rows.length → ∃ f, fs[j]? = some f := fun j hj => ⟨_, List.getElem?_eq_getElem (by omega)⟩
        have hfacts := tot_facts hRS hgetf
        have hm : (0 : Int) ≤ (((ints (rows.headD [])).length : Nat) : Int) ∧ (((ints (rows.headD [])).length : Nat) : Int) ≤ 1073741824 := by rw [ints_len, hw]; omega
        have hrep : flat (List.replicate w (AV.v (.int .i64 0))) = ints (List.replicate w 0) := by
          have := flat_ints (List.replicate w 0)
          simpa [ints] using this
        have htn : (((ints (rows.headD [])).length : Nat) : Int).toNat = w := by rw [ints_len, hw, Int.toNat_natCast]
        simp only [pf15, ↓wpre, wset, wcore, ne_eq, if_true, if_false, exists_eq_left', true_implies, false_implies, exists_const, exists_eq_right, binA, intA, loadA, storeA, pickC, setAt, mapO, argsE, X.isC, resA, oneA, unA, boundA, eqiA, eqsA, fillA, fillE, ASt.fz, strA, Nat.reduceEqDiff, Nat.reduceLT, ↓reduceIte, reduceCtorEq, Nat.reduceAdd, Nat.reduceLeDiff, Int.reduceBEq, Int.reduceBNe, Int.reduceLT, Int.reduceLE, Int.reduceGT, Int.reduceGE, Nat.reduceDiv, Nat.reduceMul, Nat.reduceBEq, Nat.reduceMod, Nat.reduceSub, c22, d1, d2, d3, k1, hall, hm, htn, hrep]
        refine W_loopE (fun j => al.length - j) (fun j E H T => H = [.cells false (ints (tot (rows.take j) (fs.take j) (List.replicate w 0)))] ∧ E 0 = .sl al t ∧ E 5 = .bs 0 0 w 1 false ∧ E 31 = .sl (ints fs) u ∧ E 32 = .int al.length ∧ E 33 = .int (j : Nat) ∧ j ≤ al.length ∧ (∀ f ∈ fs.take j, okF f = true)) ?_ 0 ⟨by simp [tot, hrep], rfl, rfl, rfl, by show AV.int ((ints fs).length : Nat) = _; rw [ints_len, hfs, hlen], rfl, Nat.zero_le _, by simp⟩
        rintro j E H T ⟨rfl, e0, e5, e31, e32, e33, hj, hok⟩
        obtain ⟨f1, f2⟩ := hfacts j (by omega) hok
        have haf := ints_all fs
        rcases Nat.lt_or_ge j al.length with hlt | hge
        · have hdec : decide ((j : Int) < al.length) = true := by simpa using hlt
          obtain ⟨x, tx, g1, g2, g3, g4, g5, g6⟩ := row_get h hlt
          obtain ⟨f, q1, _, q3⟩ := ints_get (show j < fs.length by omega)
          cases c1 : decide (f < 0)
          · cases c2 : decide (f > 1073741824)
            · have hc1 := of_decide_eq_false c1
              have hc2 := of_decide_eq_false c2
              have hof : okF f = true := by rw [okF, decide_eq_true (by omega), decide_eq_true (by omega)]; rfl
              have hx := hRS.bnd x g2
              have hxl := hRS.len x g2
              have hxl2 : ((ints x).length : Nat) = w := by rw [ints_len, hxl]
              have htt := tot_take (acc := List.replicate w 0) g1 q1
              generalize tot (rows.take j) (fs.take j) (List.replicate w 0) = S at *
              simp only [↓wpre, wset, wcore, ne_eq, if_true, if_false, exists_eq_left', true_implies, false_implies, exists_const, exists_eq_right, binA, intA, loadA, storeA, pickC, setAt, mapO, argsE, X.isC, resA, oneA, unA, boundA, eqiA, eqsA, fillA, fillE, ASt.fz, strA, Nat.reduceEqDiff, Nat.reduceLT, ↓reduceIte, reduceCtorEq, Nat.reduceAdd, Nat.reduceLeDiff, Int.reduceBEq, Int.reduceBNe, Int.reduceLT, Int.reduceLE, Int.reduceGT, Int.reduceGE, Nat.reduceDiv, Nat.reduceMul, Nat.reduceBEq, Nat.reduceMod, Nat.reduceSub, e0, e5, e31, e32, e33, hdec, g3, hall, q3, haf, c1, c2, hxl2]
              have hAl : (addM 1 f S x).length = S.length := addM_len (by rw [f1, hxl])
              refine W_loopE (fun k => w - k) (fun k E H T => H = [.cells false (ints (mid k (addM 1 f S x) S))] ∧ E 0 = .sl al t ∧ E 5 = .bs 0 0 w 1 false ∧ E 7 = .int f ∧ E 31 = .sl (ints fs) u ∧ E 32 = .int al.length ∧ E 33 = .int (j : Nat) ∧ E 47 = .sl (ints x) tx ∧ E 48 = .int w ∧ E 49 = .int (k : Nat) ∧ k ≤ w) ?_ 0 ⟨by simp [mid], e0, e5, rfl, e31, e32, e33, rfl, rfl, rfl, Nat.zero_le _⟩
              clear e0 e5 e31 e32 e33 hdec
              rintro k E H T ⟨rfl, e0, e5, e7, e31, e32, e33, e47, e48, e49, hk⟩
              rcases Nat.lt_or_ge k w with hkl | hkg
              · have hdec : decide ((k : Int) < (w : Int)) = true := by simpa using hkl
                obtain ⟨n, n1, _, n3⟩ := ints_get (show k < x.length by omega)
                have hxa := ints_all x
                have hs1 : S[k]? = some S[k] := List.getElem?_eq_getElem (by omega)
                have hb1 := f2 S[k] (List.getElem_mem _)
                have hb2 := hx n (List.mem_of_getElem? n1)
                have h3 := Int.mul_le_mul_of_nonneg_left hb2.1 (show 0 ≤ f by omega)
                have h4 := Int.mul_le_mul_of_nonneg_left hb2.2 (show 0 ≤ f by omega)
                rw [Int.mul_neg] at h3
                have x1 : IntKind.i64.wrap (f * n) = f * n := wrap_in (by unfold in64; omega)
                have x2 : IntKind.i64.wrap (S[k] + f * n) = S[k] + f * n := wrap_in (by unfold in64; omega)
                have hM := mid_get (k := k) hAl (by omega)
                have hdg := drop_get (hM.trans hs1)
                have hml : (ints (mid k (addM 1 f S x) S)).length = w := by rw [ints_len, mid_len hAl, f1]
                have hav : (addM 1 f S x)[k]? = some (S[k] + f * n) := by rw [addM, List.getElem?_zipWith, hs1, n1]; simp
                have hkw : ((k : Int) < (w : Int)) = True := by simp; omega
                have hset := mid_set hAl (by omega) hav
                simp only [↓wpre, wset, wcore, ne_eq, if_true, if_false, exists_eq_left', true_implies, false_implies, exists_const, exists_eq_right, binA, intA, loadA, storeA, pickC, setAt, mapO, argsE, X.isC, resA, oneA, unA, boundA, eqiA, eqsA, fillA, fillE, ASt.fz, strA, Nat.reduceEqDiff, Nat.reduceLT, ↓reduceIte, reduceCtorEq, Nat.reduceAdd, Nat.reduceLeDiff, Int.reduceBEq, Int.reduceBNe, Int.reduceLT, Int.reduceLE, Int.reduceGT, Int.reduceGE, Nat.reduceDiv, Nat.reduceMul, Nat.reduceBEq, Nat.reduceMod, Nat.reduceSub, e0, e5, e7, e31, e32, e33, e47, e48, e49, hdec, hxa, n3, hdg, hml, x1, x2, hkw, Nat.mul_one, List.head?_cons]
                refine ⟨by omega, EQ_in ⟨k + 1, by omega, ?_, e0, e5, e7, e31, e32, e33, e47, e48, next_ixv (by unfold lenB; omega), by omega⟩⟩
                rw [← hset, ints_app, ← ints_take]
                simp [ints]
              · have hdec : decide ((k : Int) < (w : Int)) = false := by simpa using hkg
                obtain rfl : k = w := by omega
                simp only [↓wpre, wset, wcore, ne_eq, if_true, if_false, exists_eq_left', true_implies, false_implies, exists_const, exists_eq_right, binA, intA, loadA, storeA, pickC, setAt, mapO, argsE, X.isC, resA, oneA, unA, boundA, eqiA, eqsA, fillA, fillE, ASt.fz, strA, Nat.reduceEqDiff, Nat.reduceLT, ↓reduceIte, reduceCtorEq, Nat.reduceAdd, Nat.reduceLeDiff, Int.reduceBEq, Int.reduceBNe, Int.reduceLT, Int.reduceLE, Int.reduceGT, Int.reduceGE, Nat.reduceDiv, Nat.reduceMul, Nat.reduceBEq, Nat.reduceMod, Nat.reduceSub, e0, e5, e7, e31, e32, e33, e47, e48, e49, hdec]
                have := mid_full hAl
                rw [f1] at this
                exact EQ_in ⟨j + 1, by omega, by rw [htt, this], e0, e5, e31, e32, next_ixv (by omega), by omega, fun g hg => by
                  have : fs.take (j + 1) = fs.take j ++ [f] := by rw [List.take_add_one, q1]; rfl
                  rw [this, List.mem_append, List.mem_singleton] at hg
                  rcases hg with hg | rfl
                  · exact hok g hg
                  · exact hof⟩
            · simp only [↓wpre, wset, wcore, ne_eq, if_true, if_false, exists_eq_left', true_implies, false_implies, exists_const, exists_eq_right, binA, intA, loadA, storeA, pickC, setAt, mapO, argsE, X.isC, resA, oneA, unA, boundA, eqiA, eqsA, fillA, fillE, ASt.fz, strA, Nat.reduceEqDiff, Nat.reduceLT, ↓reduceIte, reduceCtorEq, Nat.reduceAdd, Nat.reduceLeDiff, Int.reduceBEq, Int.reduceBNe, Int.reduceLT, Int.reduceLE, Int.reduceGT, Int.reduceGE, Nat.reduceDiv, Nat.reduceMul, Nat.reduceBEq, Nat.reduceMod, Nat.reduceSub, e0, e5, e31, e32, e33, hdec, q3, haf, c1, c2]
              rw [checkR_o q1 (okF_1 (of_decide_eq_true c2))]
          · simp only [↓wpre, wset, wcore, ne_eq, if_true, if_false, exists_eq_left', true_implies, false_implies, exists_const, exists_eq_right, binA, intA, loadA, storeA, pickC, setAt, mapO, argsE, X.isC, resA, oneA, unA, boundA, eqiA, eqsA, fillA, fillE, ASt.fz, strA, Nat.reduceEqDiff, Nat.reduceLT, ↓reduceIte, reduceCtorEq, Nat.reduceAdd, Nat.reduceLeDiff, Int.reduceBEq, Int.reduceBNe, Int.reduceLT, Int.reduceLE, Int.reduceGT, Int.reduceGE, Nat.reduceDiv, Nat.reduceMul, Nat.reduceBEq, Nat.reduceMod, Nat.reduceSub, e0, e5, e31, e32, e33, hdec, q3, haf, c1]
            rw [checkR_o q1 (okF_0 (of_decide_eq_true c1))]
        · have hdec : decide ((j : Int) < al.length) = false := by simpa using hge
          rw [List.take_of_length_le (show rows.length ≤ j by omega), List.take_of_length_le (show fs.length ≤ j by omega)] at f1
          rw [List.take_of_length_le (show fs.length ≤ j by omega)] at hok
          have hch := checkR_t hr h0 hfs hok
          rw [hw] at hch
          obtain ⟨_, f2⟩ := hfacts rows.length (Nat.le_refl _) (by rw [List.take_of_length_le (by omega)]; exact hok)
          rw [List.take_of_length_le (Nat.le_refl _), List.take_of_length_le (show fs.length ≤ rows.length by omega)] at f2
          rw [List.take_of_length_le (show rows.length ≤ j by omega), List.take_of_length_le (show fs.length ≤ j by omega)]
          generalize tot rows fs (List.replicate w 0) = S at *
          have x1 : IntKind.i64.wrap ((w : Int) - 1) = ((w - 1 : Nat) : Int) := by rw [wrap_in (by unfold in64; omega)]; omega
          have hlast : S[w - 1]? = some S[w - 1] := List.getElem?_eq_getElem (by omega)
          have hdg := drop_get hlast
          have hml : (ints S).length = w := by rw [ints_len, f1]
          have hkw : (((w - 1 : Nat) : Int) < (w : Int)) = True := eq_true (by omega)
          have hgd : S.getD (w - 1) 0 = S[w - 1] := by rw [List.getD_eq_getElem?_getD, hlast]; rfl
          rw [refS, f1, hgd] at hch
          cases c3 : decide (S[w - 1] > 0)
          · simp only [↓wpre, wset, wcore, ne_eq, if_true, if_false, exists_eq_left', true_implies, false_implies, exists_const, exists_eq_right, binA, intA, loadA, storeA, pickC, setAt, mapO, argsE, X.isC, resA, oneA, unA, boundA, eqiA, eqsA, fillA, fillE, ASt.fz, strA, Nat.reduceEqDiff, Nat.reduceLT, ↓reduceIte, reduceCtorEq, Nat.reduceAdd, Nat.reduceLeDiff, Int.reduceBEq, Int.reduceBNe, Int.reduceLT, Int.reduceLE, Int.reduceGT, Int.reduceGE, Nat.reduceDiv, Nat.reduceMul, Nat.reduceBEq, Nat.reduceMod, Nat.reduceSub, e0, e5, e31, e32, e33, hdec, x1, hdg, hml, hkw, Nat.mul_one, List.head?_cons, c3]
            rw [hch, c3, Bool.and_false]
          · have hz1 : (0 ≤ w - 1) = True := by simp
            have hz2 : (0 < w) = True := eq_true w1
            have hz3 : (w - 1 ≤ w) = True := by simp
            have hz4 : (((w - 1 : Nat) : Int) ≤ (w : Int)) = True := eq_true (by omega)
            have hmp : mapO (purify 20 ⟨[.cells false (ints S)], T⟩) [.bs 0 0 (w - 1) 1 false] = some [.sl (ints (S.take (w - 1))) .none] := by
              rw [mapO, pz_ints (n := 18) (L := S) (fz := false) rfl (by omega)]; rfl
            obtain ⟨_, rfl, c29⟩ := (gcd_ret (l := S.take (w - 1)) (t := .none) (by rw [List.length_take]; unfold lenB; omega) (fun n hn => by have := f2 n (List.mem_of_mem_take hn); omega)).callP rfl hmp
            generalize [AV.bs 0 0 (w - 1) 1 false].foldl (frz 20) ⟨[.cells false (ints S)], T⟩ = s2 at c29
            obtain ⟨H2, T2⟩ := s2
            have hck := check_all (l := S.take (w - 1))
            simp only [↓wpre, wset, wcore, ne_eq, if_true, if_false, exists_eq_left', true_implies, false_implies, exists_const, exists_eq_right, binA, intA, loadA, storeA, pickC, setAt, mapO, argsE, X.isC, resA, oneA, unA, boundA, eqiA, eqsA, fillA, fillE, ASt.fz, strA, Nat.reduceEqDiff, Nat.reduceLT, ↓reduceIte, reduceCtorEq, Nat.reduceAdd, Nat.reduceLeDiff, Int.reduceBEq, Int.reduceBNe, Int.reduceLT, Int.reduceLE, Int.reduceGT, Int.reduceGE, Nat.reduceDiv, Nat.reduceMul, Nat.reduceBEq, Nat.reduceMod, Nat.reduceSub, e0, e5, e31, e32, e33, hdec, x1, hdg, hml, hkw, Nat.mul_one, List.head?_cons, c3, hz1, hz2, hz3, hz4, Nat.sub_zero, Nat.zero_mul, c29, hck]
            rw [hch, c3, Bool.and_true]
      · have d3 : ((((ints fs).length : Nat) : Int) != (al.length : Int)) = true := by rw [ints_len, bne_iff_ne]; omega
        simp only [pf15, ↓wpre, wset, wcore, ne_eq, if_true, if_false, exists_eq_left', true_implies, false_implies, exists_const, exists_eq_right, binA, intA, loadA, storeA, pickC, setAt, mapO, argsE, X.isC, resA, oneA, unA, boundA, eqiA, eqsA, fillA, fillE, ASt.fz, strA, Nat.reduceEqDiff, Nat.reduceLT, ↓reduceIte, reduceCtorEq, Nat.reduceAdd, Nat.reduceLeDiff, Int.reduceBEq, Int.reduceBNe, Int.reduceLT, Int.reduceLE, Int.reduceGT, Int.reduceGE, Nat.reduceDiv, Nat.reduceMul, Nat.reduceBEq, Nat.reduceMod, Nat.reduceSub, c22, d1, d2, d3]
        rw [checkR_f (.inr (.inr hfs))]
  · have d1 : ((rightR rows) != 0) = true := by simp [hr]
    simp only [pf15, ↓wpre, wset, wcore, ne_eq, if_true, if_false, exists_eq_left', true_implies, false_implies, exists_const, exists_eq_right, binA, intA, loadA, storeA, pickC, setAt, mapO, argsE, X.isC, resA, oneA, unA, boundA, eqiA, eqsA, fillA, fillE, ASt.fz, strA, Nat.reduceEqDiff, Nat.reduceLT, ↓reduceIte, reduceCtorEq, Nat.reduceAdd, Nat.reduceLeDiff, Int.reduceBEq, Int.reduceBNe, Int.reduceLT, Int.reduceLE, Int.reduceGT, Int.reduceGE, Nat.reduceDiv, Nat.reduceMul, Nat.reduceBEq, Nat.reduceMod, Nat.reduceSub, c22, d1]
    rw [checkR_f (.inl hr)]
end Go.Proofs.Eng
