/- Whether values satisfy rows. No conditions beyond those in the theorems. -/
import Derived.Test.YtglembbmmnakaaaDoorT4
set_option linter.all false
set_option linter.deprecated false
set_option linter.unnecessarySimpa false
set_option linter.unusedVariables false
set_option linter.unusedSimpArgs false
set_option linter.defProp false
namespace Go.Proofs.Eng
open Go Go.Proofs
set_option maxRecDepth 100000
set_option maxHeartbeats 16000000
theorem satB_any {rows : List (List Int)} {vals : List Int} : satB rows vals = !rows.any fun r => !okV vals r := by
  rw [satB, List.all_eq_not_any_not]
theorem prodV {x y : Int} (hx : -1000000 ≤ x ∧ x ≤ 1000000) (hy : -16777216 ≤ y ∧ y ≤ 16777216) : -16777216000000 ≤ x * y ∧ x * y ≤ 16777216000000 := by
  have h : (x * y).natAbs ≤ 1000000 * 16777216 := by rw [Int.natAbs_mul]; exact Nat.mul_le_mul (by omega) (by omega)
  omega
theorem gt0_bnd {l : List Int} {m : Int} (h : Bnd m l) (hm : 0 ≤ m) (k : Nat) : -m ≤ gt0 l k ∧ gt0 l k ≤ m := by
  unfold gt0
  rw [List.getD_eq_getElem?_getD]
  cases e : l[k]? with
  | none => simp; omega
  | some n => exact h n (List.mem_of_getElem? e)
theorem sumV_bnd {r vals : List Int} (hr : Bnd 1000000 r) (hv : Bnd limP vals) : ∀ d, d ≤ 9 → -(1000000 + d * 16777216000000) ≤ sumV r vals d ∧ sumV r vals d ≤ 1000000 + d * 16777216000000
  | 0, _ => by have := gt0_bnd hr (by omega) vals.length; rw [sumV]; omega
  | d + 1, hd => by
    have h1 := sumV_bnd hr hv d (by omega)
    have h2 := gt0_bnd hr (by omega) d
    have h3 := gt0_bnd hv (by unfold limP; omega) d
    unfold limP at h3
    have := prodV h2 h3
    rw [sumV]
    omega
theorem gt0_at {l : List Int} {k : Nat} (h : k < l.length) : (ints l)[k]? = some (.int (gt0 l k)) := by
  have : l[k]? = some (gt0 l k) := by rw [gt0, List.getD_eq_getElem?_getD, List.getElem?_eq_getElem h]; rfl
  rw [ints, List.getElem?_map, this]; rfl
theorem satisfies_ret {rows : List (List Int)} {vals : List Int} {al : List AV} {t u : Tl} (h : LIs RowIs rows al) (hl : al.length ≤ lenB) (hvl : vals.length ≤ 9) (hb : Bnd limP vals) (hrb : ∀ r ∈ rows, Bnd 1000000 r) : Out md pfs 20 [.sl al t, .sl (ints vals) u] (· = .bool (satB rows vals)) fun _ => False := by
  have hln := h.len
  have hall := rows_all h
  have hva := ints_all vals
  refine out_of pf20_is (Nat.le_of_ble_eq_true rfl) ?_
  simp only [pf20, ↓wpre, wset, wcore, ne_eq, if_true, if_false, exists_eq_left', true_implies, false_implies, exists_const, exists_eq_right, binA, intA, loadA, storeA, pickC, setAt, mapO, argsE, X.isC, resA, oneA, unA, boundA, eqiA, eqsA, fillA, fillE, ASt.fz, strA, Nat.reduceEqDiff, Nat.reduceLT, ↓reduceIte, reduceCtorEq, Nat.reduceAdd, Nat.reduceLeDiff, Int.reduceBEq, Int.reduceBNe, Int.reduceLT, Int.reduceLE, Int.reduceGT, Int.reduceGE, Nat.reduceDiv, Nat.reduceMul, Nat.reduceBEq, Nat.reduceMod, Nat.reduceSub]
  refine W_loopE (fun k => al.length - k) (fun k E H T => E 1 = .sl (ints vals) u ∧ E 10 = .sl al t ∧ E 11 = .int al.length ∧ E 12 = .int (k : Nat) ∧ k ≤ al.length ∧ ((rows.take k).any fun r => !okV vals r) = false) ?_ 0 ⟨rfl, rfl, rfl, rfl, Nat.zero_le _, by simp⟩
  rintro k E H T ⟨e1, e10, e11, e12, hk, hany⟩
  rcases Nat.lt_or_ge k al.length with hlt | hge
  · have hdec : decide ((k : Int) < (al.length : Int)) = true := by simpa using hlt
    obtain ⟨x, tx, g1, g2, g3, g4, g5, g6⟩ := row_get h hlt
    have hxa := ints_all x
    have hvln := ints_len vals
    have hlw : IntKind.i64.wrap (((vals.length : Nat) : Int) + 1) = ((vals.length + 1 : Nat) : Int) := by rw [wrap_in (by unfold Eng.in64; omega)]; omega
    by_cases hxl : x.length = vals.length + 1
    · have d1 : ((((ints x).length : Nat) : Int) != ((vals.length + 1 : Nat) : Int)) = false := by rw [ints_len, bne_eq_false_iff_eq]; omega
      have hat := gt0_at (l := x) (k := vals.length) (by omega)
      simp only [↓wpre, wset, wcore, ne_eq, if_true, if_false, exists_eq_left', true_implies, false_implies, exists_const, exists_eq_right, binA, intA, loadA, storeA, pickC, setAt, mapO, argsE, X.isC, resA, oneA, unA, boundA, eqiA, eqsA, fillA, fillE, ASt.fz, strA, Nat.reduceEqDiff, Nat.reduceLT, ↓reduceIte, reduceCtorEq, Nat.reduceAdd, Nat.reduceLeDiff, Int.reduceBEq, Int.reduceBNe, Int.reduceLT, Int.reduceLE, Int.reduceGT, Int.reduceGE, Nat.reduceDiv, Nat.reduceMul, Nat.reduceBEq, Nat.reduceMod, Nat.reduceSub, e1, e10, e11, e12, hdec, g3, hall, hlw, d1, hvln, hat, hxa]
      refine W_loopE (fun d => vals.length - d) (fun d E H T => E 1 = .sl (ints vals) u ∧ E 6 = .sl (ints x) tx ∧ E 7 = .int (sumV x vals d) ∧ E 10 = .sl al t ∧ E 11 = .int al.length ∧ E 12 = .int (k : Nat) ∧ E 27 = .sl (ints vals) u ∧ E 28 = .int vals.length ∧ E 29 = .int (d : Nat) ∧ d ≤ vals.length) ?_ 0 ⟨e1, rfl, rfl, e10, e11, e12, rfl, rfl, rfl, Nat.zero_le _⟩
      clear e1 e10 e11 e12 hdec
      rintro d E H T ⟨e1, e6, e7, e10, e11, e12, e27, e28, e29, hd⟩
      have hsb := sumV_bnd (hrb x g2) hb
      rcases Nat.lt_or_ge d vals.length with hdl | hdg
      · have hdec : decide ((d : Int) < ((vals.length : Nat) : Int)) = true := by simpa using hdl
        have a1 := gt0_at (l := x) (k := d) (by omega)
        have a2 := gt0_at (l := vals) (k := d) hdl
        have b1 := gt0_bnd (hrb x g2) (by omega) d
        have b2 := gt0_bnd hb (by unfold limP; omega) d
        unfold limP at b2
        have b3 := prodV b1 b2
        have b4 := hsb (d + 1) (by omega)
        rw [sumV] at b4
        have w1 : IntKind.i64.wrap (gt0 x d * gt0 vals d) = gt0 x d * gt0 vals d := wrap_in (by unfold Eng.in64; omega)
        have w2 : IntKind.i64.wrap (sumV x vals d + gt0 x d * gt0 vals d) = sumV x vals d + gt0 x d * gt0 vals d := wrap_in (by unfold Eng.in64; omega)
        simp only [↓wpre, wset, wcore, ne_eq, if_true, if_false, exists_eq_left', true_implies, false_implies, exists_const, exists_eq_right, binA, intA, loadA, storeA, pickC, setAt, mapO, argsE, X.isC, resA, oneA, unA, boundA, eqiA, eqsA, fillA, fillE, ASt.fz, strA, Nat.reduceEqDiff, Nat.reduceLT, ↓reduceIte, reduceCtorEq, Nat.reduceAdd, Nat.reduceLeDiff, Int.reduceBEq, Int.reduceBNe, Int.reduceLT, Int.reduceLE, Int.reduceGT, Int.reduceGE, Nat.reduceDiv, Nat.reduceMul, Nat.reduceBEq, Nat.reduceMod, Nat.reduceSub, e1, e6, e7, e10, e11, e12, e27, e28, e29, hdec, a1, a2, hxa, hva, w1, w2]
        exact EQ_in ⟨d + 1, by omega, e1, e6, rfl, e10, e11, e12, e27, e28, next_ixv (by unfold lenB; omega), by omega⟩
      · have hdec : decide ((d : Int) < ((vals.length : Nat) : Int)) = false := by simpa using hdg
        obtain rfl : d = vals.length := by omega
        by_cases hs : sumV x vals vals.length > 0
        · have c1 : decide (sumV x vals vals.length > 0) = true := decide_eq_true hs
          simp only [↓wpre, wset, wcore, ne_eq, if_true, if_false, exists_eq_left', true_implies, false_implies, exists_const, exists_eq_right, binA, intA, loadA, storeA, pickC, setAt, mapO, argsE, X.isC, resA, oneA, unA, boundA, eqiA, eqsA, fillA, fillE, ASt.fz, strA, Nat.reduceEqDiff, Nat.reduceLT, ↓reduceIte, reduceCtorEq, Nat.reduceAdd, Nat.reduceLeDiff, Int.reduceBEq, Int.reduceBNe, Int.reduceLT, Int.reduceLE, Int.reduceGT, Int.reduceGE, Nat.reduceDiv, Nat.reduceMul, Nat.reduceBEq, Nat.reduceMod, Nat.reduceSub, e1, e6, e7, e10, e11, e12, e27, e28, e29, hdec, c1]
          rw [satB_any, any_hit g1 (by simp [okV]; omega)]
          rfl
        · have c1 : decide (sumV x vals vals.length > 0) = false := decide_eq_false hs
          simp only [↓wpre, wset, wcore, ne_eq, if_true, if_false, exists_eq_left', true_implies, false_implies, exists_const, exists_eq_right, binA, intA, loadA, storeA, pickC, setAt, mapO, argsE, X.isC, resA, oneA, unA, boundA, eqiA, eqsA, fillA, fillE, ASt.fz, strA, Nat.reduceEqDiff, Nat.reduceLT, ↓reduceIte, reduceCtorEq, Nat.reduceAdd, Nat.reduceLeDiff, Int.reduceBEq, Int.reduceBNe, Int.reduceLT, Int.reduceLE, Int.reduceGT, Int.reduceGE, Nat.reduceDiv, Nat.reduceMul, Nat.reduceBEq, Nat.reduceMod, Nat.reduceSub, e1, e6, e7, e10, e11, e12, e27, e28, e29, hdec, c1]
          exact EQ_in ⟨k + 1, by omega, e1, e10, e11, next_ixv (by omega), by omega, any_step hany g1 (by simp [okV]; omega)⟩
    · have d1 : ((((ints x).length : Nat) : Int) != ((vals.length + 1 : Nat) : Int)) = true := by rw [ints_len, bne_iff_ne]; omega
      simp only [↓wpre, wset, wcore, ne_eq, if_true, if_false, exists_eq_left', true_implies, false_implies, exists_const, exists_eq_right, binA, intA, loadA, storeA, pickC, setAt, mapO, argsE, X.isC, resA, oneA, unA, boundA, eqiA, eqsA, fillA, fillE, ASt.fz, strA, Nat.reduceEqDiff, Nat.reduceLT, ↓reduceIte, reduceCtorEq, Nat.reduceAdd, Nat.reduceLeDiff, Int.reduceBEq, Int.reduceBNe, Int.reduceLT, Int.reduceLE, Int.reduceGT, Int.reduceGE, Nat.reduceDiv, Nat.reduceMul, Nat.reduceBEq, Nat.reduceMod, Nat.reduceSub, e1, e10, e11, e12, hdec, g3, hall, hvln, hlw, d1]
      rw [satB_any, any_hit g1 (by simp [okV, hxl])]
      rfl
  · have hdec : decide ((k : Int) < (al.length : Int)) = false := by simpa using hge
    simp only [↓wpre, wset, wcore, ne_eq, if_true, if_false, exists_eq_left', true_implies, false_implies, exists_const, exists_eq_right, binA, intA, loadA, storeA, pickC, setAt, mapO, argsE, X.isC, resA, oneA, unA, boundA, eqiA, eqsA, fillA, fillE, ASt.fz, strA, Nat.reduceEqDiff, Nat.reduceLT, ↓reduceIte, reduceCtorEq, Nat.reduceAdd, Nat.reduceLeDiff, Int.reduceBEq, Int.reduceBNe, Int.reduceLT, Int.reduceLE, Int.reduceGT, Int.reduceGE, Nat.reduceDiv, Nat.reduceMul, Nat.reduceBEq, Nat.reduceMod, Nat.reduceSub, e1, e10, e11, e12, hdec]
    rw [satB_any, any_all hany (by omega)]
    rfl
end Go.Proofs.Eng
