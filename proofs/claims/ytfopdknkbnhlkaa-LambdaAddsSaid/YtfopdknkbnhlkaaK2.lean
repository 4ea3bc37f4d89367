/- K2: what functions of the program return. No conditions beyond those in the theorems. -/
import Derived.Test.YtfopdknkbnhlkaaK1
set_option linter.all false
set_option linter.deprecated false
set_option linter.unnecessarySimpa false
set_option linter.unusedVariables false
set_option linter.unusedSimpArgs false
set_option linter.defProp false
namespace Go.Proofs.Eng
open Go Go.Proofs
set_option maxRecDepth 100000
set_option maxHeartbeats 4000000
def ofE : Except Int Ex → Ex × Bool × Int
  | .ok x => (x, true, 0)
  | .error c => (.zero, false, c)
theorem branch_ret {i : Int} {n : ByteArray} {s : List Int} {kids : List Ex} {a : AV} (h : (Ex.mk 4 i n s kids).Is a) {B : Int} (hB : B ≤ B62) (hg : (Ex.mk 4 i n s kids).gd B) (hd : 64 * (Ex.mk 4 i n s kids).dep ≤ B62) : Out md pfs 55 [a] (StpR (ofE (Ex.mk 4 i n s kids).red)) fun _ => False := by
  have hw := gd_wf _ hg
  rw [Ex.gd_iff] at hg
  obtain ⟨t1, t2, kas, rfl, h1, h2, h3, h4, h5, h6⟩ := h.opn
  rw [Ex.wf_iff] at hw
  have hf := fm_facts hw.1
  have hkl : kids.length = s.length + 1 := by omega
  obtain ⟨x, cx, d0, _, d3, d4, d5, d6, d7, hx⟩ := h6.get exAgg (i := 0) (by rw [h6.len]; omega)
  have hwx := hw.2 x d3
  have hgx := hg.2.2 x d3
  have hdx := dep_kid d3
  simp only [Ex.dep] at hd
  obtain ⟨xk, xi, xn, xs, xkids⟩ := x
  rw [Ex.gd_iff] at hgx
  obtain ⟨u1, u2, xkas, e, g1, g2, g3, g4, g5, g6⟩ := hx.opn
  cases e
  rw [Ex.wf_iff] at hwx
  have hfx := fm_facts hwx.1
  have hall := h6.all exAgg
  have hx0 : kids.getD 0 .zero = .mk xk xi xn xs xkids := by rw [List.getD, d0]; rfl
  refine out_of pf55_is (Nat.le_of_ble_eq_true rfl) ?_
  have hbad : ∀ (q : ¬ (xk = 3 ∧ xi < s.length ∧ (xkids.length : Int) = s.getD xi.toNat 0)), StpR (ofE (Ex.mk 4 i n s kids).red) (.tup [.agg [.int 0, .int 0, .str ⟨#[]⟩, .sl [] .nil, .sl [] .nil], .bool false, .int 10]) := by
    intro q
    rw [red_case hx0, if_neg q]
    exact ⟨_, rfl, zeroIs⟩
  cases c3 : (xk != 3)
  · have e3 : xk = 3 := by simpa using c3
    obtain ⟨q, rfl⟩ : ∃ q : Nat, xi = q := ⟨xi.toNat, by omega⟩
    have hq0 : decide ((q : Int) < 0) = false := by simp
    cases c4 : decide ((q : Int) ≥ (ints s).length)
    · have hq : q < s.length := by simp [ints_len] at c4; omega
      obtain ⟨z, z0, z1, z2⟩ := ints_get hq
      cases c5 : ((xkas.length : Int) != z)
      · obtain ⟨y, cy, e0, _, e3', e4, e5, e6, e7, hy⟩ := h6.get exAgg (i := 1 + q) (by rw [h6.len]; omega)
        have hwy := hw.2 y e3'
        have hgy := hg.2.2 y e3'
        have hdy := dep_kid e3'
        have hred : (Ex.mk 4 i n s kids).red = .ok (y.subst xkids.reverse) := by
          rw [red_case hx0, Int.toNat_natCast, if_pos ⟨e3, by omega, by rw [List.getD, z0, ← g6.len]; simpa using c5⟩, List.getD, e0]; rfl
        have hxs : ∀ v ∈ xkids.reverse, v.slim := fun v hv => slim_of _ (hwx.2 v (by simpa using hv))
        have hfy := fits_of y hwy (d := 0) (by omega) (by omega)
        rw [hred, ← rsubst_eq hB hgy fun v hv => hgx.2.2 v (by simpa using hv)]
        have hxl : xkids.length ≤ 4096 := by omega
        have hrev := g6.reverse
        have hw0 : IntKind.i64.wrap ((xkas.length : Int) - 1) = (xkas.length : Int) - 1 - (0 : Nat) := by rw [wrap_small (by omega) (by rw [g6.len]; omega)]; omega
        have hallx := g6.all exAgg
        simp only [pf55, ↓wpre, wset, wcore, ne_eq, if_true, if_false, exists_eq_left', true_implies, false_implies, exists_const, exists_eq_right, binA, intA, loadA, storeA, pickC, setAt, mapO, argsE, X.isC, resA, oneA, unA, boundA, eqiA, eqsA, fillA, fillE, ASt.fz, strA, Nat.reduceEqDiff, Nat.reduceLT, ↓reduceIte, reduceCtorEq, Nat.reduceAdd, Nat.reduceLeDiff, Int.reduceBEq, Int.reduceBNe, Int.reduceLT, Int.reduceLE, Int.reduceGT, Int.reduceGE, Nat.reduceDiv, Nat.reduceMul, d4, d5, d6, d7, hall, c3, hq0, c4, ints_all, z2, c5, hw0]
        refine W_loopE (fun r => xkas.length - r) (fun r E H T => ∃ t, H = [.cells false [.int 4, .int i, .str n, .sl (ints s) t1, .sl kas t2], .cells false [.int 0, .int 0, .str ⟨#[]⟩, .sl [] .nil, .sl [] .nil], .cells false [.int xk, .int q, .str xn, .sl (ints xs) u1, .sl xkas u2]] ∧
          E 1 = .ptr 0 0 ∧ E 2 = .ptr 1 0 ∧ E 5 = .ptr 2 0 ∧ E 6 = .sl (xkas.reverse.take r) t ∧ E 7 = .int ((xkas.length : Int) - 1 - r) ∧ App T (xkas.reverse.take r) t ∧ r ≤ xkas.length) ?_ 0 ⟨.nil, rfl, rfl, rfl, rfl, rfl, rfl, app_start _, Nat.zero_le _⟩
        rintro r E H T ⟨t, rfl, e1, e2, e5', e6', e7', hA, hr⟩
        rcases Nat.lt_or_ge r xkas.length with hlt | hge
        · have hdec : decide ((xkas.length : Int) - 1 - r ≥ 0) = true := by simp; omega
          obtain ⟨w, cw, q0, _, q3, q4, q5, q6, q7, hwI⟩ := hrev.get exAgg (i := r) (by simpa using hlt)
          have hix : (xkas.length : Int) - 1 - r = ((xkas.length - 1 - r : Nat) : Int) := by omega
          have hget : xkas[xkas.length - 1 - r]? = some (.agg cw) := by rw [← List.getElem?_reverse hlt]; exact q4
          obtain ⟨t', T', hap, hA', _⟩ := app_one hA (by rw [List.length_take, List.length_reverse]; unfold capB; rw [g6.len]; omega) ((hrev.take r).all exAgg) (x := .agg cw) q5 q7
          have hw1 : IntKind.i64.wrap ((xkas.length : Int) - 1 - r - 1) = (xkas.length : Int) - 1 - (r + 1 : Nat) := by rw [wrap_small (by omega) (by rw [g6.len]; omega)]; omega
          have htk : xkas.reverse.take r ++ [.agg cw] = xkas.reverse.take (r + 1) := by rw [List.take_add_one, q4]; rfl
          rw [htk] at hap hA'
          rw [hix] at e7' hdec hw1
          simp only [↓wpre, wset, wcore, ne_eq, if_true, if_false, exists_eq_left', true_implies, false_implies, exists_const, exists_eq_right, binA, intA, loadA, storeA, pickC, setAt, mapO, argsE, X.isC, resA, oneA, unA, boundA, eqiA, eqsA, fillA, fillE, ASt.fz, strA, Nat.reduceEqDiff, Nat.reduceLT, ↓reduceIte, reduceCtorEq, Nat.reduceAdd, Nat.reduceLeDiff, Int.reduceBEq, Int.reduceBNe, Int.reduceLT, Int.reduceLE, Int.reduceGT, Int.reduceGE, Nat.reduceDiv, Nat.reduceMul, e1, e2, e5', e6', e7', hdec, hallx, hget, q5, q6, q7, hap, hw1]
          exact EQ_in ⟨r + 1, by omega, t', rfl, e1, e2, e5', rfl, rfl, hA', by omega⟩
        · have hdec : decide ((xkas.length : Int) - 1 - r ≥ 0) = false := by simp; omega
          rw [List.take_of_length_le (by simpa using hge)] at e6' hA
          obtain ⟨t', ht', hap⟩ := app_purify (s := ⟨[.cells false [.int 4, .int i, .str n, .sl (ints s) t1, .sl kas t2], .cells false [.int 0, .int 0, .str ⟨#[]⟩, .sl [] .nil, .sl [] .nil], .cells false [.int xk, .int q, .str xn, .sl (ints xs) u1, .sl xkas u2]], T⟩) hA (exsPure hrev) (n := 20) (by omega)
          obtain ⟨v, hv, hc⟩ := (rsubst_ret hy hfy (slim_of _ hwy) (tv := t') hrev ht' hxs).callP rfl (s := ⟨[.cells false [.int 4, .int i, .str n, .sl (ints s) t1, .sl kas t2], .cells false [.int 0, .int 0, .str ⟨#[]⟩, .sl [] .nil, .sl [] .nil], .cells false [.int xk, .int q, .str xn, .sl (ints xs) u1, .sl xkas u2]], T⟩) (args := [.agg cy, .sl xkas.reverse t]) (by simp only [mapO, hap, purify_pure (n := 19) (exPure _ hy)])
          rw [List.foldl_cons, List.foldl_cons, List.foldl_nil, fr_pure (exPure _ hy), fr_sl (exsPure hrev)] at hc
          obtain ⟨cv, rfl, v1, v2⟩ := exAgg.cells hv
          have v3 : cv.take 5 = cv := List.take_of_length_le (by omega)
          have hw1 : IntKind.i64.wrap ((q : Int) + 1) = ((1 + q : Nat) : Int) := by rw [wrap_small (by omega) (by omega)]; omega
          simp only [↓wpre, wset, wcore, ne_eq, if_true, if_false, exists_eq_left', true_implies, false_implies, exists_const, exists_eq_right, binA, intA, loadA, storeA, pickC, setAt, mapO, argsE, X.isC, resA, oneA, unA, boundA, eqiA, eqsA, fillA, fillE, ASt.fz, strA, Nat.reduceEqDiff, Nat.reduceLT, ↓reduceIte, reduceCtorEq, Nat.reduceAdd, Nat.reduceLeDiff, Int.reduceBEq, Int.reduceBNe, Int.reduceLT, Int.reduceLE, Int.reduceGT, Int.reduceGE, Nat.reduceDiv, Nat.reduceMul, e1, e2, e5', e6', e7', hdec, hall, hw1, e4, e5, e6, e7, hc, v1, v2, v3, exPure _ hv]
          exact ⟨_, rfl, hv⟩
      · simp only [pf55, ↓wpre, wset, wcore, ne_eq, if_true, if_false, exists_eq_left', true_implies, false_implies, exists_const, exists_eq_right, binA, intA, loadA, storeA, pickC, setAt, mapO, argsE, X.isC, resA, oneA, unA, boundA, eqiA, eqsA, fillA, fillE, ASt.fz, strA, Nat.reduceEqDiff, Nat.reduceLT, ↓reduceIte, reduceCtorEq, Nat.reduceAdd, Nat.reduceLeDiff, Int.reduceBEq, Int.reduceBNe, Int.reduceLT, Int.reduceLE, Int.reduceGT, Int.reduceGE, Nat.reduceDiv, Nat.reduceMul, d4, d5, d6, d7, hall, c3, hq0, c4, ints_all, z2, c5]
        exact hbad (by rintro ⟨_, _, q⟩; rw [Int.toNat_natCast, List.getD, z0, ← g6.len] at q; simp at c5 q; exact c5 q)
    · simp only [pf55, ↓wpre, wset, wcore, ne_eq, if_true, if_false, exists_eq_left', true_implies, false_implies, exists_const, exists_eq_right, binA, intA, loadA, storeA, pickC, setAt, mapO, argsE, X.isC, resA, oneA, unA, boundA, eqiA, eqsA, fillA, fillE, ASt.fz, strA, Nat.reduceEqDiff, Nat.reduceLT, ↓reduceIte, reduceCtorEq, Nat.reduceAdd, Nat.reduceLeDiff, Int.reduceBEq, Int.reduceBNe, Int.reduceLT, Int.reduceLE, Int.reduceGT, Int.reduceGE, Nat.reduceDiv, Nat.reduceMul, d4, d5, d6, d7, hall, c3, hq0, c4]
      exact hbad (by rintro ⟨_, q, _⟩; simp [ints_len] at c4; omega)
  · simp only [pf55, ↓wpre, wset, wcore, ne_eq, if_true, if_false, exists_eq_left', true_implies, false_implies, exists_const, exists_eq_right, binA, intA, loadA, storeA, pickC, setAt, mapO, argsE, X.isC, resA, oneA, unA, boundA, eqiA, eqsA, fillA, fillE, ASt.fz, strA, Nat.reduceEqDiff, Nat.reduceLT, ↓reduceIte, reduceCtorEq, Nat.reduceAdd, Nat.reduceLeDiff, Int.reduceBEq, Int.reduceBNe, Int.reduceLT, Int.reduceLE, Int.reduceGT, Int.reduceGE, Nat.reduceDiv, Nat.reduceMul, d4, d5, d6, d7, hall, c3]
    exact hbad (by rintro ⟨q, _, _⟩; simp at c3; exact c3 q)
end Go.Proofs.Eng
