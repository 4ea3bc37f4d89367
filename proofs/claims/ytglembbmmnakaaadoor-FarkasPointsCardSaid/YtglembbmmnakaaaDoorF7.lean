/- Rows of the elimination; the reference's small functions. No conditions beyond those in the theorems. -/
import Derived.Test.YtglembbmmnakaaaDoorF4
set_option linter.all false
set_option linter.deprecated false
set_option linter.unnecessarySimpa false
set_option linter.unusedVariables false
set_option linter.unusedSimpArgs false
set_option linter.defProp false
namespace Go.Proofs.Eng
open Go Go.Proofs
set_option maxRecDepth 100000
set_option maxHeartbeats 16000000
/-- A row with its factors. -/
structure Rw where
  A : List Int
  F : List Int
  deriving DecidableEq
def RwIs (r : Rw) (a : AV) : Prop := ∃ t u, a = .agg [.sl (ints r.A) t, .sl (ints r.F) u] ∧ t.pure = true ∧ u.pure = true
theorem rwAgg : AggR RwIs 2 := ⟨fun {x a} h => by obtain ⟨t, u, rfl, _⟩ := h; exact ⟨_, rfl, rfl, rfl⟩, fun {x a} h => by obtain ⟨t, u, rfl, h1, h2⟩ := h; simp [pureAV, pureAVs, h1, h2, ints_pure]⟩
theorem rwPure {r : Rw} {a : AV} (h : RwIs r a) : pureAV a = true := by obtain ⟨t, u, rfl, h1, h2⟩ := h; simp [pureAV, pureAVs, h1, h2, ints_pure]
theorem rwsPure {l : List Rw} {al : List AV} (h : LIs RwIs l al) : pureAVs al = true := h.pure fun _ _ h => rwPure h
/-- The bound of the elimination's numbers. -/
def limB : Int := 1073741824
/-- What is so of a row of the elimination. -/
structure RowE (w m : Nat) (r : Rw) : Prop where
  lA : r.A.length = w
  lF : r.F.length = m
  bA : Bnd limB r.A
  bF : ∀ n ∈ r.F, 0 ≤ n ∧ n ≤ limB
theorem rgcd_ret {a b : Nat} : Out md pfs 55 [.int a, .int b] (· = .int (Nat.gcd a b : Nat)) fun _ => False := by
  refine out_of pf55_is (Nat.le_of_ble_eq_true rfl) ?_
  simp only [pf55, ↓wpre, wset, wcore, ne_eq, if_true, if_false, exists_eq_left', true_implies, false_implies, exists_const, exists_eq_right, binA, intA, loadA, storeA, pickC, setAt, mapO, argsE, X.isC, resA, oneA, unA, boundA, eqiA, eqsA, fillA, fillE, ASt.fz, strA, Nat.reduceEqDiff, Nat.reduceLT, ↓reduceIte, reduceCtorEq, Nat.reduceAdd, Nat.reduceLeDiff, Int.reduceBEq, Int.reduceBNe, Int.reduceLT, Int.reduceLE, Int.reduceGT, Int.reduceGE, Nat.reduceDiv, Nat.reduceMul, Nat.reduceBEq, Nat.reduceMod, Nat.reduceSub]
  refine W_loopE (fun p => p.2) (fun (p : Nat × Nat) E H T => E 0 = .int (p.1 : Nat) ∧ E 1 = .int (p.2 : Nat) ∧ Nat.gcd p.1 p.2 = Nat.gcd a b) ?_ (a, b) ⟨rfl, rfl, rfl⟩
  rintro ⟨g, m⟩ E H T ⟨e0, e1, hg⟩
  simp only at e0 e1 hg
  by_cases hm : m = 0
  · subst hm
    have h0 : decide ((((0 : Nat) : Int)) > 0) = false := rfl
    simp only [↓wpre, wset, wcore, ne_eq, if_true, if_false, exists_eq_left', true_implies, false_implies, exists_const, exists_eq_right, binA, intA, loadA, storeA, pickC, setAt, mapO, argsE, X.isC, resA, oneA, unA, boundA, eqiA, eqsA, fillA, fillE, ASt.fz, strA, Nat.reduceEqDiff, Nat.reduceLT, ↓reduceIte, reduceCtorEq, Nat.reduceAdd, Nat.reduceLeDiff, Int.reduceBEq, Int.reduceBNe, Int.reduceLT, Int.reduceLE, Int.reduceGT, Int.reduceGE, Nat.reduceDiv, Nat.reduceMul, Nat.reduceBEq, Nat.reduceMod, Nat.reduceSub, e0, e1, h0]
    rw [Nat.gcd_zero_right] at hg
    rw [hg]
  · have h0 : decide ((m : Int) > 0) = true := by simp only [decide_eq_true_eq]; omega
    have h1 : ((m : Int) = 0) = False := by simp [hm]
    have h2 : Int.tmod (g : Int) (m : Int) = ((g % m : Nat) : Int) := rfl
    simp only [↓wpre, wset, wcore, ne_eq, if_true, if_false, exists_eq_left', true_implies, false_implies, exists_const, exists_eq_right, binA, intA, loadA, storeA, pickC, setAt, mapO, argsE, X.isC, resA, oneA, unA, boundA, eqiA, eqsA, fillA, fillE, ASt.fz, strA, Nat.reduceEqDiff, Nat.reduceLT, ↓reduceIte, reduceCtorEq, Nat.reduceAdd, Nat.reduceLeDiff, Int.reduceBEq, Int.reduceBNe, Int.reduceLT, Int.reduceLE, Int.reduceGT, Int.reduceGE, Nat.reduceDiv, Nat.reduceMul, Nat.reduceBEq, Nat.reduceMod, Nat.reduceSub, e0, e1, h0, h1, h2]
    exact EQ_in ⟨(m, g % m), Nat.mod_lt _ (by omega), rfl, rfl, by rw [← hg, Nat.gcd_comm m, ← Nat.gcd_rec, Nat.gcd_comm]⟩
theorem abs_ret {n : Int} (h : -9223372036854775807 ≤ n ∧ n ≤ 9223372036854775807) : Out md pfs 34 [.int n] (· = .int (n.natAbs : Nat)) fun _ => False := by
  refine out_of pf34_is (Nat.le_of_ble_eq_true rfl) ?_
  cases c : decide (n < 0)
  · have := of_decide_eq_false c
    simp only [pf34, ↓wpre, wset, wcore, ne_eq, if_true, if_false, exists_eq_left', true_implies, false_implies, exists_const, exists_eq_right, binA, intA, loadA, storeA, pickC, setAt, mapO, argsE, X.isC, resA, oneA, unA, boundA, eqiA, eqsA, fillA, fillE, ASt.fz, strA, Nat.reduceEqDiff, Nat.reduceLT, ↓reduceIte, reduceCtorEq, Nat.reduceAdd, Nat.reduceLeDiff, Int.reduceBEq, Int.reduceBNe, Int.reduceLT, Int.reduceLE, Int.reduceGT, Int.reduceGE, Nat.reduceDiv, Nat.reduceMul, Nat.reduceBEq, Nat.reduceMod, Nat.reduceSub, c]
    congr 1; omega
  · have := of_decide_eq_true c
    have x : IntKind.i64.wrap (0 - n) = (n.natAbs : Nat) := by rw [wrap_in (by unfold in64; omega)]; omega
    simp only [pf34, ↓wpre, wset, wcore, ne_eq, if_true, if_false, exists_eq_left', true_implies, false_implies, exists_const, exists_eq_right, binA, intA, loadA, storeA, pickC, setAt, mapO, argsE, X.isC, resA, oneA, unA, boundA, eqiA, eqsA, fillA, fillE, ASt.fz, strA, Nat.reduceEqDiff, Nat.reduceLT, ↓reduceIte, reduceCtorEq, Nat.reduceAdd, Nat.reduceLeDiff, Int.reduceBEq, Int.reduceBNe, Int.reduceLT, Int.reduceLE, Int.reduceGT, Int.reduceGE, Nat.reduceDiv, Nat.reduceMul, Nat.reduceBEq, Nat.reduceMod, Nat.reduceSub, c, x]
theorem divided_ret {l : List Int} {t : Tl} {d : Int} (hd : 0 < d) (hl : l.length ≤ 1000) (hb : Bnd 9223372036854775807 l) : Out md pfs 56 [.sl (ints l) t, .int d] (fun v => ∃ t', v = .sl (ints (l.map (·.tdiv d))) t' ∧ t'.pure = true) fun _ => False := by
  refine out_of pf56_is (Nat.le_of_ble_eq_true rfl) ?_
  simp only [pf56, ↓wpre, wset, wcore, ne_eq, if_true, if_false, exists_eq_left', true_implies, false_implies, exists_const, exists_eq_right, binA, intA, loadA, storeA, pickC, setAt, mapO, argsE, X.isC, resA, oneA, unA, boundA, eqiA, eqsA, fillA, fillE, ASt.fz, strA, Nat.reduceEqDiff, Nat.reduceLT, ↓reduceIte, reduceCtorEq, Nat.reduceAdd, Nat.reduceLeDiff, Int.reduceBEq, Int.reduceBNe, Int.reduceLT, Int.reduceLE, Int.reduceGT, Int.reduceGE, Nat.reduceDiv, Nat.reduceMul, Nat.reduceBEq, Nat.reduceMod, Nat.reduceSub]
  refine W_loopE (fun j => l.length - j) (fun j E H T => ∃ tt, E 0 = .sl (ints l) t ∧ E 1 = .int d ∧ E 5 = .sl (ints ((l.take j).map (·.tdiv d))) tt ∧ E 6 = .int (j : Nat) ∧ j ≤ l.length ∧ App T (ints ((l.take j).map (·.tdiv d))) tt) ?_ 0 ⟨.nil, rfl, rfl, rfl, rfl, Nat.zero_le _, app_start _⟩
  rintro j E H T ⟨tt, e0, e1, e5, e6, hj, hA⟩
  rcases Nat.lt_or_ge j l.length with hlt | hge
  · have hdec : decide ((j : Int) < (((ints l).length : Nat) : Int)) = true := by rw [ints_len]; simpa using hlt
    obtain ⟨x, q1, _, q3⟩ := ints_get hlt
    have ha := ints_all l
    have hx := hb x (List.mem_of_getElem? q1)
    have h1 : (d = 0) = False := by simp; omega
    have habs := Int.natAbs_tdiv_le_natAbs x d
    have x1 : IntKind.i64.wrap (x.tdiv d) = x.tdiv d := wrap_in (by unfold in64; omega)
    have htk : l.take (j + 1) = l.take j ++ [x] := by rw [List.take_add_one, q1]; rfl
    obtain ⟨t', T', ap, hA', _⟩ := app_one (x := .int (x.tdiv d)) hA (by rw [ints_len, List.length_map, List.length_take]; unfold capB; omega) (ints_all _) rfl rfl
    simp only [↓wpre, wset, wcore, ne_eq, if_true, if_false, exists_eq_left', true_implies, false_implies, exists_const, exists_eq_right, binA, intA, loadA, storeA, pickC, setAt, mapO, argsE, X.isC, resA, oneA, unA, boundA, eqiA, eqsA, fillA, fillE, ASt.fz, strA, Nat.reduceEqDiff, Nat.reduceLT, ↓reduceIte, reduceCtorEq, Nat.reduceAdd, Nat.reduceLeDiff, Int.reduceBEq, Int.reduceBNe, Int.reduceLT, Int.reduceLE, Int.reduceGT, Int.reduceGE, Nat.reduceDiv, Nat.reduceMul, Nat.reduceBEq, Nat.reduceMod, Nat.reduceSub, e0, e1, e5, e6, hdec, q3, ha, h1, x1, ap]
    exact EQ_in ⟨j + 1, by omega, t', e0, e1, by show AV.sl (ints _ ++ [_]) t' = _; rw [htk]; simp [ints], next_ixv (by unfold lenB; omega), by omega, by rw [htk]; simpa [ints] using hA'⟩
  · have hdec : decide ((j : Int) < (((ints l).length : Nat) : Int)) = false := by rw [ints_len]; simpa using hge
    rw [List.take_of_length_le (by omega)] at e5 hA
    simp only [↓wpre, wset, wcore, ne_eq, if_true, if_false, exists_eq_left', true_implies, false_implies, exists_const, exists_eq_right, binA, intA, loadA, storeA, pickC, setAt, mapO, argsE, X.isC, resA, oneA, unA, boundA, eqiA, eqsA, fillA, fillE, ASt.fz, strA, Nat.reduceEqDiff, Nat.reduceLT, ↓reduceIte, reduceCtorEq, Nat.reduceAdd, Nat.reduceLeDiff, Int.reduceBEq, Int.reduceBNe, Int.reduceLT, Int.reduceLE, Int.reduceGT, Int.reduceGE, Nat.reduceDiv, Nat.reduceMul, Nat.reduceBEq, Nat.reduceMod, Nat.reduceSub, e0, e1, e5, e6, hdec]
    obtain ⟨t', h1, h2⟩ := app_purify (s := ⟨H, T⟩) (n := 20) hA (ints_pure _) (by omega)
    exact ⟨_, h2, t', rfl, h1⟩
theorem same_ret {a b : List Int} {t u : Tl} (hl : a.length ≤ lenB) : Out md pfs 54 [.sl (ints a) t, .sl (ints b) u] (· = .bool (decide (a = b))) fun _ => False := by
  refine out_of pf54_is (Nat.le_of_ble_eq_true rfl) ?_
  by_cases hab : a.length = b.length
  · have c0 : ((((ints a).length : Nat) : Int) != (((ints b).length : Nat) : Int)) = false := by rw [ints_len, ints_len, bne_eq_false_iff_eq]; omega
    simp only [pf54, ↓wpre, wset, wcore, ne_eq, if_true, if_false, exists_eq_left', true_implies, false_implies, exists_const, exists_eq_right, binA, intA, loadA, storeA, pickC, setAt, mapO, argsE, X.isC, resA, oneA, unA, boundA, eqiA, eqsA, fillA, fillE, ASt.fz, strA, Nat.reduceEqDiff, Nat.reduceLT, ↓reduceIte, reduceCtorEq, Nat.reduceAdd, Nat.reduceLeDiff, Int.reduceBEq, Int.reduceBNe, Int.reduceLT, Int.reduceLE, Int.reduceGT, Int.reduceGE, Nat.reduceDiv, Nat.reduceMul, Nat.reduceBEq, Nat.reduceMod, Nat.reduceSub, c0]
    refine W_loopE (fun j => a.length - j) (fun j E H T => E 0 = .sl (ints a) t ∧ E 1 = .sl (ints b) u ∧ E 5 = .int (j : Nat) ∧ j ≤ a.length ∧ a.take j = b.take j) ?_ 0 ⟨rfl, rfl, rfl, Nat.zero_le _, rfl⟩
    rintro j E H T ⟨e0, e1, e5, hj, htk⟩
    rcases Nat.lt_or_ge j a.length with hlt | hge
    · have hdec : decide ((j : Int) < (((ints a).length : Nat) : Int)) = true := by rw [ints_len]; simpa using hlt
      obtain ⟨x, q1, _, q3⟩ := ints_get hlt
      obtain ⟨y, r1, _, r3⟩ := ints_get (show j < b.length by omega)
      have ha := ints_all a
      have hb := ints_all b
      by_cases hxy : x = y
      · subst hxy
        have c1 : (x != x) = false := by simp
        simp only [↓wpre, wset, wcore, ne_eq, if_true, if_false, exists_eq_left', true_implies, false_implies, exists_const, exists_eq_right, binA, intA, loadA, storeA, pickC, setAt, mapO, argsE, X.isC, resA, oneA, unA, boundA, eqiA, eqsA, fillA, fillE, ASt.fz, strA, Nat.reduceEqDiff, Nat.reduceLT, ↓reduceIte, reduceCtorEq, Nat.reduceAdd, Nat.reduceLeDiff, Int.reduceBEq, Int.reduceBNe, Int.reduceLT, Int.reduceLE, Int.reduceGT, Int.reduceGE, Nat.reduceDiv, Nat.reduceMul, Nat.reduceBEq, Nat.reduceMod, Nat.reduceSub, e0, e1, e5, hdec, q3, r3, ha, hb, c1]
        exact EQ_in ⟨j + 1, by omega, e0, e1, next_ixv (by omega), by omega, by rw [List.take_add_one, List.take_add_one, htk, q1, r1]⟩
      · have c1 : (x != y) = true := by simp [hxy]
        simp only [↓wpre, wset, wcore, ne_eq, if_true, if_false, exists_eq_left', true_implies, false_implies, exists_const, exists_eq_right, binA, intA, loadA, storeA, pickC, setAt, mapO, argsE, X.isC, resA, oneA, unA, boundA, eqiA, eqsA, fillA, fillE, ASt.fz, strA, Nat.reduceEqDiff, Nat.reduceLT, ↓reduceIte, reduceCtorEq, Nat.reduceAdd, Nat.reduceLeDiff, Int.reduceBEq, Int.reduceBNe, Int.reduceLT, Int.reduceLE, Int.reduceGT, Int.reduceGE, Nat.reduceDiv, Nat.reduceMul, Nat.reduceBEq, Nat.reduceMod, Nat.reduceSub, e0, e1, e5, hdec, q3, r3, ha, hb, c1]
        rw [decide_eq_false]
        rintro rfl
        rw [q1] at r1; cases r1; exact hxy rfl
    · have hdec : decide ((j : Int) < (((ints a).length : Nat) : Int)) = false := by rw [ints_len]; simpa using hge
      simp only [↓wpre, wset, wcore, ne_eq, if_true, if_false, exists_eq_left', true_implies, false_implies, exists_const, exists_eq_right, binA, intA, loadA, storeA, pickC, setAt, mapO, argsE, X.isC, resA, oneA, unA, boundA, eqiA, eqsA, fillA, fillE, ASt.fz, strA, Nat.reduceEqDiff, Nat.reduceLT, ↓reduceIte, reduceCtorEq, Nat.reduceAdd, Nat.reduceLeDiff, Int.reduceBEq, Int.reduceBNe, Int.reduceLT, Int.reduceLE, Int.reduceGT, Int.reduceGE, Nat.reduceDiv, Nat.reduceMul, Nat.reduceBEq, Nat.reduceMod, Nat.reduceSub, e0, e1, e5, hdec]
      rw [List.take_of_length_le (by omega), List.take_of_length_le (by omega)] at htk
      rw [decide_eq_true htk]
  · have c0 : ((((ints a).length : Nat) : Int) != (((ints b).length : Nat) : Int)) = true := by rw [ints_len, ints_len, bne_iff_ne]; omega
    simp only [pf54, ↓wpre, wset, wcore, ne_eq, if_true, if_false, exists_eq_left', true_implies, false_implies, exists_const, exists_eq_right, binA, intA, loadA, storeA, pickC, setAt, mapO, argsE, X.isC, resA, oneA, unA, boundA, eqiA, eqsA, fillA, fillE, ASt.fz, strA, Nat.reduceEqDiff, Nat.reduceLT, ↓reduceIte, reduceCtorEq, Nat.reduceAdd, Nat.reduceLeDiff, Int.reduceBEq, Int.reduceBNe, Int.reduceLT, Int.reduceLE, Int.reduceGT, Int.reduceGE, Nat.reduceDiv, Nat.reduceMul, Nat.reduceBEq, Nat.reduceMod, Nat.reduceSub, c0]
    rw [decide_eq_false (fun h => hab (by rw [h]))]
/-- A list has a row with such numbers. -/
def hasR (l : List Rw) (A : List Int) : Bool := l.any fun r => decide (r.A = A)
theorem has_ret {l : List Rw} {al : List AV} {t : Tl} {x : Rw} {a : AV} (h : LIs RwIs l al) (hx : RwIs x a) (ht : t.pure = true) (hl : al.length ≤ lenB) (hlen : ∀ r ∈ l, r.A.length ≤ lenB) : Out md pfs 46 [.sl al t, a] (· = .bool (hasR l x.A)) fun _ => False := by
  obtain ⟨tx, ux, rfl, hx1, hx2⟩ := hx
  have hln := h.len
  refine out_of pf46_is (Nat.le_of_ble_eq_true rfl) ?_
  simp only [pf46, ↓wpre, wset, wcore, ne_eq, if_true, if_false, exists_eq_left', true_implies, false_implies, exists_const, exists_eq_right, binA, intA, loadA, storeA, pickC, setAt, mapO, argsE, X.isC, resA, oneA, unA, boundA, eqiA, eqsA, fillA, fillE, ASt.fz, strA, Nat.reduceEqDiff, Nat.reduceLT, ↓reduceIte, reduceCtorEq, Nat.reduceAdd, Nat.reduceLeDiff, Int.reduceBEq, Int.reduceBNe, Int.reduceLT, Int.reduceLE, Int.reduceGT, Int.reduceGE, Nat.reduceDiv, Nat.reduceMul, Nat.reduceBEq, Nat.reduceMod, Nat.reduceSub]
  refine W_loopE (fun j => al.length - j) (fun j E H T => H[0]? = some (.cells false [.sl (ints x.A) tx, .sl (ints x.F) ux]) ∧ E 0 = .sl al t ∧ E 3 = .ptr 0 0 ∧ E 5 = .int (j : Nat) ∧ j ≤ al.length ∧ hasR (l.take j) x.A = false) ?_ 0 ⟨rfl, rfl, rfl, rfl, Nat.zero_le _, by simp [hasR]⟩
  rintro j E H T ⟨hH, e0, e3, e5, hj, hany⟩
  have hall := h.all rwAgg
  rcases Nat.lt_or_ge j al.length with hlt | hge
  · have hdec : decide ((j : Int) < al.length) = true := by simpa using hlt
    obtain ⟨r, c, g1, _, g3, g4, _, _, _, g8⟩ := h.get rwAgg hlt
    obtain ⟨tr, ur, hc, hr1, hr2⟩ := g8
    cases hc
    obtain ⟨_, rfl, c54⟩ := (same_ret (a := r.A) (b := x.A) (t := tr) (u := tx) (hlen r g3)).call rfl (by simp [pvs_cons, pvs_nil, pv_sl, hr1, hx1, ints_pure])
    by_cases hs : r.A = x.A
    · rw [decide_eq_true hs] at c54
      simp only [↓wpre, wset, wcore, ne_eq, if_true, if_false, exists_eq_left', true_implies, false_implies, exists_const, exists_eq_right, binA, intA, loadA, storeA, pickC, setAt, mapO, argsE, X.isC, resA, oneA, unA, boundA, eqiA, eqsA, fillA, fillE, ASt.fz, strA, Nat.reduceEqDiff, Nat.reduceLT, ↓reduceIte, reduceCtorEq, Nat.reduceAdd, Nat.reduceLeDiff, Int.reduceBEq, Int.reduceBNe, Int.reduceLT, Int.reduceLE, Int.reduceGT, Int.reduceGE, Nat.reduceDiv, Nat.reduceMul, Nat.reduceBEq, Nat.reduceMod, Nat.reduceSub, e0, e3, e5, hdec, g4, hall, hH, c54]
      unfold hasR
      rw [any_hit g1 (by simp [hs])]
    · rw [decide_eq_false hs] at c54
      simp only [↓wpre, wset, wcore, ne_eq, if_true, if_false, exists_eq_left', true_implies, false_implies, exists_const, exists_eq_right, binA, intA, loadA, storeA, pickC, setAt, mapO, argsE, X.isC, resA, oneA, unA, boundA, eqiA, eqsA, fillA, fillE, ASt.fz, strA, Nat.reduceEqDiff, Nat.reduceLT, ↓reduceIte, reduceCtorEq, Nat.reduceAdd, Nat.reduceLeDiff, Int.reduceBEq, Int.reduceBNe, Int.reduceLT, Int.reduceLE, Int.reduceGT, Int.reduceGE, Nat.reduceDiv, Nat.reduceMul, Nat.reduceBEq, Nat.reduceMod, Nat.reduceSub, e0, e3, e5, hdec, g4, hall, hH, c54]
      exact EQ_in ⟨j + 1, by omega, hH, e0, e3, next_ixv (by omega), by omega, any_step hany g1 (by simp [hs])⟩
  · have hdec : decide ((j : Int) < al.length) = false := by simpa using hge
    simp only [↓wpre, wset, wcore, ne_eq, if_true, if_false, exists_eq_left', true_implies, false_implies, exists_const, exists_eq_right, binA, intA, loadA, storeA, pickC, setAt, mapO, argsE, X.isC, resA, oneA, unA, boundA, eqiA, eqsA, fillA, fillE, ASt.fz, strA, Nat.reduceEqDiff, Nat.reduceLT, ↓reduceIte, reduceCtorEq, Nat.reduceAdd, Nat.reduceLeDiff, Int.reduceBEq, Int.reduceBNe, Int.reduceLT, Int.reduceLE, Int.reduceGT, Int.reduceGE, Nat.reduceDiv, Nat.reduceMul, Nat.reduceBEq, Nat.reduceMod, Nat.reduceSub, e0, e3, e5, hdec]
    unfold hasR at hany ⊢
    rw [any_all hany (by omega)]
end Go.Proofs.Eng
