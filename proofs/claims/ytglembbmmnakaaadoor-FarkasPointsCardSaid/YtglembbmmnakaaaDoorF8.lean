/- The reference combines two rows. No conditions beyond those in the theorems. -/
import Derived.Test.YtglembbmmnakaaaDoorF7
set_option linter.all false
set_option linter.deprecated false
set_option linter.unnecessarySimpa false
set_option linter.unusedVariables false
set_option linter.unusedSimpArgs false
set_option linter.defProp false
namespace Go.Proofs.Eng
open Go Go.Proofs
set_option maxRecDepth 100000
set_option maxHeartbeats 16000000
theorem gcdF_app : ∀ (l m : List Int) (g : Nat), gcdF g (l ++ m) = gcdF (gcdF g l) m
  | [], _, _ => rfl
  | n :: l, m, g => by rw [List.cons_append, gcdF, gcdF_app l m, gcdF]
/-- Two rows, combined. -/
def cg (r s : Rw) (j : Nat) : Nat := Nat.gcd (r.A.getD j 0).natAbs (s.A.getD j 0).natAbs
def cp (r s : Rw) (j : Nat) : Int := ((s.A.getD j 0).natAbs : Int).tdiv (cg r s j)
def cq (r s : Rw) (j : Nat) : Int := ((r.A.getD j 0).natAbs : Int).tdiv (cg r s j)
def combX (r s : Rw) (j : Nat) : Rw := ⟨addM (cp r s j) (cq r s j) r.A s.A, addM (cp r s j) (cq r s j) r.F s.F⟩
def gcdX (x : Rw) : Nat := gcdL (x.A ++ x.F)
def divX (x : Rw) : Rw := if gcdX x > 1 then ⟨x.A.map (·.tdiv (gcdX x)), x.F.map (·.tdiv (gcdX x))⟩ else x
def bigA (n : Int) : Bool := decide ((n.natAbs : Int) > limB)
def bigF (n : Int) : Bool := decide (n > limB)
def longX (x : Rw) : Bool := x.A.any bigA || x.F.any bigF
/-- The factors of a combination. -/
structure CombOK (r s : Rw) (j : Nat) : Prop where
  ra : ∃ a : Nat, r.A[j]? = some (a : Int) ∧ 0 < a ∧ (a : Int) ≤ limB
  sa : ∃ b : Nat, s.A[j]? = some (-(b : Int)) ∧ 0 < b ∧ (b : Int) ≤ limB
theorem comb_pos {r s : Rw} {j : Nat} (h : CombOK r s j) : 0 < cg r s j ∧ 0 ≤ cp r s j ∧ cp r s j ≤ limB ∧ 0 ≤ cq r s j ∧ cq r s j ≤ limB := by
  obtain ⟨a, ha, ha0, hal⟩ := h.ra
  obtain ⟨b, hb, hb0, hbl⟩ := h.sa
  have e1 : (r.A.getD j 0).natAbs = a := by rw [List.getD_eq_getElem?_getD, ha]; simp
  have e2 : (s.A.getD j 0).natAbs = b := by rw [List.getD_eq_getElem?_getD, hb]; simp
  have hg : 0 < Nat.gcd a b := Nat.gcd_pos_of_pos_left _ ha0
  refine ⟨by rw [cg, e1, e2]; exact hg, ?_⟩
  unfold cp cq cg
  rw [e1, e2]
  have q1 : ((b : Int).tdiv (Nat.gcd a b : Nat)) = ((b / Nat.gcd a b : Nat) : Int) := rfl
  have q2 : ((a : Int).tdiv (Nat.gcd a b : Nat)) = ((a / Nat.gcd a b : Nat) : Int) := rfl
  rw [q1, q2]
  have u1 := Nat.div_le_self b (Nat.gcd a b)
  have u2 := Nat.div_le_self a (Nat.gcd a b)
  generalize b / Nat.gcd a b = u at *
  generalize a / Nat.gcd a b = v at *
  omega
theorem prod_bnd {p x : Int} (h0 : 0 ≤ p) (h1 : p ≤ limB) (h2 : -limB ≤ x) (h3 : x ≤ limB) : -1152921504606846976 ≤ p * x ∧ p * x ≤ 1152921504606846976 := by
  unfold limB at *
  have a1 := Int.mul_le_mul_of_nonneg_left h2 h0
  have a2 := Int.mul_le_mul_of_nonneg_left h3 h0
  rw [Int.mul_neg] at a1
  omega
theorem comb_in {r s : Rw} {j : Nat} (h : CombOK r s j) {x y : Int} (hx : -limB ≤ x ∧ x ≤ limB) (hy : -limB ≤ y ∧ y ≤ limB) : in64 (cp r s j * x) ∧ in64 (cq r s j * y) ∧ in64 (cp r s j * x + cq r s j * y) ∧ -9223372036854775807 ≤ cp r s j * x + cq r s j * y ∧ cp r s j * x + cq r s j * y ≤ 9223372036854775807 := by
  obtain ⟨_, p0, p1, q0, q1⟩ := comb_pos h
  have a1 := prod_bnd p0 p1 hx.1 hx.2
  have a2 := prod_bnd q0 q1 hy.1 hy.2
  unfold in64
  omega
theorem addM_mem {p q n : Int} {a b : List Int} (h : n ∈ addM p q a b) : ∃ x ∈ a, ∃ y ∈ b, n = p * x + q * y := by
  induction a generalizing b with
  | nil => simp [addM] at h
  | cons x a ih =>
    cases b with
    | nil => simp [addM] at h
    | cons y b =>
      simp only [addM, List.zipWith_cons_cons, List.mem_cons] at h
      rcases h with rfl | h
      · exact ⟨x, by simp, y, by simp, rfl⟩
      · obtain ⟨x', h1, y', h2, h3⟩ := ih h
        exact ⟨x', by simp [h1], y', by simp [h2], h3⟩
/-- What is so of a combination ahead of its division. -/
theorem combX_bnd {r s : Rw} {j w m : Nat} (h : CombOK r s j) (hr : RowE w m r) (hs : RowE w m s) : (combX r s j).A.length = w ∧ (combX r s j).F.length = m ∧ Bnd 9223372036854775807 (combX r s j).A ∧ Bnd 9223372036854775807 (combX r s j).F := by
  refine ⟨by show (addM _ _ _ _).length = _; rw [addM_len (by rw [hr.lA, hs.lA]), hr.lA], by show (addM _ _ _ _).length = _; rw [addM_len (by rw [hr.lF, hs.lF]), hr.lF], fun n hn => ?_, fun n hn => ?_⟩
  · obtain ⟨x, hx, y, hy, rfl⟩ := addM_mem hn
    exact (comb_in h (hr.bA x hx) (hs.bA y hy)).2.2.2
  · obtain ⟨x, hx, y, hy, rfl⟩ := addM_mem hn
    have h1 := hr.bF x hx
    have h2 := hs.bF y hy
    unfold limB at h1 h2
    exact (comb_in h (by unfold limB; omega) (by unfold limB; omega)).2.2.2
theorem combine_ret {r s : Rw} {a b : AV} {j w m : Nat} (ha : RwIs r a) (hb : RwIs s b) (hc : CombOK r s j) (hr : RowE w m r) (hs : RowE w m s) (hw : w ≤ 9) (hm : m ≤ 24) : Out md pfs 47 [a, b, .int (j : Nat)] (fun v => ∃ c, v = .tup [c, .bool (!longX (divX (combX r s j)))] ∧ RwIs (divX (combX r s j)) c) fun _ => False := by
  obtain ⟨ta, ua, rfl, ha1, ha2⟩ := ha
  obtain ⟨tb, ub, rfl, hb1, hb2⟩ := hb
  obtain ⟨g0, p0, p1, q0, q1⟩ := comb_pos hc
  obtain ⟨xA, xF, bA, bF⟩ := combX_bnd hc hr hs
  obtain ⟨x, hx, hx0, hxl⟩ := hc.ra
  obtain ⟨y, hy, hy0, hyl⟩ := hc.sa
  have ex : r.A.getD j 0 = x := by rw [List.getD_eq_getElem?_getD, hx]; rfl
  have ey : s.A.getD j 0 = -(y : Int) := by rw [List.getD_eq_getElem?_getD, hy]; rfl
  have i1 : (ints r.A)[j]? = some (.int x) := by simp [ints, hx]
  have i2 : (ints s.A)[j]? = some (.int (-(y : Int))) := by simp [ints, hy]
  have hg : cg r s j = Nat.gcd x y := by rw [cg, ex, ey]; simp
  have n1 : IntKind.i64.wrap (0 - -(y : Int)) = (y : Int) := by unfold limB at hyl; rw [wrap_in (by unfold in64; omega)]; omega
  have z1 : (((Nat.gcd x y : Nat) : Int) = 0) = False := by rw [← hg]; simp; omega
  have ep : cp r s j = (y : Int).tdiv (Nat.gcd x y : Nat) := by rw [cp, ey, hg]; simp
  have eq : cq r s j = (x : Int).tdiv (Nat.gcd x y : Nat) := by rw [cq, ex, hg]; simp
  have w1 : IntKind.i64.wrap ((y : Int).tdiv (Nat.gcd x y : Nat)) = cp r s j := by rw [← ep]; unfold limB at p1; exact wrap_in (by unfold in64; omega)
  have w2 : IntKind.i64.wrap ((x : Int).tdiv (Nat.gcd x y : Nat)) = cq r s j := by rw [← eq]; unfold limB at q1; exact wrap_in (by unfold in64; omega)
  obtain ⟨_, rfl, c55⟩ := (rgcd_ret (a := x) (b := y)).call rfl (by simp [pvs_cons, pvs_nil, pv_v])
  obtain ⟨_, ⟨t1, rfl, ht1⟩, c30a⟩ := (rsum_ret (a := r.A) (b := s.A) (t := ta) (u := tb) (p := cp r s j) (q := cq r s j) (by rw [hr.lA, hs.lA]) (by rw [hr.lA]; omega) (fun n hn k hk => by
    obtain ⟨e1, e2, e3, _⟩ := comb_in hc (hr.bA n hn) (hs.bA k hk); exact ⟨e1, e2, e3⟩)).call rfl (by simp [pvs_cons, pvs_nil, pv_sl, ha1, hb1, ints_pure, pv_v])
  obtain ⟨_, ⟨t2, rfl, ht2⟩, c30b⟩ := (rsum_ret (a := r.F) (b := s.F) (t := ua) (u := ub) (p := cp r s j) (q := cq r s j) (by rw [hr.lF, hs.lF]) (by rw [hr.lF]; omega) (fun n hn k hk => by
    have h1 := hr.bF n hn
    have h2 := hs.bF k hk
    unfold limB at h1 h2
    obtain ⟨e1, e2, e3, _⟩ := comb_in hc (x := n) (y := k) (by unfold limB; omega) (by unfold limB; omega); exact ⟨e1, e2, e3⟩)).call rfl (by simp [pvs_cons, pvs_nil, pv_sl, ha2, hb2, ints_pure, pv_v])
  have hra := ints_all r.A
  have hsa := ints_all s.A
  refine out_of pf47_is (Nat.le_of_ble_eq_true rfl) ?_
  simp only [pf47, ↓wpre, wset, wcore, ne_eq, if_true, if_false, exists_eq_left', true_implies, false_implies, exists_const, exists_eq_right, binA, intA, loadA, storeA, pickC, setAt, mapO, argsE, X.isC, resA, oneA, unA, boundA, eqiA, eqsA, fillA, fillE, ASt.fz, strA, Nat.reduceEqDiff, Nat.reduceLT, ↓reduceIte, reduceCtorEq, Nat.reduceAdd, Nat.reduceLeDiff, Int.reduceBEq, Int.reduceBNe, Int.reduceLT, Int.reduceLE, Int.reduceGT, Int.reduceGE, Nat.reduceDiv, Nat.reduceMul, Nat.reduceBEq, Nat.reduceMod, Nat.reduceSub, i1, i2, hra, hsa, n1, c55, z1, w1, w2, c30a, c30b]
  have hX : combX r s j = ⟨addM (cp r s j) (cq r s j) r.A s.A, addM (cp r s j) (cq r s j) r.F s.F⟩ := rfl
  generalize addM (cp r s j) (cq r s j) r.A s.A = XA at *
  generalize addM (cp r s j) (cq r s j) r.F s.F = XF at *
  rw [hX] at xA xF bA bF ⊢
  simp only at xA xF bA bF
  refine W_loopE (fun k => XA.length - k) (fun k E H T => H = [.cells false [.sl (ints r.A) ta, .sl (ints r.F) ua], .cells false [.sl (ints s.A) tb, .sl (ints s.F) ub], .cells false [.sl [] .nil, .sl [] .nil], .cells false [.sl (ints XA) t1, .sl (ints XF) t2]] ∧ E 6 = .ptr 2 0 ∧ E 11 = .ptr 3 0 ∧ E 12 = .int (gcdF 0 (XA.take k) : Nat) ∧ E 13 = .int (k : Nat) ∧ k ≤ XA.length) ?_ 0 ⟨rfl, rfl, rfl, rfl, rfl, Nat.zero_le _⟩
  rintro k E H T ⟨rfl, e6, e11, e12, e13, hk⟩
  have hXa := ints_all XA
  have hXf := ints_all XF
  rcases Nat.lt_or_ge k XA.length with hkl | hkg
  · have hdec : decide ((k : Int) < (((ints XA).length : Nat) : Int)) = true := by rw [ints_len]; simpa using hkl
    obtain ⟨n, q1, _, q3⟩ := ints_get hkl
    obtain ⟨_, rfl, c34⟩ := (abs_ret (bA n (List.mem_of_getElem? q1))).call rfl (by simp [pvs_cons, pvs_nil, pv_v])
    obtain ⟨_, rfl, c55⟩ := (rgcd_ret (a := n.natAbs) (b := gcdF 0 (XA.take k))).call rfl (by simp [pvs_cons, pvs_nil, pv_v])
    simp only [↓wpre, wset, wcore, ne_eq, if_true, if_false, exists_eq_left', true_implies, false_implies, exists_const, exists_eq_right, binA, intA, loadA, storeA, pickC, setAt, mapO, argsE, X.isC, resA, oneA, unA, boundA, eqiA, eqsA, fillA, fillE, ASt.fz, strA, Nat.reduceEqDiff, Nat.reduceLT, ↓reduceIte, reduceCtorEq, Nat.reduceAdd, Nat.reduceLeDiff, Int.reduceBEq, Int.reduceBNe, Int.reduceLT, Int.reduceLE, Int.reduceGT, Int.reduceGE, Nat.reduceDiv, Nat.reduceMul, Nat.reduceBEq, Nat.reduceMod, Nat.reduceSub, e6, e11, e12, e13, hdec, q3, hXa, c34, c55]
    exact EQ_in ⟨k + 1, by omega, rfl, e6, e11, by rw [gcdF_take q1, Nat.gcd_comm]; rfl, next_ixv (by unfold lenB; omega), by omega⟩
  have hdec : decide ((k : Int) < (((ints XA).length : Nat) : Int)) = false := by rw [ints_len]; simpa using hkg
  rw [List.take_of_length_le hkg] at e12
  simp only [↓wpre, wset, wcore, ne_eq, if_true, if_false, exists_eq_left', true_implies, false_implies, exists_const, exists_eq_right, binA, intA, loadA, storeA, pickC, setAt, mapO, argsE, X.isC, resA, oneA, unA, boundA, eqiA, eqsA, fillA, fillE, ASt.fz, strA, Nat.reduceEqDiff, Nat.reduceLT, ↓reduceIte, reduceCtorEq, Nat.reduceAdd, Nat.reduceLeDiff, Int.reduceBEq, Int.reduceBNe, Int.reduceLT, Int.reduceLE, Int.reduceGT, Int.reduceGE, Nat.reduceDiv, Nat.reduceMul, Nat.reduceBEq, Nat.reduceMod, Nat.reduceSub, e6, e11, e12, e13, hdec]
  refine W_loopE (fun k => XF.length - k) (fun k E H T => H = [.cells false [.sl (ints r.A) ta, .sl (ints r.F) ua], .cells false [.sl (ints s.A) tb, .sl (ints s.F) ub], .cells false [.sl [] .nil, .sl [] .nil], .cells false [.sl (ints XA) t1, .sl (ints XF) t2]] ∧ E 6 = .ptr 2 0 ∧ E 11 = .ptr 3 0 ∧ E 12 = .int (gcdF (gcdF 0 XA) (XF.take k) : Nat) ∧ E 14 = .int (k : Nat) ∧ k ≤ XF.length) ?_ 0 ⟨rfl, e6, e11, e12, rfl, Nat.zero_le _⟩
  clear e6 e11 e12 e13 hdec hkg hk k
  rintro k E H T ⟨rfl, e6, e11, e12, e14, hk⟩
  rcases Nat.lt_or_ge k XF.length with hkl | hkg
  · have hdec : decide ((k : Int) < (((ints XF).length : Nat) : Int)) = true := by rw [ints_len]; simpa using hkl
    obtain ⟨n, q1, _, q3⟩ := ints_get hkl
    obtain ⟨_, rfl, c34⟩ := (abs_ret (bF n (List.mem_of_getElem? q1))).call rfl (by simp [pvs_cons, pvs_nil, pv_v])
    obtain ⟨_, rfl, c55⟩ := (rgcd_ret (a := n.natAbs) (b := gcdF (gcdF 0 XA) (XF.take k))).call rfl (by simp [pvs_cons, pvs_nil, pv_v])
    simp only [↓wpre, wset, wcore, ne_eq, if_true, if_false, exists_eq_left', true_implies, false_implies, exists_const, exists_eq_right, binA, intA, loadA, storeA, pickC, setAt, mapO, argsE, X.isC, resA, oneA, unA, boundA, eqiA, eqsA, fillA, fillE, ASt.fz, strA, Nat.reduceEqDiff, Nat.reduceLT, ↓reduceIte, reduceCtorEq, Nat.reduceAdd, Nat.reduceLeDiff, Int.reduceBEq, Int.reduceBNe, Int.reduceLT, Int.reduceLE, Int.reduceGT, Int.reduceGE, Nat.reduceDiv, Nat.reduceMul, Nat.reduceBEq, Nat.reduceMod, Nat.reduceSub, e6, e11, e12, e14, hdec, q3, hXf, c34, c55]
    exact EQ_in ⟨k + 1, by omega, rfl, e6, e11, by rw [gcdF_take q1, Nat.gcd_comm]; rfl, next_ixv (by unfold lenB; omega), by omega⟩
  have hdec : decide ((k : Int) < (((ints XF).length : Nat) : Int)) = false := by rw [ints_len]; simpa using hkg
  rw [List.take_of_length_le hkg] at e12
  have hgd : gcdX ⟨XA, XF⟩ = gcdF (gcdF 0 XA) XF := by rw [gcdX, gcdL, gcdF_app]
  generalize gcdF (gcdF 0 XA) XF = d at *
  by_cases hd : d > 1
  · have c85 : decide ((d : Int) > 1) = true := by simp only [decide_eq_true_eq]; omega
    obtain ⟨_, ⟨t3, rfl, ht3⟩, c56a⟩ := (divided_ret (l := XA) (t := t1) (d := d) (by omega) (by omega) bA).call rfl (by simp [pvs_cons, pvs_nil, pv_sl, ht1, ints_pure, pv_v])
    obtain ⟨_, ⟨t4, rfl, ht4⟩, c56b⟩ := (divided_ret (l := XF) (t := t2) (d := d) (by omega) (by omega) bF).call rfl (by simp [pvs_cons, pvs_nil, pv_sl, ht2, ints_pure, pv_v])
    have hY : divX ⟨XA, XF⟩ = ⟨XA.map (·.tdiv d), XF.map (·.tdiv d)⟩ := by rw [divX, hgd, if_pos hd]
    have lA : (XA.map (·.tdiv (d : Int))).length = w := by rw [List.length_map, xA]
    have lF : (XF.map (·.tdiv (d : Int))).length = m := by rw [List.length_map, xF]
    have yA : Bnd 9223372036854775807 (XA.map (·.tdiv (d : Int))) := fun n hn => by
      obtain ⟨x, hx, rfl⟩ := List.mem_map.1 hn
      have h1 := bA x hx
      have := Int.natAbs_tdiv_le_natAbs x d
      omega
    simp only [↓wpre, wset, wcore, ne_eq, if_true, if_false, exists_eq_left', true_implies, false_implies, exists_const, exists_eq_right, binA, intA, loadA, storeA, pickC, setAt, mapO, argsE, X.isC, resA, oneA, unA, boundA, eqiA, eqsA, fillA, fillE, ASt.fz, strA, Nat.reduceEqDiff, Nat.reduceLT, ↓reduceIte, reduceCtorEq, Nat.reduceAdd, Nat.reduceLeDiff, Int.reduceBEq, Int.reduceBNe, Int.reduceLT, Int.reduceLE, Int.reduceGT, Int.reduceGE, Nat.reduceDiv, Nat.reduceMul, Nat.reduceBEq, Nat.reduceMod, Nat.reduceSub, e6, e11, e12, e14, hdec, c85, c56a, c56b]
    rw [hY]
    generalize XA.map (·.tdiv (d : Int)) = YA at *
    generalize XF.map (·.tdiv (d : Int)) = YF at *
    have hYa := ints_all YA
    have hpz : ∀ z, purify 19 z (.agg [.sl (ints YA) t3, .sl (ints YF) t4]) = some (.agg [.sl (ints YA) t3, .sl (ints YF) t4]) := fun z => purify_pure (by simp [pureAV, pureAVs, ht3, ht4, ints_pure])
    have hYf := ints_all YF
    refine W_loopE (fun k => YA.length - k) (fun k E H T => H = [.cells false [.sl (ints r.A) ta, .sl (ints r.F) ua], .cells false [.sl (ints s.A) tb, .sl (ints s.F) ub], .cells false [.sl [] .nil, .sl [] .nil], .cells false [.sl (ints YA) t3, .sl (ints YF) t4]] ∧ E 6 = .ptr 2 0 ∧ E 11 = .ptr 3 0 ∧ E 15 = .int (k : Nat) ∧ k ≤ YA.length ∧ (YA.take k).any bigA = false) ?_ 0 ⟨rfl, e6, e11, rfl, Nat.zero_le _, by simp⟩
    clear e6 e11 e12 e14 hdec hkg hk k
    rintro k E H T ⟨rfl, e6, e11, e15, hk, hka⟩
    rcases Nat.lt_or_ge k YA.length with hkl | hkg
    · have hdec : decide ((k : Int) < (((ints YA).length : Nat) : Int)) = true := by rw [ints_len]; simpa using hkl
      obtain ⟨n, q1, _, q3⟩ := ints_get hkl
      obtain ⟨_, rfl, c34⟩ := (abs_ret (yA n (List.mem_of_getElem? q1))).call rfl (by simp [pvs_cons, pvs_nil, pv_v])
      cases c8 : decide (((n.natAbs : Nat) : Int) > 1073741824)
      · simp only [↓wpre, wset, wcore, ne_eq, if_true, if_false, exists_eq_left', true_implies, false_implies, exists_const, exists_eq_right, binA, intA, loadA, storeA, pickC, setAt, mapO, argsE, X.isC, resA, oneA, unA, boundA, eqiA, eqsA, fillA, fillE, ASt.fz, strA, Nat.reduceEqDiff, Nat.reduceLT, ↓reduceIte, reduceCtorEq, Nat.reduceAdd, Nat.reduceLeDiff, Int.reduceBEq, Int.reduceBNe, Int.reduceLT, Int.reduceLE, Int.reduceGT, Int.reduceGE, Nat.reduceDiv, Nat.reduceMul, Nat.reduceBEq, Nat.reduceMod, Nat.reduceSub, e6, e11, e15, hdec, q3, hYa, c34, c8]
        exact EQ_in ⟨k + 1, by omega, rfl, e6, e11, next_ixv (by unfold lenB; omega), by omega, any_step hka q1 c8⟩
      · simp only [↓wpre, wset, wcore, ne_eq, if_true, if_false, exists_eq_left', true_implies, false_implies, exists_const, exists_eq_right, binA, intA, loadA, storeA, pickC, setAt, mapO, argsE, X.isC, resA, oneA, unA, boundA, eqiA, eqsA, fillA, fillE, ASt.fz, strA, Nat.reduceEqDiff, Nat.reduceLT, ↓reduceIte, reduceCtorEq, Nat.reduceAdd, Nat.reduceLeDiff, Int.reduceBEq, Int.reduceBNe, Int.reduceLT, Int.reduceLE, Int.reduceGT, Int.reduceGE, Nat.reduceDiv, Nat.reduceMul, Nat.reduceBEq, Nat.reduceMod, Nat.reduceSub, e6, e11, e15, hdec, q3, hYa, c34, c8, hpz]
        have hb : longX ⟨YA, YF⟩ = true := by unfold longX; rw [show (YA.any bigA) = true from any_hit q1 (show bigA n = true from c8)]; rfl
        exact ⟨.agg [.sl (ints YA) t3, .sl (ints YF) t4], by rw [hb]; rfl, _, _, rfl, ht3, ht4⟩
    have hdec : decide ((k : Int) < (((ints YA).length : Nat) : Int)) = false := by rw [ints_len]; simpa using hkg
    have hnA := any_all hka hkg
    simp only [↓wpre, wset, wcore, ne_eq, if_true, if_false, exists_eq_left', true_implies, false_implies, exists_const, exists_eq_right, binA, intA, loadA, storeA, pickC, setAt, mapO, argsE, X.isC, resA, oneA, unA, boundA, eqiA, eqsA, fillA, fillE, ASt.fz, strA, Nat.reduceEqDiff, Nat.reduceLT, ↓reduceIte, reduceCtorEq, Nat.reduceAdd, Nat.reduceLeDiff, Int.reduceBEq, Int.reduceBNe, Int.reduceLT, Int.reduceLE, Int.reduceGT, Int.reduceGE, Nat.reduceDiv, Nat.reduceMul, Nat.reduceBEq, Nat.reduceMod, Nat.reduceSub, e6, e11, e15, hdec]
    refine W_loopE (fun k => YF.length - k) (fun k E H T => H = [.cells false [.sl (ints r.A) ta, .sl (ints r.F) ua], .cells false [.sl (ints s.A) tb, .sl (ints s.F) ub], .cells false [.sl [] .nil, .sl [] .nil], .cells false [.sl (ints YA) t3, .sl (ints YF) t4]] ∧ E 6 = .ptr 2 0 ∧ E 11 = .ptr 3 0 ∧ E 16 = .int (k : Nat) ∧ k ≤ YF.length ∧ (YF.take k).any bigF = false) ?_ 0 ⟨rfl, e6, e11, rfl, Nat.zero_le _, by simp⟩
    clear e6 e11 e15 hdec hkg hk hka k
    rintro k E H T ⟨rfl, e6, e11, e16, hk, hka⟩
    rcases Nat.lt_or_ge k YF.length with hkl | hkg
    · have hdec : decide ((k : Int) < (((ints YF).length : Nat) : Int)) = true := by rw [ints_len]; simpa using hkl
      obtain ⟨n, q1, _, q3⟩ := ints_get hkl
      cases c8 : decide (n > 1073741824)
      · simp only [↓wpre, wset, wcore, ne_eq, if_true, if_false, exists_eq_left', true_implies, false_implies, exists_const, exists_eq_right, binA, intA, loadA, storeA, pickC, setAt, mapO, argsE, X.isC, resA, oneA, unA, boundA, eqiA, eqsA, fillA, fillE, ASt.fz, strA, Nat.reduceEqDiff, Nat.reduceLT, ↓reduceIte, reduceCtorEq, Nat.reduceAdd, Nat.reduceLeDiff, Int.reduceBEq, Int.reduceBNe, Int.reduceLT, Int.reduceLE, Int.reduceGT, Int.reduceGE, Nat.reduceDiv, Nat.reduceMul, Nat.reduceBEq, Nat.reduceMod, Nat.reduceSub, e6, e11, e16, hdec, q3, hYf, c8]
        exact EQ_in ⟨k + 1, by omega, rfl, e6, e11, next_ixv (by unfold lenB; omega), by omega, any_step hka q1 c8⟩
      · simp only [↓wpre, wset, wcore, ne_eq, if_true, if_false, exists_eq_left', true_implies, false_implies, exists_const, exists_eq_right, binA, intA, loadA, storeA, pickC, setAt, mapO, argsE, X.isC, resA, oneA, unA, boundA, eqiA, eqsA, fillA, fillE, ASt.fz, strA, Nat.reduceEqDiff, Nat.reduceLT, ↓reduceIte, reduceCtorEq, Nat.reduceAdd, Nat.reduceLeDiff, Int.reduceBEq, Int.reduceBNe, Int.reduceLT, Int.reduceLE, Int.reduceGT, Int.reduceGE, Nat.reduceDiv, Nat.reduceMul, Nat.reduceBEq, Nat.reduceMod, Nat.reduceSub, e6, e11, e16, hdec, q3, hYf, c8, hpz]
        have hb : longX ⟨YA, YF⟩ = true := by unfold longX; rw [show (YF.any bigF) = true from any_hit q1 (show bigF n = true from c8), Bool.or_true]
        exact ⟨.agg [.sl (ints YA) t3, .sl (ints YF) t4], by rw [hb]; rfl, _, _, rfl, ht3, ht4⟩
    have hdec : decide ((k : Int) < (((ints YF).length : Nat) : Int)) = false := by rw [ints_len]; simpa using hkg
    have hnF := any_all hka hkg
    simp only [↓wpre, wset, wcore, ne_eq, if_true, if_false, exists_eq_left', true_implies, false_implies, exists_const, exists_eq_right, binA, intA, loadA, storeA, pickC, setAt, mapO, argsE, X.isC, resA, oneA, unA, boundA, eqiA, eqsA, fillA, fillE, ASt.fz, strA, Nat.reduceEqDiff, Nat.reduceLT, ↓reduceIte, reduceCtorEq, Nat.reduceAdd, Nat.reduceLeDiff, Int.reduceBEq, Int.reduceBNe, Int.reduceLT, Int.reduceLE, Int.reduceGT, Int.reduceGE, Nat.reduceDiv, Nat.reduceMul, Nat.reduceBEq, Nat.reduceMod, Nat.reduceSub, e6, e11, e16, hdec, hpz]
    have hb : longX ⟨YA, YF⟩ = false := by unfold longX; rw [hnA, hnF]; rfl
    exact ⟨.agg [.sl (ints YA) t3, .sl (ints YF) t4], by rw [hb]; rfl, _, _, rfl, ht3, ht4⟩
  · have c85 : decide ((d : Int) > 1) = false := by simp only [decide_eq_false_iff_not]; omega
    have hY : divX ⟨XA, XF⟩ = ⟨XA, XF⟩ := by rw [divX, hgd, if_neg hd]
    have yA := bA
    have lA := xA
    have lF := xF
    simp only [↓wpre, wset, wcore, ne_eq, if_true, if_false, exists_eq_left', true_implies, false_implies, exists_const, exists_eq_right, binA, intA, loadA, storeA, pickC, setAt, mapO, argsE, X.isC, resA, oneA, unA, boundA, eqiA, eqsA, fillA, fillE, ASt.fz, strA, Nat.reduceEqDiff, Nat.reduceLT, ↓reduceIte, reduceCtorEq, Nat.reduceAdd, Nat.reduceLeDiff, Int.reduceBEq, Int.reduceBNe, Int.reduceLT, Int.reduceLE, Int.reduceGT, Int.reduceGE, Nat.reduceDiv, Nat.reduceMul, Nat.reduceBEq, Nat.reduceMod, Nat.reduceSub, e6, e11, e12, e14, hdec, c85]
    rw [hY]
    have hYa := ints_all XA
    have hpz : ∀ z, purify 19 z (.agg [.sl (ints XA) t1, .sl (ints XF) t2]) = some (.agg [.sl (ints XA) t1, .sl (ints XF) t2]) := fun z => purify_pure (by simp [pureAV, pureAVs, ht1, ht2, ints_pure])
    have hYf := ints_all XF
    refine W_loopE (fun k => XA.length - k) (fun k E H T => H = [.cells false [.sl (ints r.A) ta, .sl (ints r.F) ua], .cells false [.sl (ints s.A) tb, .sl (ints s.F) ub], .cells false [.sl [] .nil, .sl [] .nil], .cells false [.sl (ints XA) t1, .sl (ints XF) t2]] ∧ E 6 = .ptr 2 0 ∧ E 11 = .ptr 3 0 ∧ E 15 = .int (k : Nat) ∧ k ≤ XA.length ∧ (XA.take k).any bigA = false) ?_ 0 ⟨rfl, e6, e11, rfl, Nat.zero_le _, by simp⟩
    clear e6 e11 e12 e14 hdec hkg hk k
    rintro k E H T ⟨rfl, e6, e11, e15, hk, hka⟩
    rcases Nat.lt_or_ge k XA.length with hkl | hkg
    · have hdec : decide ((k : Int) < (((ints XA).length : Nat) : Int)) = true := by rw [ints_len]; simpa using hkl
      obtain ⟨n, q1, _, q3⟩ := ints_get hkl
      obtain ⟨_, rfl, c34⟩ := (abs_ret (yA n (List.mem_of_getElem? q1))).call rfl (by simp [pvs_cons, pvs_nil, pv_v])
      cases c8 : decide (((n.natAbs : Nat) : Int) > 1073741824)
      · simp only [↓wpre, wset, wcore, ne_eq, if_true, if_false, exists_eq_left', true_implies, false_implies, exists_const, exists_eq_right, binA, intA, loadA, storeA, pickC, setAt, mapO, argsE, X.isC, resA, oneA, unA, boundA, eqiA, eqsA, fillA, fillE, ASt.fz, strA, Nat.reduceEqDiff, Nat.reduceLT, ↓reduceIte, reduceCtorEq, Nat.reduceAdd, Nat.reduceLeDiff, Int.reduceBEq, Int.reduceBNe, Int.reduceLT, Int.reduceLE, Int.reduceGT, Int.reduceGE, Nat.reduceDiv, Nat.reduceMul, Nat.reduceBEq, Nat.reduceMod, Nat.reduceSub, e6, e11, e15, hdec, q3, hYa, c34, c8]
        exact EQ_in ⟨k + 1, by omega, rfl, e6, e11, next_ixv (by unfold lenB; omega), by omega, any_step hka q1 c8⟩
      · simp only [↓wpre, wset, wcore, ne_eq, if_true, if_false, exists_eq_left', true_implies, false_implies, exists_const, exists_eq_right, binA, intA, loadA, storeA, pickC, setAt, mapO, argsE, X.isC, resA, oneA, unA, boundA, eqiA, eqsA, fillA, fillE, ASt.fz, strA, Nat.reduceEqDiff, Nat.reduceLT, ↓reduceIte, reduceCtorEq, Nat.reduceAdd, Nat.reduceLeDiff, Int.reduceBEq, Int.reduceBNe, Int.reduceLT, Int.reduceLE, Int.reduceGT, Int.reduceGE, Nat.reduceDiv, Nat.reduceMul, Nat.reduceBEq, Nat.reduceMod, Nat.reduceSub, e6, e11, e15, hdec, q3, hYa, c34, c8, hpz]
        have hb : longX ⟨XA, XF⟩ = true := by unfold longX; rw [show (XA.any bigA) = true from any_hit q1 (show bigA n = true from c8)]; rfl
        exact ⟨.agg [.sl (ints XA) t1, .sl (ints XF) t2], by rw [hb]; rfl, _, _, rfl, ht1, ht2⟩
    have hdec : decide ((k : Int) < (((ints XA).length : Nat) : Int)) = false := by rw [ints_len]; simpa using hkg
    have hnA := any_all hka hkg
    simp only [↓wpre, wset, wcore, ne_eq, if_true, if_false, exists_eq_left', true_implies, false_implies, exists_const, exists_eq_right, binA, intA, loadA, storeA, pickC, setAt, mapO, argsE, X.isC, resA, oneA, unA, boundA, eqiA, eqsA, fillA, fillE, ASt.fz, strA, Nat.reduceEqDiff, Nat.reduceLT, ↓reduceIte, reduceCtorEq, Nat.reduceAdd, Nat.reduceLeDiff, Int.reduceBEq, Int.reduceBNe, Int.reduceLT, Int.reduceLE, Int.reduceGT, Int.reduceGE, Nat.reduceDiv, Nat.reduceMul, Nat.reduceBEq, Nat.reduceMod, Nat.reduceSub, e6, e11, e15, hdec]
    refine W_loopE (fun k => XF.length - k) (fun k E H T => H = [.cells false [.sl (ints r.A) ta, .sl (ints r.F) ua], .cells false [.sl (ints s.A) tb, .sl (ints s.F) ub], .cells false [.sl [] .nil, .sl [] .nil], .cells false [.sl (ints XA) t1, .sl (ints XF) t2]] ∧ E 6 = .ptr 2 0 ∧ E 11 = .ptr 3 0 ∧ E 16 = .int (k : Nat) ∧ k ≤ XF.length ∧ (XF.take k).any bigF = false) ?_ 0 ⟨rfl, e6, e11, rfl, Nat.zero_le _, by simp⟩
    clear e6 e11 e15 hdec hkg hk hka k
    rintro k E H T ⟨rfl, e6, e11, e16, hk, hka⟩
    rcases Nat.lt_or_ge k XF.length with hkl | hkg
    · have hdec : decide ((k : Int) < (((ints XF).length : Nat) : Int)) = true := by rw [ints_len]; simpa using hkl
      obtain ⟨n, q1, _, q3⟩ := ints_get hkl
      cases c8 : decide (n > 1073741824)
      · simp only [↓wpre, wset, wcore, ne_eq, if_true, if_false, exists_eq_left', true_implies, false_implies, exists_const, exists_eq_right, binA, intA, loadA, storeA, pickC, setAt, mapO, argsE, X.isC, resA, oneA, unA, boundA, eqiA, eqsA, fillA, fillE, ASt.fz, strA, Nat.reduceEqDiff, Nat.reduceLT, ↓reduceIte, reduceCtorEq, Nat.reduceAdd, Nat.reduceLeDiff, Int.reduceBEq, Int.reduceBNe, Int.reduceLT, Int.reduceLE, Int.reduceGT, Int.reduceGE, Nat.reduceDiv, Nat.reduceMul, Nat.reduceBEq, Nat.reduceMod, Nat.reduceSub, e6, e11, e16, hdec, q3, hYf, c8]
        exact EQ_in ⟨k + 1, by omega, rfl, e6, e11, next_ixv (by unfold lenB; omega), by omega, any_step hka q1 c8⟩
      · simp only [↓wpre, wset, wcore, ne_eq, if_true, if_false, exists_eq_left', true_implies, false_implies, exists_const, exists_eq_right, binA, intA, loadA, storeA, pickC, setAt, mapO, argsE, X.isC, resA, oneA, unA, boundA, eqiA, eqsA, fillA, fillE, ASt.fz, strA, Nat.reduceEqDiff, Nat.reduceLT, ↓reduceIte, reduceCtorEq, Nat.reduceAdd, Nat.reduceLeDiff, Int.reduceBEq, Int.reduceBNe, Int.reduceLT, Int.reduceLE, Int.reduceGT, Int.reduceGE, Nat.reduceDiv, Nat.reduceMul, Nat.reduceBEq, Nat.reduceMod, Nat.reduceSub, e6, e11, e16, hdec, q3, hYf, c8, hpz]
        have hb : longX ⟨XA, XF⟩ = true := by unfold longX; rw [show (XF.any bigF) = true from any_hit q1 (show bigF n = true from c8), Bool.or_true]
        exact ⟨.agg [.sl (ints XA) t1, .sl (ints XF) t2], by rw [hb]; rfl, _, _, rfl, ht1, ht2⟩
    have hdec : decide ((k : Int) < (((ints XF).length : Nat) : Int)) = false := by rw [ints_len]; simpa using hkg
    have hnF := any_all hka hkg
    simp only [↓wpre, wset, wcore, ne_eq, if_true, if_false, exists_eq_left', true_implies, false_implies, exists_const, exists_eq_right, binA, intA, loadA, storeA, pickC, setAt, mapO, argsE, X.isC, resA, oneA, unA, boundA, eqiA, eqsA, fillA, fillE, ASt.fz, strA, Nat.reduceEqDiff, Nat.reduceLT, ↓reduceIte, reduceCtorEq, Nat.reduceAdd, Nat.reduceLeDiff, Int.reduceBEq, Int.reduceBNe, Int.reduceLT, Int.reduceLE, Int.reduceGT, Int.reduceGE, Nat.reduceDiv, Nat.reduceMul, Nat.reduceBEq, Nat.reduceMod, Nat.reduceSub, e6, e11, e16, hdec, hpz]
    have hb : longX ⟨XA, XF⟩ = false := by unfold longX; rw [hnA, hnF]; rfl
    exact ⟨.agg [.sl (ints XA) t1, .sl (ints XF) t2], by rw [hb]; rfl, _, _, rfl, ht1, ht2⟩
end Go.Proofs.Eng
