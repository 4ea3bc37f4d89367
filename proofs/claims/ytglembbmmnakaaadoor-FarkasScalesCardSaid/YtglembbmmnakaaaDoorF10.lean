/- The program combines two rows. No conditions beyond those in the theorems. -/
import Derived.Test.YtglembbmmnakaaaDoorF8
import Derived.Test.YtglembbmmnakaaaDoorF9
set_option linter.all false
set_option linter.deprecated false
set_option linter.unnecessarySimpa false
set_option linter.unusedVariables false
set_option linter.unusedSimpArgs false
set_option linter.defProp false
namespace Go.Proofs.Eng
open Go Go.Proofs
set_option maxRecDepth 100000
set_option maxHeartbeats 16000000
theorem app_cap {T : List Nat} {xs : List AV} (h : xs ≠ []) : (∀ H, xs.length ≤ capB → (xs.all fun x => x.cells.length == 1 && x.cells.all oneCell) = true → appA ⟨H, T⟩ 1 none [] (.cap 0) xs = some (.sl xs (.tl T.length 0), ⟨H, T ++ [0]⟩)) ∧ App (T ++ [0]) xs (.tl T.length 0) := by
  cases xs with
  | nil => exact absurd rfl h
  | cons x xs =>
    refine ⟨fun H h1 h2 => ?_, .inr ⟨h, _, _, rfl, by simp⟩⟩
    have h1 : 0 + (x :: xs).length ≤ 1073741824 := by unfold capB at h1; omega
    simp only [appA]
    rw [if_pos ⟨h1, rfl, h2⟩, if_pos (by simp)]
    rfl
theorem ints_okl (l : List Int) : ((ints l).all fun x => x.cells.length == 1 && x.cells.all oneCell) = true := by
  induction l with
  | nil => rfl
  | cons x l ih => simp only [ints] at ih ⊢; simp only [List.map_cons, List.all_cons, ih]; rfl
theorem flat_intsI (l : List Int) : flat (ints l) = ints l := flat_ints l
theorem frz_ints {n : Nat} {s : ASt} {l : List Int} {t : Tl} : frz n s (.sl (ints l) t) = s := by
  cases n with
  | zero => rfl
  | succ n =>
    rw [frz]
    split
    · rfl
    · rw [flat_intsI]; exact frzs_pure (ints_pure l)
theorem srcA_bs {s : ASt} {i off len es : Nat} {ag : Bool} : srcA s (.bs i off len es ag) = elemsA s (.bs i off len es ag) := rfl
theorem Bnd.app {m : Int} {a b : List Int} (h : Bnd m a) (k : Bnd m b) : Bnd m (a ++ b) := fun n hn => by
  rcases List.mem_append.1 hn with hn | hn
  · exact h n hn
  · exact k n hn
/-- A call whose arguments are made pure. -/
theorem Out.callV {f : FuncId} {args args' : List AV} {s : ASt} {PR : AV → Prop} (h : Out md pfs f args' PR fun _ => False) (hm : md f = .pure) (ha : mapO (purify 20 s) args = some args') : ∃ v, PR v ∧ ∀ K KP, CW (run md pfs) md false s f args K KP () = K v (args.foldl (frz 20) s) := by
  obtain ⟨out, s', out', h1, h2, h3⟩ := h
  cases out' with
  | pan v => exact h3.elim
  | ret v => exact ⟨v, h3, fun K KP => by simp [CW, callA, hm, ha, h1, h2]⟩
theorem combX_F0 {r s : Rw} {j w m : Nat} (h : CombOK r s j) (hr : RowE w m r) (hs : RowE w m s) : ∀ n ∈ (combX r s j).F, 0 ≤ n := fun n hn => by
  obtain ⟨_, p0, _, q0, _⟩ := comb_pos h
  obtain ⟨x, hx, y, hy, rfl⟩ := addM_mem hn
  exact Int.add_nonneg (Int.mul_nonneg p0 (hr.bF x hx).1) (Int.mul_nonneg q0 (hs.bF y hy).1)
theorem longX_app {x : Rw} (h : ∀ n ∈ x.F, 0 ≤ n) : longX x = (x.A ++ x.F).any bigA := by
  unfold longX
  rw [List.any_append]
  congr 1
  rw [Bool.eq_iff_iff, List.any_eq_true, List.any_eq_true]
  constructor
  · rintro ⟨n, h1, h2⟩; have := h n h1; exact ⟨n, h1, by unfold bigA; unfold bigF at h2; simp only [decide_eq_true_eq] at h2 ⊢; omega⟩
  · rintro ⟨n, h1, h2⟩; have := h n h1; exact ⟨n, h1, by unfold bigF; unfold bigA at h2; simp only [decide_eq_true_eq] at h2 ⊢; omega⟩
theorem tdiv_one_map (l : List Int) : l.map (·.tdiv ((1 : Nat) : Int)) = l := by
  induction l with
  | nil => rfl
  | cons x l ih => rw [List.map_cons, ih]; congr 1; exact Int.tdiv_one x
theorem divX_pos {x : Rw} (h : 0 < gcdX x) : divX x = ⟨x.A.map (·.tdiv (gcdX x)), x.F.map (·.tdiv (gcdX x))⟩ := by
  unfold divX
  by_cases h1 : gcdX x > 1
  · rw [if_pos h1]
  · rw [if_neg h1]
    have : gcdX x = 1 := by omega
    rw [this, tdiv_one_map, tdiv_one_map]
theorem fail_pan {n : Int} : Out md pfs 44 [.int n] (fun _ => False) (· = .iface 28 (.int n)) := by
  refine out_of pf44_is (Nat.le_of_ble_eq_true rfl) ?_
  simp only [pf44, ↓wpre, wset, wcore, ne_eq, if_true, if_false, exists_eq_left', true_implies, false_implies, exists_const, exists_eq_right, binA, intA, loadA, storeA, pickC, setAt, mapO, argsE, X.isC, resA, oneA, unA, boundA, eqiA, eqsA, fillA, fillE, ASt.fz, strA, Nat.reduceEqDiff, Nat.reduceLT, ↓reduceIte, reduceCtorEq, Nat.reduceAdd, Nat.reduceLeDiff, Int.reduceBEq, Int.reduceBNe, Int.reduceLT, Int.reduceLE, Int.reduceGT, Int.reduceGE, Nat.reduceDiv, Nat.reduceMul, Nat.reduceBEq, Nat.reduceMod, Nat.reduceSub, RQ_pan]
theorem combined_ret {r s : Rw} {a b : AV} {j w m : Nat} (ha : RwIs r a) (hb : RwIs s b) (hc : CombOK r s j) (hr : RowE w m r) (hs : RowE w m s) (hw : w ≤ 9) (hm : m ≤ 24) : Out md pfs 45 [a, b, .int (j : Nat)] (fun v => longX (divX (combX r s j)) = false ∧ RwIs (divX (combX r s j)) v) fun v => longX (divX (combX r s j)) = true ∧ v = .iface 28 (.int 5) := by
  obtain ⟨ta, ua, rfl, ha1, ha2⟩ := ha
  obtain ⟨tb, ub, rfl, hb1, hb2⟩ := hb
  obtain ⟨g0, p0, p1, q0, q1⟩ := comb_pos hc
  obtain ⟨xA, xF, bA, bF⟩ := combX_bnd hc hr hs
  have nF := combX_F0 hc hr hs
  obtain ⟨x, hx, hx0, hxl⟩ := hc.ra
  obtain ⟨y, hy, hy0, hyl⟩ := hc.sa
  have ex : r.A.getD j 0 = x := by rw [List.getD_eq_getElem?_getD, hx]; rfl
  have ey : s.A.getD j 0 = -(y : Int) := by rw [List.getD_eq_getElem?_getD, hy]; rfl
  have i1 : (ints r.A)[j]? = some (.int x) := by simp [ints, hx]
  have i2 : (ints s.A)[j]? = some (.int (-(y : Int))) := by simp [ints, hy]
  have hg : cg r s j = Nat.gcd x y := by rw [cg, ex, ey]; simp
  have n1 : IntKind.i64.wrap (0 - -(y : Int)) = (y : Int) := by unfold limB at hyl; rw [wrap_in (by unfold in64; omega)]; omega
  have z1 : (((Nat.gcd x y : Nat) : Int) = 0) = False := by rw [← hg]; simp; omega
  have ep : cp r s j = (y : Int).tdiv (Nat.gcd x y : Nat) := by rw [cp, ey, hg]; simp
  have eq : cq r s j = (x : Int).tdiv (Nat.gcd x y : Nat) := by rw [cq, ex, hg]; simp
  have w1 : IntKind.i64.wrap ((y : Int).tdiv (Nat.gcd x y : Nat)) = cp r s j := by rw [← ep]; unfold limB at p1; exact wrap_in (by unfold in64; omega)
  have w2 : IntKind.i64.wrap ((x : Int).tdiv (Nat.gcd x y : Nat)) = cq r s j := by rw [← eq]; unfold limB at q1; exact wrap_in (by unfold in64; omega)
  have hra := ints_all r.A
  have hsa := ints_all s.A
  have hg29 : gcdL [(x : Int), (y : Int)] = Nat.gcd x y := by simp [gcdL, gcdF]
  obtain ⟨_, rfl, c29⟩ := (gcd_ret (l := [(x : Int), (y : Int)]) (t := .cap 2) (by unfold lenB; simp) (fun n hn => by unfold limB at *; simp at hn; omega)).call rfl (by simp [pvs_cons, pvs_nil, pv_sl, Tl.pure, ints_pure])
  rw [hg29] at c29
  have mk1 := fun idx => join_own (a := r.A) (b := s.A) (t := ta) (u := tb) (p := cp r s j) (q := cq r s j) (by rw [hr.lA, hs.lA]) (by rw [hr.lA]; omega) (fun n hn k hk => by
    obtain ⟨e1, e2, e3, _⟩ := comb_in hc (hr.bA n hn) (hs.bA k hk); exact ⟨e1, e2, e3⟩) ha1 hb1 idx
  have mk2 := fun idx => join_own (a := r.F) (b := s.F) (t := ua) (u := ub) (p := cp r s j) (q := cq r s j) (by rw [hr.lF, hs.lF]) (by rw [hr.lF]; omega) (fun n hn k hk => by
    have h1 := hr.bF n hn
    have h2 := hs.bF k hk
    unfold limB at h1 h2
    obtain ⟨e1, e2, e3, _⟩ := comb_in hc (x := n) (y := k) (by unfold limB; omega) (by unfold limB; omega); exact ⟨e1, e2, e3⟩) ha2 hb2 idx
  have hI : ints [(x : Int), (y : Int)] = [.int x, .int y] := rfl
  rw [hI] at c29
  have hX : combX r s j = ⟨addM (cp r s j) (cq r s j) r.A s.A, addM (cp r s j) (cq r s j) r.F s.F⟩ := rfl
  have hw0 : 0 < w := by have := (List.getElem?_eq_some_iff.1 hx).1; rw [hr.lA] at this; omega
  rw [hr.lA] at mk1
  rw [hr.lF] at mk2
  rw [hX] at xA xF bA bF nF ⊢
  simp only at xA xF bA bF nF
  generalize addM (cp r s j) (cq r s j) r.A s.A = XA at *
  generalize addM (cp r s j) (cq r s j) r.F s.F = XF at *
  have hXn : ints XA ≠ [] := by rw [← List.length_pos_iff, ints_len]; omega
  obtain ⟨t2, T2, ap2, hA2, _⟩ := app_many (es := 1) (app_cap (T := []) hXn).2 (xs := ints XF) (by rw [ints_len, ints_len]; unfold capB; omega) (ints_all _) (ints_okl _)
  have ap1 := fun H => (app_cap (T := []) hXn).1 H (by rw [ints_len]; unfold capB; omega) (ints_okl _)
  rw [← ints_app] at ap2 hA2
  have hgd : gcdL (XA ++ XF) = gcdX ⟨XA, XF⟩ := rfl
  have hp2 := fun H => app_purify (s := ⟨H, T2⟩) (n := 20) hA2 (ints_pure _) (by omega)
  have c29b : ∀ H K KP, CW (run md pfs) md false ⟨H, T2⟩ 29 [.sl (ints (XA ++ XF)) t2] K KP () = K (.int (gcdL (XA ++ XF) : Nat)) ⟨H, T2⟩ := by
    intro H K KP
    obtain ⟨t', h1, h2⟩ := hp2 H
    obtain ⟨_, rfl, h3⟩ := (gcd_ret (l := XA ++ XF) (t := t') (by rw [List.length_append]; unfold lenB; omega) (bA.app bF)).callV (args := [.sl (ints (XA ++ XF)) t2]) (s := ⟨H, T2⟩) rfl (by simp only [mapO, h2])
    rw [h3, List.foldl_cons, List.foldl_nil, frz_ints]
  have e3b : ∀ {L : List Int}, L.length = w → ∀ a b c d e T, elemsA ⟨[a, b, c, .cells false (ints L), d, e], T⟩ (.bs 3 0 w 1 false) = some (ints L) := fun {L} hL a b c d e T => by
    have := elems_ints (s := ⟨[a, b, c, .cells false (ints L), d, e], T⟩) (i := 3) (off := 0) (len := w) (fz := false) (L := L) rfl (by omega)
    rwa [List.drop_zero, List.take_of_length_le (by omega)] at this
  have e4b : ∀ {L : List Int}, L.length = m → ∀ a b c d e T, elemsA ⟨[a, b, c, d, .cells false (ints L), e], T⟩ (.bs 4 0 m 1 false) = some (ints L) := fun {L} hL a b c d e T => by
    have := elems_ints (s := ⟨[a, b, c, d, .cells false (ints L), e], T⟩) (i := 4) (off := 0) (len := m) (fz := false) (L := L) rfl (by omega)
    rwa [List.drop_zero, List.take_of_length_le (by omega)] at this
  have e3 := e3b xA
  have e4 := e4b xF
  simp only [List.nil_append, List.length_nil] at ap1 ap2
  refine out_of pf45_is (Nat.le_of_ble_eq_true rfl) ?_
  simp only [pf45, ↓wpre, wset, wcore, ne_eq, if_true, if_false, exists_eq_left', true_implies, false_implies, exists_const, exists_eq_right, binA, intA, loadA, storeA, pickC, setAt, mapO, argsE, X.isC, resA, oneA, unA, boundA, eqiA, eqsA, fillA, fillE, ASt.fz, strA, Nat.reduceEqDiff, Nat.reduceLT, ↓reduceIte, reduceCtorEq, Nat.reduceAdd, Nat.reduceLeDiff, Int.reduceBEq, Int.reduceBNe, Int.reduceLT, Int.reduceLE, Int.reduceGT, Int.reduceGE, Nat.reduceDiv, Nat.reduceMul, Nat.reduceBEq, Nat.reduceMod, Nat.reduceSub, W_dregm, MW_nil, MW_cons, M1_t, M1_f, M2_load, M2_alloc, M2_call, M3_some, mk_alloc, mk_call, kz_alloc, kz_call, i1, i2, hra, hsa, n1, c29, z1, w1, w2, mk1, mk2, srcA_bs, ap1, ap2, c29b, e3, e4, hgd]
  have c44 : ∀ pm s K KP, CW (run md pfs) md pm s 44 [.int 5] K KP () = KP (.iface 28 (.int 5)) s := by
    obtain ⟨_, rfl, h⟩ := (fail_pan (n := 5)).callPan rfl (by simp [pvs_cons, pvs_nil, pv_v])
    exact h
  by_cases hd : 0 < gcdX ⟨XA, XF⟩
  · have c85 : decide (((gcdX ⟨XA, XF⟩ : Nat) : Int) > 0) = true := by simp only [decide_eq_true_eq]; omega
    have hY : divX ⟨XA, XF⟩ = ⟨XA.map (·.tdiv (gcdX ⟨XA, XF⟩)), XF.map (·.tdiv (gcdX ⟨XA, XF⟩))⟩ := divX_pos hd
    obtain ⟨v1, _, rfl, c53a⟩ := (divide_raw (i := 3) (l := XA) (d := gcdX ⟨XA, XF⟩) (H := [.cells false [.sl (ints r.A) ta, .sl (ints r.F) ua], .cells false [.sl (ints s.A) tb, .sl (ints s.F) ub], .cells false [.sl [] .nil, .sl [] .nil], .cells false (ints XA), .cells false (ints XF), .cells false [.bs 3 0 w 1 false, .bs 4 0 m 1 false]]) (T := T2) rfl (by omega) (by omega) bA).call rfl
    obtain ⟨v2, _, rfl, c53b⟩ := (divide_raw (i := 4) (l := XF) (d := gcdX ⟨XA, XF⟩) (H := [.cells false [.sl (ints r.A) ta, .sl (ints r.F) ua], .cells false [.sl (ints s.A) tb, .sl (ints s.F) ub], .cells false [.sl [] .nil, .sl [] .nil], .cells false (ints (XA.map (·.tdiv (gcdX ⟨XA, XF⟩ : Nat)))), .cells false (ints XF), .cells false [.bs 3 0 w 1 false, .bs 4 0 m 1 false]]) (T := T2) rfl (by omega) (by omega) bF).call rfl
    simp only [List.set_cons_succ, List.set_cons_zero, xA, xF] at c53a c53b
    rw [hY]
    have f0 : ∀ n ∈ XF.map (·.tdiv (gcdX ⟨XA, XF⟩ : Nat)), 0 ≤ n := fun n hn => by
      obtain ⟨k, hk, rfl⟩ := List.mem_map.1 hn
      exact Int.tdiv_nonneg (nF k hk) (by omega)
    have lA : (XA.map (·.tdiv (gcdX ⟨XA, XF⟩ : Nat))).length = w := by rw [List.length_map, xA]
    have lF : (XF.map (·.tdiv (gcdX ⟨XA, XF⟩ : Nat))).length = m := by rw [List.length_map, xF]
    generalize gcdX ⟨XA, XF⟩ = d at *
    generalize XA.map (·.tdiv (d : Int)) = YA at *
    generalize XF.map (·.tdiv (d : Int)) = YF at *
    have hlong : (YA ++ YF).any bigA = longX ⟨YA, YF⟩ := (longX_app (x := ⟨YA, YF⟩) f0).symm
    have hYn : ints YA ≠ [] := by rw [← List.length_pos_iff, ints_len]; omega
    obtain ⟨t3, T3, ap3, hA3, _⟩ := app_many (es := 1) (app_cap (T := T2) hYn).2 (xs := ints YF) (by rw [ints_len, ints_len]; unfold capB; omega) (ints_all _) (ints_okl _)
    have ap4 := fun H => (app_cap (T := T2) hYn).1 H (by rw [ints_len]; unfold capB; omega) (ints_okl _)
    rw [← ints_app] at ap3 hA3
    have e3' := e3b lA
    have e4' := e4b lF
    simp only [↓wpre, wset, wcore, ne_eq, if_true, if_false, exists_eq_left', true_implies, false_implies, exists_const, exists_eq_right, binA, intA, loadA, storeA, pickC, setAt, mapO, argsE, X.isC, resA, oneA, unA, boundA, eqiA, eqsA, fillA, fillE, ASt.fz, strA, Nat.reduceEqDiff, Nat.reduceLT, ↓reduceIte, reduceCtorEq, Nat.reduceAdd, Nat.reduceLeDiff, Int.reduceBEq, Int.reduceBNe, Int.reduceLT, Int.reduceLE, Int.reduceGT, Int.reduceGE, Nat.reduceDiv, Nat.reduceMul, Nat.reduceBEq, Nat.reduceMod, Nat.reduceSub, c85, c53a, c53b, srcA_bs, ap3, ap4, e3', e4']
    refine W_loopE (fun k => (YA ++ YF).length - k) (fun k E H T => H = [.cells false [.sl (ints r.A) ta, .sl (ints r.F) ua], .cells false [.sl (ints s.A) tb, .sl (ints s.F) ub], .cells false [.sl [] .nil, .sl [] .nil], .cells false (ints YA), .cells false (ints YF), .cells false [.bs 3 0 w 1 false, .bs 4 0 m 1 false]] ∧ E 6 = .ptr 2 0 ∧ E 10 = .ptr 5 0 ∧ E 76 = .sl (ints (YA ++ YF)) t3 ∧ E 77 = .int (YA ++ YF).length ∧ E 78 = .int (k : Nat) ∧ k ≤ (YA ++ YF).length ∧ ((YA ++ YF).take k).any bigA = false) ?_ 0 ⟨rfl, rfl, rfl, rfl, by show AV.int _ = _; rw [ints_len], rfl, Nat.zero_le _, by simp⟩
    rintro k E H T ⟨rfl, e6, e10, e76, e77, e78, hk, hka⟩
    have hYa := ints_all (YA ++ YF)
    have hLL : (YA ++ YF).length ≤ 33 := by rw [List.length_append]; omega
    rcases Nat.lt_or_ge k (YA ++ YF).length with hkl | hkg
    · have hdec : decide ((k : Int) < (((YA ++ YF).length : Nat) : Int)) = true := decide_eq_true (by omega)
      obtain ⟨n, q1, _, q3⟩ := ints_get hkl
      have hbig : bigA n = (decide (n > 1073741824) || decide (n < -1073741824)) := by
        unfold bigA limB; rw [← Bool.decide_or]; apply decide_eq_decide.2; omega
      cases c8 : decide (n > 1073741824)
      · cases c9 : decide (n < -1073741824)
        · simp only [↓wpre, wset, wcore, ne_eq, if_true, if_false, exists_eq_left', true_implies, false_implies, exists_const, exists_eq_right, binA, intA, loadA, storeA, pickC, setAt, mapO, argsE, X.isC, resA, oneA, unA, boundA, eqiA, eqsA, fillA, fillE, ASt.fz, strA, Nat.reduceEqDiff, Nat.reduceLT, ↓reduceIte, reduceCtorEq, Nat.reduceAdd, Nat.reduceLeDiff, Int.reduceBEq, Int.reduceBNe, Int.reduceLT, Int.reduceLE, Int.reduceGT, Int.reduceGE, Nat.reduceDiv, Nat.reduceMul, Nat.reduceBEq, Nat.reduceMod, Nat.reduceSub, e6, e10, e76, e77, e78, hdec, q3, hYa, c8, c9]
          exact EQ_in ⟨k + 1, by omega, rfl, e6, e10, e76, e77, next_ixv (by unfold lenB; omega), by omega, any_step hka q1 (by rw [hbig, c8, c9]; rfl)⟩
        · simp only [↓wpre, wset, wcore, ne_eq, if_true, if_false, exists_eq_left', true_implies, false_implies, exists_const, exists_eq_right, binA, intA, loadA, storeA, pickC, setAt, mapO, argsE, X.isC, resA, oneA, unA, boundA, eqiA, eqsA, fillA, fillE, ASt.fz, strA, Nat.reduceEqDiff, Nat.reduceLT, ↓reduceIte, reduceCtorEq, Nat.reduceAdd, Nat.reduceLeDiff, Int.reduceBEq, Int.reduceBNe, Int.reduceLT, Int.reduceLE, Int.reduceGT, Int.reduceGE, Nat.reduceDiv, Nat.reduceMul, Nat.reduceBEq, Nat.reduceMod, Nat.reduceSub, e6, e10, e76, e77, e78, hdec, q3, hYa, c8, c9, c44]
          rw [← hlong]; exact any_hit q1 (by rw [hbig, c8, c9]; rfl)
      · simp only [↓wpre, wset, wcore, ne_eq, if_true, if_false, exists_eq_left', true_implies, false_implies, exists_const, exists_eq_right, binA, intA, loadA, storeA, pickC, setAt, mapO, argsE, X.isC, resA, oneA, unA, boundA, eqiA, eqsA, fillA, fillE, ASt.fz, strA, Nat.reduceEqDiff, Nat.reduceLT, ↓reduceIte, reduceCtorEq, Nat.reduceAdd, Nat.reduceLeDiff, Int.reduceBEq, Int.reduceBNe, Int.reduceLT, Int.reduceLE, Int.reduceGT, Int.reduceGE, Nat.reduceDiv, Nat.reduceMul, Nat.reduceBEq, Nat.reduceMod, Nat.reduceSub, e6, e10, e76, e77, e78, hdec, q3, hYa, c8, c44]
        rw [← hlong]; exact any_hit q1 (by rw [hbig, c8]; rfl)
    have hdec : decide ((k : Int) < (((YA ++ YF).length : Nat) : Int)) = false := decide_eq_false (by omega)
    have hno := any_all hka hkg
    simp only [↓wpre, wset, wcore, ne_eq, if_true, if_false, exists_eq_left', true_implies, false_implies, exists_const, exists_eq_right, binA, intA, loadA, storeA, pickC, setAt, mapO, argsE, X.isC, resA, oneA, unA, boundA, eqiA, eqsA, fillA, fillE, ASt.fz, strA, Nat.reduceEqDiff, Nat.reduceLT, ↓reduceIte, reduceCtorEq, Nat.reduceAdd, Nat.reduceLeDiff, Int.reduceBEq, Int.reduceBNe, Int.reduceLT, Int.reduceLE, Int.reduceGT, Int.reduceGE, Nat.reduceDiv, Nat.reduceMul, Nat.reduceBEq, Nat.reduceMod, Nat.reduceSub, e6, e10, e76, e77, e78, hdec]
    refine ⟨.agg [.sl (ints YA) .none, .sl (ints YF) .none], ?_, by rw [← hlong]; exact hno, _, _, rfl, rfl, rfl⟩
    rw [pz_agg]
    simp only [mapO]
    rw [pz_ints (n := 17) (L := YA) (fz := false) rfl (by omega), pz_ints (n := 17) (L := YF) (fz := false) rfl (by omega), List.drop_zero, List.drop_zero, List.take_of_length_le (by omega), List.take_of_length_le (by omega)]
    rfl
  · have c85 : decide (((gcdX ⟨XA, XF⟩ : Nat) : Int) > 0) = false := by simp only [decide_eq_false_iff_not]; omega
    rw [show divX ⟨XA, XF⟩ = ⟨XA, XF⟩ by unfold divX; rw [if_neg (by omega)]]
    generalize gcdX ⟨XA, XF⟩ = d at *
    have hlong : (XA ++ XF).any bigA = longX ⟨XA, XF⟩ := (longX_app (x := ⟨XA, XF⟩) nF).symm
    have hYn : ints XA ≠ [] := by rw [← List.length_pos_iff, ints_len]; omega
    obtain ⟨t3, T3, ap3, hA3, _⟩ := app_many (es := 1) (app_cap (T := T2) hYn).2 (xs := ints XF) (by rw [ints_len, ints_len]; unfold capB; omega) (ints_all _) (ints_okl _)
    have ap4 := fun H => (app_cap (T := T2) hYn).1 H (by rw [ints_len]; unfold capB; omega) (ints_okl _)
    rw [← ints_app] at ap3 hA3
    have e3' := e3b xA
    have e4' := e4b xF
    simp only [↓wpre, wset, wcore, ne_eq, if_true, if_false, exists_eq_left', true_implies, false_implies, exists_const, exists_eq_right, binA, intA, loadA, storeA, pickC, setAt, mapO, argsE, X.isC, resA, oneA, unA, boundA, eqiA, eqsA, fillA, fillE, ASt.fz, strA, Nat.reduceEqDiff, Nat.reduceLT, ↓reduceIte, reduceCtorEq, Nat.reduceAdd, Nat.reduceLeDiff, Int.reduceBEq, Int.reduceBNe, Int.reduceLT, Int.reduceLE, Int.reduceGT, Int.reduceGE, Nat.reduceDiv, Nat.reduceMul, Nat.reduceBEq, Nat.reduceMod, Nat.reduceSub, c85, srcA_bs, ap3, ap4, e3', e4']
    refine W_loopE (fun k => (XA ++ XF).length - k) (fun k E H T => H = [.cells false [.sl (ints r.A) ta, .sl (ints r.F) ua], .cells false [.sl (ints s.A) tb, .sl (ints s.F) ub], .cells false [.sl [] .nil, .sl [] .nil], .cells false (ints XA), .cells false (ints XF), .cells false [.bs 3 0 w 1 false, .bs 4 0 m 1 false]] ∧ E 6 = .ptr 2 0 ∧ E 10 = .ptr 5 0 ∧ E 76 = .sl (ints (XA ++ XF)) t3 ∧ E 77 = .int (XA ++ XF).length ∧ E 78 = .int (k : Nat) ∧ k ≤ (XA ++ XF).length ∧ ((XA ++ XF).take k).any bigA = false) ?_ 0 ⟨rfl, rfl, rfl, rfl, by show AV.int _ = _; rw [ints_len], rfl, Nat.zero_le _, by simp⟩
    rintro k E H T ⟨rfl, e6, e10, e76, e77, e78, hk, hka⟩
    have hYa := ints_all (XA ++ XF)
    have hLL : (XA ++ XF).length ≤ 33 := by rw [List.length_append]; omega
    rcases Nat.lt_or_ge k (XA ++ XF).length with hkl | hkg
    · have hdec : decide ((k : Int) < (((XA ++ XF).length : Nat) : Int)) = true := decide_eq_true (by omega)
      obtain ⟨n, q1, _, q3⟩ := ints_get hkl
      have hbig : bigA n = (decide (n > 1073741824) || decide (n < -1073741824)) := by
        unfold bigA limB; rw [← Bool.decide_or]; apply decide_eq_decide.2; omega
      cases c8 : decide (n > 1073741824)
      · cases c9 : decide (n < -1073741824)
        · simp only [↓wpre, wset, wcore, ne_eq, if_true, if_false, exists_eq_left', true_implies, false_implies, exists_const, exists_eq_right, binA, intA, loadA, storeA, pickC, setAt, mapO, argsE, X.isC, resA, oneA, unA, boundA, eqiA, eqsA, fillA, fillE, ASt.fz, strA, Nat.reduceEqDiff, Nat.reduceLT, ↓reduceIte, reduceCtorEq, Nat.reduceAdd, Nat.reduceLeDiff, Int.reduceBEq, Int.reduceBNe, Int.reduceLT, Int.reduceLE, Int.reduceGT, Int.reduceGE, Nat.reduceDiv, Nat.reduceMul, Nat.reduceBEq, Nat.reduceMod, Nat.reduceSub, e6, e10, e76, e77, e78, hdec, q3, hYa, c8, c9]
          exact EQ_in ⟨k + 1, by omega, rfl, e6, e10, e76, e77, next_ixv (by unfold lenB; omega), by omega, any_step hka q1 (by rw [hbig, c8, c9]; rfl)⟩
        · simp only [↓wpre, wset, wcore, ne_eq, if_true, if_false, exists_eq_left', true_implies, false_implies, exists_const, exists_eq_right, binA, intA, loadA, storeA, pickC, setAt, mapO, argsE, X.isC, resA, oneA, unA, boundA, eqiA, eqsA, fillA, fillE, ASt.fz, strA, Nat.reduceEqDiff, Nat.reduceLT, ↓reduceIte, reduceCtorEq, Nat.reduceAdd, Nat.reduceLeDiff, Int.reduceBEq, Int.reduceBNe, Int.reduceLT, Int.reduceLE, Int.reduceGT, Int.reduceGE, Nat.reduceDiv, Nat.reduceMul, Nat.reduceBEq, Nat.reduceMod, Nat.reduceSub, e6, e10, e76, e77, e78, hdec, q3, hYa, c8, c9, c44]
          rw [← hlong]; exact any_hit q1 (by rw [hbig, c8, c9]; rfl)
      · simp only [↓wpre, wset, wcore, ne_eq, if_true, if_false, exists_eq_left', true_implies, false_implies, exists_const, exists_eq_right, binA, intA, loadA, storeA, pickC, setAt, mapO, argsE, X.isC, resA, oneA, unA, boundA, eqiA, eqsA, fillA, fillE, ASt.fz, strA, Nat.reduceEqDiff, Nat.reduceLT, ↓reduceIte, reduceCtorEq, Nat.reduceAdd, Nat.reduceLeDiff, Int.reduceBEq, Int.reduceBNe, Int.reduceLT, Int.reduceLE, Int.reduceGT, Int.reduceGE, Nat.reduceDiv, Nat.reduceMul, Nat.reduceBEq, Nat.reduceMod, Nat.reduceSub, e6, e10, e76, e77, e78, hdec, q3, hYa, c8, c44]
        rw [← hlong]; exact any_hit q1 (by rw [hbig, c8]; rfl)
    have hdec : decide ((k : Int) < (((XA ++ XF).length : Nat) : Int)) = false := decide_eq_false (by omega)
    have hno := any_all hka hkg
    simp only [↓wpre, wset, wcore, ne_eq, if_true, if_false, exists_eq_left', true_implies, false_implies, exists_const, exists_eq_right, binA, intA, loadA, storeA, pickC, setAt, mapO, argsE, X.isC, resA, oneA, unA, boundA, eqiA, eqsA, fillA, fillE, ASt.fz, strA, Nat.reduceEqDiff, Nat.reduceLT, ↓reduceIte, reduceCtorEq, Nat.reduceAdd, Nat.reduceLeDiff, Int.reduceBEq, Int.reduceBNe, Int.reduceLT, Int.reduceLE, Int.reduceGT, Int.reduceGE, Nat.reduceDiv, Nat.reduceMul, Nat.reduceBEq, Nat.reduceMod, Nat.reduceSub, e6, e10, e76, e77, e78, hdec]
    refine ⟨.agg [.sl (ints XA) .none, .sl (ints XF) .none], ?_, by rw [← hlong]; exact hno, _, _, rfl, rfl, rfl⟩
    rw [pz_agg]
    simp only [mapO]
    rw [pz_ints (n := 17) (L := XA) (fz := false) rfl (by omega), pz_ints (n := 17) (L := XF) (fz := false) rfl (by omega), List.drop_zero, List.drop_zero, List.take_of_length_le (by omega), List.take_of_length_le (by omega)]
    rfl
end Go.Proofs.Eng
