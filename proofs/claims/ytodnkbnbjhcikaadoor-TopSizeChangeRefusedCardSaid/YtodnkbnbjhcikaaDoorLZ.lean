/- A law's contract that hands on the first parameter's length (a slice). No conditions beyond those in the theorems. -/
import Derived.Test.YtodnkbnbjhcikaaDoorK0
set_option linter.all false
set_option linter.deprecated false
set_option linter.unnecessarySimpa false
set_option linter.unusedVariables false
set_option linter.unusedSimpArgs false
set_option linter.defProp false
namespace Go.Proofs.Eng.T
open Go Go.Proofs Go.Proofs.Eng
set_option maxRecDepth 100000
set_option maxHeartbeats 16000000
def RestK (K : Nat) (H H' : List AObj) : Prop := H.length ≤ H'.length ∧ ∀ i o, i ≠ K → H[i]? = some o → H'[i]? = some o
theorem RestK.refl (K : Nat) (H : List AObj) : RestK K H H := ⟨Nat.le_refl _, fun _ _ _ h => h⟩
theorem RestK.trans {K : Nat} {A B C : List AObj} (h : RestK K A B) (k : RestK K B C) : RestK K A C := ⟨Nat.le_trans h.1 k.1, fun i o hi ho => k.2 i o hi (h.2 i o hi ho)⟩
theorem RestK.app (K : Nat) (H G : List AObj) : RestK K H (H ++ G) := ⟨by simp, fun i o _ h => app_get_of h _⟩
theorem RestK.set (K : Nat) (H : List AObj) (o : AObj) : RestK K H (H.set K o) := ⟨by simp, fun i o hi h => by rw [List.getElem?_set, if_neg (fun e => hi e.symm)]; exact h⟩
structure RunH (al : List AV) (t0 : Tl) (args : List Int) (ta : Tl) (R K : Nat) (L : List (Int × Int)) (H : List AObj) : Prop where
  ne : R ≠ K
  run : H[R]? = some (.cells false [.sl al t0, .sl (ints args) ta, .mp K])
  map : H[K]? = some (.map (mapI L))
theorem RunH.rest {al : List AV} {t0 : Tl} {args : List Int} {ta : Tl} {R K : Nat} {L L' : List (Int × Int)} {H H' : List AObj} (h : RunH al t0 args ta R K L H) (k : RestK K H H') (hm : H'[K]? = some (.map (mapI L'))) : RunH al t0 args ta R K L' H' := ⟨h.ne, k.2 R _ h.ne h.run, hm⟩
end Go.Proofs.Eng.T
namespace Go.Proofs.Eng.T
open Go Go.Proofs Go.Proofs.Eng
set_option maxRecDepth 100000
set_option maxHeartbeats 16000000
theorem few_out {cs : List Cl} {al : List AV} {t : Tl} (h : LIs ClIs cs al) (ht : t.pure = true) (hl : al.length ≤ 3518437208780) : Out md pfs 26 [.sl al t] (· = fewV cs) fun _ => False := by
  have hp : pureAV (fewV cs) = true := by
    unfold fewV
    split
    · simp [pv_tup, pvs_cons, pvs_nil, pv_v, pv_sl, ints_pure, Tl.pure]
    · simp [pv_tup, pvs_cons, pvs_nil, pv_v, pv_sl, Tl.pure]
  exact ⟨_, _, _, run_ora (f := 26) (pf := ⟨0, [], .ora few26O⟩) (o := few26O) (by unfold pfs; rw [if_neg (by decide), if_pos rfl]) rfl (few26O_eq h ht hl), by simp only [Outc.purify]; rw [purify_pure hp]; rfl, rfl⟩
theorem term_out {cs : List Cl} {al : List AV} {t : Tl} (h : LIs ClIs cs al) (ht : t.pure = true) (hl : al.length ≤ 1000) : Out md pfs 17 [.sl al t] (· = .tup [.bool (termL cs).1, mkAV (termL cs).2.1, .int (termL cs).2.2]) fun _ => False := by
  have hp : pureAV (.tup [.bool (termL cs).1, mkAV (termL cs).2.1, .int (termL cs).2.2]) = true := by simp [pv_tup, pvs_cons, pvs_nil, pv_v, mkAV_pure]
  exact ⟨_, _, _, run_ora (f := 17) (pf := ⟨0, [], .ora termO⟩) (o := termO) (by unfold pfs; rw [if_pos rfl]) rfl (termO_eq h ht hl), by simp only [Outc.purify]; rw [purify_pure hp]; rfl, rfl⟩
theorem true_out : Out md pfs 27 [] (· = .bool true) fun _ => False :=
  ⟨_, _, _, run_ora (f := 27) (pf := ⟨0, [], .ora trueO⟩) (o := trueO) (by unfold pfs; rw [if_neg (by decide), if_neg (by decide), if_pos rfl]) rfl (show trueO [] ⟨[], []⟩ = some (.bool true, ⟨[], []⟩) from rfl), by simp only [Outc.purify]; rw [purify_pure pv_v]; rfl, rfl⟩
end Go.Proofs.Eng.T
namespace Go.Proofs.Eng.T
open Go Go.Proofs Go.Proofs.Eng
set_option maxRecDepth 100000
set_option maxHeartbeats 16000000
theorem gen_t {l : List Cl} {x : Cl} (h : Gen l x) : ∃ d ∈ l, x.t = d.t := by
  cases h with
  | base hd => exact ⟨_, hd, rfl⟩
  | step hx hd e => exact ⟨_, hd, rfl⟩
theorem vR_out {ar : Int → Nat} {c : Cl} (hc : Good ar c) {j : Nat} (hj : ar c.f ≤ j) : vR c j = 0 := by
  unfold vR
  rw [List.countP_eq_zero]
  intro i hi
  have hi := List.mem_range.1 hi
  rw [hc.wm.len] at hi
  obtain ⟨h1, h2⟩ := hc.wm.row_get hi
  have : get2 c.m i j = 0 := by
    unfold get2
    exact getD_no (by rw [h2]; exact hj)
  rw [this]; simp
def vK (k j : Nat) : Nat := if j = 0 then k % 3 else if j = 1 then k / 3 % 3 else k / 9
theorem vK_get {k j : Nat} (h : j < 3) : [AV.int (k % 3 : Nat), AV.int (k / 3 % 3 : Nat), AV.int (k / 9 : Nat)][j]? = some (.int (vK k j : Nat)) := by
  have : j = 0 ∨ j = 1 ∨ j = 2 := by omega
  rcases this with rfl | rfl | rfl <;> rfl
theorem mrow_get {m : List (List Int)} {i : Nat} {r : List Int} (h : m[i]? = some r) : (m.map fun r => AV.sl (ints r) .al)[i]? = some (.sl (ints r) .al) := by simp [h]
theorem mrow_all (m : List (List Int)) : ((m.map fun r => AV.sl (ints r) .al).all fun x => x.cells.length == 1) = true := by
  rw [List.all_eq_true]
  intro x hx
  obtain ⟨r, _, rfl⟩ := List.mem_map.1 hx
  rfl
theorem refused_law {l : List Cl} {al : List AV} {t : Tl} (h : LIs ClIs l al) (ht : t.pure = true) (hl : al.length ≤ 3518437208780) : Out md pfs 11 [.sl al t] (· = .bool true) fun _ => False := by
  have hpa : pureAVs [AV.sl al t] = true := by simp [pvs_cons, pvs_nil, pv_sl, ht, clsPure h]
  have hla := h.len
  obtain ⟨_, rfl, c27⟩ := true_out.call rfl (by simp [pvs_nil])
  obtain ⟨_, rfl, c26⟩ := (few_out (t := t) h ht hl).call rfl hpa
  refine out_of pf11_is (Nat.le_of_ble_eq_true rfl) ?_
  by_cases hfw : checkR l = 0 ∧ l.length ≤ 8 ∧ l.any bigC = false
  case neg =>
    have hv : fewV l = .tup [.sl [] .nil, .bool false] := if_neg hfw
    rw [hv] at c26
    simp only [pf11, ↓wpre, wset, wcore, wext, ne_eq, if_true, if_false, exists_eq_left', true_implies, false_implies, exists_const, exists_eq_right, binA, intA, loadA, storeA, pickC, setAt, mapO, argsE, X.isC, resA, oneA, unA, boundA, eqiA, eqsA, fillA, fillE, ASt.fz, strA, simprocAttr, c26, c27]
  have hv : fewV l = .tup [.sl (ints (argsL l)) .al, .bool true] := if_pos hfw
  rw [hv] at c26
  obtain ⟨_, rfl, c17⟩ := (term_out (t := t) h ht (by omega)).call rfl hpa
  have hmk : mkAV (termL l).2.1 = .agg [.int (termL l).2.1.f, .int (termL l).2.1.t, .sl ((termL l).2.1.m.map fun r => .sl (ints r) .al) .al] := rfl
  rw [hmk] at c17
  by_cases he : (termL l).2.2 = 0
  case neg =>
    have d1 := ibne he
    simp only [pf11, ↓wpre, wset, wcore, wext, ne_eq, if_true, if_false, exists_eq_left', true_implies, false_implies, exists_const, exists_eq_right, binA, intA, loadA, storeA, pickC, setAt, mapO, argsE, X.isC, resA, oneA, unA, boundA, eqiA, eqsA, fillA, fillE, ASt.fz, strA, simprocAttr, List.length_append, List.append_assoc, app_get_len, app_get_add, app_set_len, app_set_add, c26, c27, c17, d1]
  have d1 := ibne' he
  cases hok : (termL l).1 with
  | true =>
    rw [hok] at c17
    simp only [pf11, ↓wpre, wset, wcore, wext, ne_eq, if_true, if_false, exists_eq_left', true_implies, false_implies, exists_const, exists_eq_right, binA, intA, loadA, storeA, pickC, setAt, mapO, argsE, X.isC, resA, oneA, unA, boundA, eqiA, eqsA, fillA, fillE, ASt.fz, strA, simprocAttr, List.length_append, List.append_assoc, app_get_len, app_get_add, app_set_len, app_set_add, c26, c27, c17, d1]
  | false =>
    rw [hok] at c17
    obtain ⟨t1, t2, t3⟩ := termL_eq (l := l)
    have t3 := t3 (by rw [← t1]; exact he)
    obtain ⟨ar, q, hg, hclo, hq⟩ := closL_ok (l := l) (by rw [← t1]; exact he)
    rw [hq] at t3
    obtain ⟨s1, s2⟩ := srt_sorted hclo.good
    obtain ⟨c, hcq, hcb, hce⟩ : ∃ c, c ∈ q ∧ badB c = true ∧ (termL l).2.1 = c := by
      cases hfd : (srt q).find? badB with
      | none => rw [t3, hfd] at hok; simp at hok
      | some c => exact ⟨c, (s2 c).1 (List.mem_of_find?_eq_some hfd), List.find?_some hfd, by rw [t3, hfd]⟩
    rw [hce] at c17
    have hgc := hclo.good c hcq
    obtain ⟨r1, r2, r3⟩ := refused_sizes hgc hcb
    have hlen : c.m.length = ar c.t := hgc.wm.len
    have hn1 := hgc.r1.1
    have hn3 : ar c.t ≤ 3 := by
      obtain ⟨d, hd, e⟩ := gen_t (hclo.gen c hcq)
      have hb : bigC d = false := by have := List.any_eq_false.1 hfw.2.2 d hd; simpa using this
      unfold bigC at hb
      simp only [Bool.or_eq_false_iff, decide_eq_false_iff_not] at hb
      rw [e, ← (hg d hd).wm.len]
      omega
    have hcol : ar c.f = ar c.t := by rw [r1]
    have hv2 : ∀ j, vR c j ≤ 2 := fun j => by
      rcases Nat.lt_or_ge j c.m.length with h | h
      · have := r3 j h; omega
      · rw [vR_out hgc (by omega)]; omega
    have v0 := hv2 0
    have v1 := hv2 1
    have v2 := hv2 2
    obtain ⟨k0, hk0⟩ : ∃ k0, k0 = vR c 0 + 3 * vR c 1 + 9 * vR c 2 := ⟨_, rfl⟩
    have hvk : ∀ j, j < 3 → vK k0 j = vR c j := fun j hj => by
      unfold vK
      have : j = 0 ∨ j = 1 ∨ j = 2 := by omega
      rcases this with rfl | rfl | rfl
      · rw [if_pos rfl]; omega
      · rw [if_neg (by omega), if_pos rfl]; omega
      · rw [if_neg (by omega), if_neg (by omega)]; omega
    have hfit : ∀ i j, i < c.m.length → j < c.m.length → (get2 c.m i j = 2 → vK k0 i < vK k0 j) ∧ (get2 c.m i j = 1 → vK k0 i ≤ vK k0 j) := fun i j hi hj => by
      rw [hvk i (by omega), hvk j (by omega)]
      exact r2 i j hi hj
    have d2 := ibne' r1
    have d3 : decide ((c.m.length : Int) > 3) = false := decide_eq_false (by omega)
    have d4 : decide ((c.m.length : Int) < 1) = false := decide_eq_false (by omega)
    have mall := mrow_all c.m
    simp only [pf11, ↓wpre, wset, wcore, wext, ne_eq, if_true, if_false, exists_eq_left', true_implies, false_implies, exists_const, exists_eq_right, binA, intA, loadA, storeA, pickC, setAt, mapO, argsE, X.isC, resA, oneA, unA, boundA, eqiA, eqsA, fillA, fillE, ASt.fz, strA, simprocAttr, List.length_append, List.append_assoc, app_get_len, app_get_add, app_set_len, app_set_add, c26, c27, c17, d1, List.length_map, d2, d3, d4]
    refine W_loopE (fun k => 27 - k) (fun k E H T => E 6 = .ptr 0 0 ∧ H[0]? = some (.cells false [.int c.f, .int c.t, .sl (c.m.map fun r => .sl (ints r) .al) .al]) ∧ E 8 = .int c.m.length ∧ E 9 = .int (k : Nat) ∧ k ≤ k0) ?_ 0 ⟨rfl, rfl, rfl, rfl, Nat.zero_le _⟩
    rintro k E H T ⟨e6, h0, e8, e9, hk⟩
    have q1 : decide ((k : Int) < 27) = true := decide_eq_true (by omega)
    have u1 : ((k : Nat) : Int).tmod 3 = ((k % 3 : Nat) : Int) := (Int.ofNat_tmod k 3).symm
    have u2 : IntKind.i64.wrap (((k : Nat) : Int).tdiv 3) = ((k / 3 : Nat) : Int) := by
      rw [show ((k : Nat) : Int).tdiv 3 = ((k / 3 : Nat) : Int) from (Int.ofNat_tdiv k 3).symm]
      exact wrap_in (by unfold in64; omega)
    have u3 : ((k / 3 : Nat) : Int).tmod 3 = ((k / 3 % 3 : Nat) : Int) := (Int.ofNat_tmod (k / 3) 3).symm
    have u4 : IntKind.i64.wrap (((k : Nat) : Int).tdiv 9) = ((k / 9 : Nat) : Int) := by
      rw [show ((k : Nat) : Int).tdiv 9 = ((k / 9 : Nat) : Int) from (Int.ofNat_tdiv k 9).symm]
      exact wrap_in (by unfold in64; omega)
    simp only [↓wpre, wset, wcore, wext, ne_eq, if_true, if_false, exists_eq_left', true_implies, false_implies, exists_const, exists_eq_right, binA, intA, loadA, storeA, pickC, setAt, mapO, argsE, X.isC, resA, oneA, unA, boundA, eqiA, eqsA, fillA, fillE, ASt.fz, strA, simprocAttr, List.length_append, List.append_assoc, app_get_len, app_get_add, app_set_len, app_set_add, e6, e8, e9, q1, u1, u2, u3, u4]
    have hV : (H ++ [AObj.cells false [AV.int (k % 3 : Nat), AV.int (k / 3 % 3 : Nat), AV.int (k / 9 : Nat)]])[H.length]? = some (.cells false [AV.int (k % 3 : Nat), AV.int (k / 3 % 3 : Nat), AV.int (k / 9 : Nat)]) := app_get_len
    have hB : (H ++ [AObj.cells false [AV.int (k % 3 : Nat), AV.int (k / 3 % 3 : Nat), AV.int (k / 9 : Nat)]])[0]? = _ := app_get_of h0 _
    refine W_loopE (fun i => c.m.length - i) (fun i E H' T' => E 6 = .ptr 0 0 ∧ E 8 = .int c.m.length ∧ E 9 = .int (k : Nat) ∧ E 10 = .ptr H.length 0 ∧ E 12 = .int (i : Nat) ∧ i ≤ c.m.length ∧ H' = H ++ [AObj.cells false [AV.int (k % 3 : Nat), AV.int (k / 3 % 3 : Nat), AV.int (k / 9 : Nat)]] ∧ T' = T ∧ ∃ b, E 11 = .bool b ∧ (k = k0 → b = true)) ?_ 0 ⟨e6, e8, e9, rfl, rfl, Nat.zero_le _, rfl, rfl, true, rfl, fun _ => rfl⟩
    generalize hHG : H ++ [AObj.cells false [AV.int (k % 3 : Nat), AV.int (k / 3 % 3 : Nat), AV.int (k / 9 : Nat)]] = G at *
    clear e6 e8 e9 E
    rintro i E H' T' ⟨e6, e8, e9, e10, e12, hi, rfl, rfl, b, e11, hb⟩
    rcases Nat.lt_or_ge i c.m.length with hlt | hge
    · have q2 := dlt hlt
      have hri : c.m[i]? = some c.m[i] := List.getElem?_eq_getElem hlt
      generalize c.m[i] = row at hri
      have hrow : row.length = ar c.f := hgc.wm.row row (List.mem_of_getElem? hri)
      have hrg := mrow_get hri
      have ral := ints_all row
      simp only [↓wpre, wset, wcore, wext, ne_eq, if_true, if_false, exists_eq_left', true_implies, false_implies, exists_const, exists_eq_right, binA, intA, loadA, storeA, pickC, setAt, mapO, argsE, X.isC, resA, oneA, unA, boundA, eqiA, eqsA, fillA, fillE, ASt.fz, strA, simprocAttr, List.length_append, List.append_assoc, app_get_len, app_get_add, app_set_len, app_set_add, e6, e8, e9, e10, e11, e12, q2]
      refine W_loopE (fun j => c.m.length - j) (fun j E H'' T'' => E 6 = .ptr 0 0 ∧ E 8 = .int c.m.length ∧ E 9 = .int (k : Nat) ∧ E 10 = .ptr H.length 0 ∧ E 12 = .int (i : Nat) ∧ E 13 = .int (j : Nat) ∧ j ≤ c.m.length ∧ H'' = H' ∧ T'' = T' ∧ ∃ b, E 11 = .bool b ∧ (k = k0 → b = true)) ?_ 0 ⟨e6, e8, e9, e10, e12, rfl, Nat.zero_le _, rfl, rfl, b, e11, hb⟩
      clear e6 e8 e9 e10 e11 e12 hb b E
      rintro j E H'' T'' ⟨e6, e8, e9, e10, e12, e13, hj, rfl, rfl, b, e11, hb⟩
      rcases Nat.lt_or_ge j c.m.length with hjl | hjg
      · have q3 := dlt hjl
        have q4 : decide ((j : Int) < row.length) = true := dlt (by omega)
        obtain ⟨m, m1, m2, m3⟩ := ints_get (show j < row.length by omega)
        have hgm : get2 c.m i j = m := by rw [get2_row hri, getD_at m1]
        have vi := vK_get (k := k) (j := i) (by omega)
        have vj := vK_get (k := k) (j := j) (by omega)
        have li : ((i : Int) < 3) = True := eq_true (by omega)
        have lj : ((j : Int) < 3) = True := eq_true (by omega)
        have hdi : (List.drop i [AV.int (k % 3 : Nat), AV.int (k / 3 % 3 : Nat), AV.int (k / 9 : Nat)]).head? = some (.int (vK k i : Nat)) := by rw [List.head?_drop]; exact vi
        have hdj : (List.drop j [AV.int (k % 3 : Nat), AV.int (k / 3 % 3 : Nat), AV.int (k / 9 : Nat)]).head? = some (.int (vK k j : Nat)) := by rw [List.head?_drop]; exact vj
        by_cases h2 : m = 2
        · have p1 : (m == 2) = true := by simp [h2]
          by_cases hge2 : vK k i ≥ vK k j
          · have p2 : decide (((vK k i : Nat) : Int) ≥ (vK k j : Nat)) = true := decide_eq_true (by omega)
            have hne : k ≠ k0 := fun e => by
              have := (hfit i j hlt hjl).1 (by rw [hgm, h2])
              rw [← e] at this; omega
            simp only [↓wpre, wset, wcore, wext, ne_eq, if_true, if_false, exists_eq_left', true_implies, false_implies, exists_const, exists_eq_right, binA, intA, loadA, storeA, pickC, setAt, mapO, argsE, X.isC, resA, oneA, unA, boundA, eqiA, eqsA, fillA, fillE, ASt.fz, strA, simprocAttr, List.length_append, List.append_assoc, app_get_len, app_get_add, app_set_len, app_set_add, e6, e8, e9, e10, e11, e12, e13, q3, hB, hrg, mall, ints_len, q4, m3, ral, p1, hV, li, lj, hdi, hdj, p2, Nat.mul_one]
            exact EQ_in ⟨j + 1, by omega, e6, e8, e9, e10, e12, next_ixv (by unfold lenB; omega), by omega, rfl, rfl, false, rfl, fun e => absurd e hne⟩
          · have p2 : decide (((vK k i : Nat) : Int) ≥ (vK k j : Nat)) = false := decide_eq_false (by omega)
            have p3 : (m == 1) = false := by rw [h2]; rfl
            simp only [↓wpre, wset, wcore, wext, ne_eq, if_true, if_false, exists_eq_left', true_implies, false_implies, exists_const, exists_eq_right, binA, intA, loadA, storeA, pickC, setAt, mapO, argsE, X.isC, resA, oneA, unA, boundA, eqiA, eqsA, fillA, fillE, ASt.fz, strA, simprocAttr, List.length_append, List.append_assoc, app_get_len, app_get_add, app_set_len, app_set_add, e6, e8, e9, e10, e11, e12, e13, q3, hB, hrg, mall, ints_len, q4, m3, ral, p1, p3, hV, li, lj, hdi, hdj, p2, Nat.mul_one]
            exact EQ_in ⟨j + 1, by omega, e6, e8, e9, e10, e12, next_ixv (by unfold lenB; omega), by omega, rfl, rfl, b, e11, hb⟩
        · have p1 : (m == 2) = false := by simp [h2]
          by_cases h1 : m = 1
          · have p3 : (m == 1) = true := by simp [h1]
            by_cases hgt : vK k i > vK k j
            · have p2 : decide (((vK k i : Nat) : Int) > (vK k j : Nat)) = true := decide_eq_true (by omega)
              have hne : k ≠ k0 := fun e => by
                have := (hfit i j hlt hjl).2 (by rw [hgm, h1])
                rw [← e] at this; omega
              simp only [↓wpre, wset, wcore, wext, ne_eq, if_true, if_false, exists_eq_left', true_implies, false_implies, exists_const, exists_eq_right, binA, intA, loadA, storeA, pickC, setAt, mapO, argsE, X.isC, resA, oneA, unA, boundA, eqiA, eqsA, fillA, fillE, ASt.fz, strA, simprocAttr, List.length_append, List.append_assoc, app_get_len, app_get_add, app_set_len, app_set_add, e6, e8, e9, e10, e11, e12, e13, q3, hB, hrg, mall, ints_len, q4, m3, ral, p1, p3, hV, li, lj, hdi, hdj, p2, Nat.mul_one]
              exact EQ_in ⟨j + 1, by omega, e6, e8, e9, e10, e12, next_ixv (by unfold lenB; omega), by omega, rfl, rfl, false, rfl, fun e => absurd e hne⟩
            · have p2 : decide (((vK k i : Nat) : Int) > (vK k j : Nat)) = false := decide_eq_false (by omega)
              simp only [↓wpre, wset, wcore, wext, ne_eq, if_true, if_false, exists_eq_left', true_implies, false_implies, exists_const, exists_eq_right, binA, intA, loadA, storeA, pickC, setAt, mapO, argsE, X.isC, resA, oneA, unA, boundA, eqiA, eqsA, fillA, fillE, ASt.fz, strA, simprocAttr, List.length_append, List.append_assoc, app_get_len, app_get_add, app_set_len, app_set_add, e6, e8, e9, e10, e11, e12, e13, q3, hB, hrg, mall, ints_len, q4, m3, ral, p1, p3, hV, li, lj, hdi, hdj, p2, Nat.mul_one]
              exact EQ_in ⟨j + 1, by omega, e6, e8, e9, e10, e12, next_ixv (by unfold lenB; omega), by omega, rfl, rfl, b, e11, hb⟩
          · have p3 : (m == 1) = false := by simp [h1]
            simp only [↓wpre, wset, wcore, wext, ne_eq, if_true, if_false, exists_eq_left', true_implies, false_implies, exists_const, exists_eq_right, binA, intA, loadA, storeA, pickC, setAt, mapO, argsE, X.isC, resA, oneA, unA, boundA, eqiA, eqsA, fillA, fillE, ASt.fz, strA, simprocAttr, List.length_append, List.append_assoc, app_get_len, app_get_add, app_set_len, app_set_add, e6, e8, e9, e10, e11, e12, e13, q3, hB, hrg, mall, ints_len, q4, m3, ral, p1, p3, Nat.mul_one]
            exact EQ_in ⟨j + 1, by omega, e6, e8, e9, e10, e12, next_ixv (by unfold lenB; omega), by omega, rfl, rfl, b, e11, hb⟩
      · have q3 := dltf hjg
        simp only [↓wpre, wset, wcore, wext, ne_eq, if_true, if_false, exists_eq_left', true_implies, false_implies, exists_const, exists_eq_right, binA, intA, loadA, storeA, pickC, setAt, mapO, argsE, X.isC, resA, oneA, unA, boundA, eqiA, eqsA, fillA, fillE, ASt.fz, strA, simprocAttr, List.length_append, List.append_assoc, app_get_len, app_get_add, app_set_len, app_set_add, e6, e8, e9, e10, e11, e12, e13, q3]
        exact EQ_in ⟨i + 1, by omega, e6, e8, e9, e10, next_ixv (by unfold lenB; omega), by omega, rfl, rfl, b, e11, hb⟩
    · have q2 := dltf hge
      cases b with
      | true => simp only [↓wpre, wset, wcore, wext, ne_eq, if_true, if_false, exists_eq_left', true_implies, false_implies, exists_const, exists_eq_right, binA, intA, loadA, storeA, pickC, setAt, mapO, argsE, X.isC, resA, oneA, unA, boundA, eqiA, eqsA, fillA, fillE, ASt.fz, strA, simprocAttr, List.length_append, List.append_assoc, app_get_len, app_get_add, app_set_len, app_set_add, e6, e8, e9, e10, e11, e12, q2, c27]
      | false =>
        have hne : k ≠ k0 := fun e => by have := hb e; cases this
        simp only [↓wpre, wset, wcore, wext, ne_eq, if_true, if_false, exists_eq_left', true_implies, false_implies, exists_const, exists_eq_right, binA, intA, loadA, storeA, pickC, setAt, mapO, argsE, X.isC, resA, oneA, unA, boundA, eqiA, eqsA, fillA, fillE, ASt.fz, strA, simprocAttr, List.length_append, List.append_assoc, app_get_len, app_get_add, app_set_len, app_set_add, e6, e8, e9, e10, e11, e12, q2]
        exact EQ_in ⟨k + 1, by omega, e6, hB, e8, next_ixv (by unfold lenB; omega), by omega⟩
end Go.Proofs.Eng.T
namespace Go.Proofs.Eng
open Go Go.Proofs
open Go.ChangeShapes Go.WideShapes Go.ChangeAt Go.RowKit
set_option maxRecDepth 100000
theorem law_trueG {md : FuncId → Md} {pfs : FuncId → Option PF} {f : FuncId} {ls : List AV} (h : Out md pfs f ls (· = .bool true) fun _ => False) : ∃ s', run md pfs f ls ⟨[], []⟩ = some (.ret (.v (.bool true)), s') := by
  obtain ⟨out, s, out', h1, h2, h3⟩ := h
  cases out' with
  | pan v => exact h3.elim
  | ret v =>
    subst h3
    cases out with
    | pan w => simp [Outc.purify] at h2
    | ret w =>
      simp only [Outc.purify, Option.map_eq_some_iff] at h2
      obtain ⟨y, h2, h3⟩ := h2
      cases h3
      exact ⟨s, by rw [h1, purify_v_inv h2]⟩
theorem trod_size {H : Type} {enc : TypeId × Value → H} {P : Program} {w : World} {base : Nat} {spare : Nat → Bool} {held : Bool} {fuel : Nat} {t e : TypeId} {a : Option Addr} {len cap : Nat} {d : DataW H} {ps : List MemPlace}
    (hT : P.underlying t = some (.slice e)) (h : DataW.trod enc P w base spare held fuel t [.slice a len cap] = some (d, ps)) : len = 0 ∨ ∃ m, len ≤ m ∧ m * P.bytesOf e ∈ d.weights P t := by
  cases fuel with
  | zero => simp [DataW.trod] at h
  | succ fuel =>
    cases a with
    | none =>
      unfold DataW.trod at h
      rw [hT] at h
      split at h <;> first | (rename_i h1; cases h1; done) | skip
      all_goals (rename_i h1 h2; first | (cases h2; exact .inl rfl) | (cases h1; done) | (cases h2; done) | (simp at h; done))
    | some a =>
      unfold DataW.trod at h
      rw [hT] at h
      simp only at h
      split at h
      · obtain ⟨elems, h1, h2⟩ := Option.bind_eq_some_iff.1 h
        obtain ⟨rest, h3, h4⟩ := Option.map_eq_some_iff.1 h2
        simp only [Prod.mk.injEq] at h4
        obtain ⟨rfl, _⟩ := h4
        refine .inr ⟨elems.length + rest.length, ?_, ?_⟩
        · have := (mapM_get h1).1
          simp at this; omega
        · unfold DataW.weights
          rw [hT]; simp
      · cases h
theorem law_contract_sz {P : Program} {H : Type} {enc : TypeId × Value → H} {md : FuncId → Md} {pfs : FuncId → Option PF} (hm : P.follows .mixedOrders = true) (hP : PfsOK P pfs) (hl : laidOutB P = true) {f : FuncId} {fn : Func} {s : ChangeSpec} {tb : TypeId}
    (hpar : (fn.params.toList.all fun t => P.readableRec t && decide (t < P.types.size)) = true) (hvars : varsRowed P s.vars = true) (hres : fn.resultTypes = #[tb]) (htb : P.underlying tb = some .bool)
    (hspec : ∀ ds gs : List (DataW H), ds.length = fn.params.toList.length → gs.length = s.vars.length → (s.fn H (ds ++ gs)).results = [.lit (.bool true)] ∧ (s.fn H (ds ++ gs)).args = ds ∧ (s.fn H (ds ++ gs)).vars = gs)
    {t0 e0 : TypeId} {ts0 : List TypeId} (hp0 : fn.params.toList = t0 :: ts0) (hT0 : P.underlying t0 = some (.slice e0))
    (hlaw : ∀ ls : List AV, ArgsT P fn.params.toList ls → (∀ al t ls', ls = .sl al t :: ls' → al.length * P.bytesOf e0 ≤ reachBytes) → ∃ s', run md pfs f ls ⟨[], []⟩ = some (.ret (.v (.bool true)), s'))
    {W : World} (hk : Kn W) {base : Nat} {args : Array Value} {ds gs : List (DataW H)} {before : List MemPlace}
    (hval : ∀ (j : Nat) t v, fn.params[j]? = some t → args[j]? = some v → Value.okWide P W .any base t v) (hW : DataW.Whole enc P fn.params.toList s.vars false W args.toList ds gs before)
    (hwt : (DataW.weightsEach P (fn.params.toList ++ s.plain.varTypes P) (ds ++ gs)).all (· ≤ reachBytes) = true) :
    Calls P f args W fun e W' => ∃ v, e = .returned v ∧ s.post enc P fn false true false false W args v W' := by
  obtain ⟨p, q, hA, hV, hrest⟩ := id hW
  obtain ⟨ls, h1, h2, h3⟩ := args_rep (w' := W) (base := base) (fun j t v ht hv => hval j t v (by simpa using ht) (by simpa using hv)) hA
  have hsz : ∀ al t ls', ls = .sl al t :: ls' → al.length * P.bytesOf e0 ≤ reachBytes := by
    rintro al t ls' rfl
    obtain ⟨u, us, hu, hR, _⟩ := h1.cons_inv
    obtain ⟨x, cap, b, o, cs, rfl, _⟩ := hR.sl_inv
    rw [hu, hp0] at hA
    match ds, hA with
    | d :: ds, ⟨p1, q1, ⟨fuel, hd⟩, _, _⟩ =>
      rw [hp0] at hwt
      rcases trod_size hT0 hd with h0 | ⟨m, hm1, hm2⟩
      · rw [h0]; simp
      · have hall := List.all_eq_true.1 hwt (m * P.bytesOf e0) (by
          simp only [List.cons_append, DataW.weightsEach]
          exact List.mem_append_left _ hm2)
        have := of_decide_eq_true hall
        exact Nat.le_trans (Nat.mul_le_mul_right _ hm1) this
  obtain ⟨s', hs⟩ := hlaw ls h2 hsz
  obtain ⟨e1, e2, e3⟩ := hspec ds gs h3 (vars_len hV)
  have := law_calls hm hP hs hk h1
  rw [show args.toList.toArray = args from Array.toArray_toList] at this
  refine this.mono fun e W' ⟨he, hb⟩ => ⟨_, he, ?_⟩
  exact post_true hW hb hl hpar hvars hres htb e1 e2 e3
end Go.Proofs.Eng
