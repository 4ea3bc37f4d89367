/- What the rows' list of laid variables gives. No conditions beyond those in the theorems. -/
import Derived.Test.YtjiheebhmokfbaaDoorH1
import Derived.Test.YtjiheebhmokfbaaDoorE1
import Derived.Test.YtjiheebhmokfbaaDoorRows
import Derived.Lib.LaidTab
import Derived.Lay
import Derived.MakeChecks
import Derived.ProofKit
set_option linter.all false
set_option linter.deprecated false
set_option linter.unnecessarySimpa false
set_option linter.unusedVariables false
set_option linter.unusedSimpArgs false
set_option linter.defProp false
namespace Go.Proofs.Eng
open Go Go.Proofs
set_option maxRecDepth 100000
set_option maxHeartbeats 16000000
def IntsR (P : List Int → Prop) (v : AV) : Prop := ∃ r t, v = .sl (ints r) t ∧ t.pure = true ∧ P r
theorem ints_at {l : List Int} {j : Nat} (h : j < l.length) : ∃ z, l[j]? = some z ∧ (ints l)[j]? = some (.int z) := by
 refine ⟨l[j], List.getElem?_eq_getElem h, ?_⟩
 rw [ints, List.getElem?_map, List.getElem?_eq_getElem h]; rfl
theorem ints_snoc (l : List Int) (x : Int) : ints (l ++ [x]) = ints l ++ [.int x] := by simp [ints]
theorem rins_ret {l : List Int} {t : Tl} (ht : t.pure = true) (hl : l.length ≤ 1000000) (hx : maxL l) {n : Int} (hn : 0 ≤ n) : Out md pfs 95 [.sl (ints l) t, .int n] (IntsR (AddP l n)) fun _ => False := by
 refine out_of pf95_is (Nat.le_of_ble_eq_true rfl) ?_
 have hall := ints_all l
 simp only [pf95, ↓wpre, wall, simprocAttr]
 refine W_loopE (fun j => l.length - j) (fun j E H V => H = [] ∧ E 0 = .sl (ints l) t ∧ E 1 = .int n ∧ ∃ (dn : Bool) (r : List Int) (tr : Tl), E 5 = .sl (ints r) tr ∧ E 6 = .bool dn ∧ App V (ints r) tr ∧ InsP (l.take j) n dn r ∧ E 7 = .int (j : Nat) ∧ j ≤ l.length) ?_ 0 ⟨rfl, rfl, rfl, false, [], .nil, rfl, rfl, app_start _, by rw [List.take_zero]; exact .nil n, rfl, Nat.zero_le _⟩
 rintro j E H V ⟨rfl, e0, e1, dn, r, tr, e5, e6, hA, hI, e7, hj⟩
 rcases Nat.lt_or_ge j l.length with hlt | hge
 ·have hdec : decide ((j : Int) < l.length) = true := by simpa using hlt
  obtain ⟨x, x0, x1⟩ := ints_at hlt
  have htk : l.take (j + 1) = l.take j ++ [x] := by rw [List.take_add_one, x0]; rfl
  cases c1 : (x == n)
  rotate_left
  ·simp only [↓wpre, wall, simprocAttr, e0, e1, e5, e6, e7, hdec, ints_len, x1, hall, c1]
   have hxn : x = n := by simpa using c1
   subst hxn
   exact ⟨_, purify_pure (by simp [pv_sl, ht, ints_pure]), l, t, rfl, ht, .same hx (List.mem_of_getElem? x0)⟩
  have hxn : x ≠ n := by simpa using c1
  have hrl : r.length ≤ j + 1 := by
   cases dn
   ·rw [hI.no rfl, List.length_take]; omega
   ·rw [(hI.yes rfl).2.1, List.length_take]; omega
  cases c2 : (decide (x > n) && !dn)
  ·obtain ⟨t1, V1, f1, f2, _⟩ := app_one (x := .int x) hA (by rw [ints_len]; unfold capB; omega) (ints_all _) rfl rfl
   rw [← ints_snoc] at f1 f2
   have hst : InsP (l.take (j + 1)) n dn (r ++ [x]) := by
    rw [htk]
    refine hI.stay hxn ?_
    cases dn
    ·right; simp only [Bool.not_false, Bool.and_true, decide_eq_false_iff_not] at c2; omega
    ·exact .inl rfl
   cases c3 : decide (x > n)
   ·simp only [↓wpre, wall, simprocAttr, e0, e1, e5, e6, e7, hdec, ints_len, x1, hall, c1, c3, f1]
    exact EQ_in ⟨j + 1, by omega, rfl, e0, e1, dn, r ++ [x], t1, rfl, e6, f2, hst, next_ixv (by unfold lenB; omega), by omega⟩
   ·rw [c3, Bool.true_and] at c2
    simp only [↓wpre, wall, simprocAttr, e0, e1, e5, e6, e7, hdec, ints_len, x1, hall, c1, c3, c2, f1]
    exact EQ_in ⟨j + 1, by omega, rfl, e0, e1, dn, r ++ [x], t1, rfl, e6, f2, hst, next_ixv (by unfold lenB; omega), by omega⟩
  ·rw [Bool.and_eq_true] at c2
   obtain ⟨c3, c4⟩ := c2
   have hd : dn = false := by simpa using c4
   subst hd
   obtain ⟨t1, V1, f1, f2, _⟩ := app_one (x := .int n) hA (by rw [ints_len]; unfold capB; omega) (ints_all _) rfl rfl
   rw [← ints_snoc] at f1 f2
   obtain ⟨t2, V2, g1, g2, _⟩ := app_one (x := .int x) f2 (by rw [ints_len, List.length_append]; unfold capB; simp only [List.length_cons, List.length_nil]; omega) (ints_all _) rfl rfl
   rw [← ints_snoc] at g1 g2
   simp only [↓wpre, wall, simprocAttr, e0, e1, e5, e6, e7, hdec, ints_len, x1, hall, c1, c3, f1, g1, Bool.not_false]
   exact EQ_in ⟨j + 1, by omega, rfl, e0, e1, true, r ++ [n] ++ [x], t2, rfl, rfl, g2, by rw [htk]; exact hI.put (by simpa using c3), next_ixv (by unfold lenB; omega), by omega⟩
 ·have hdec : decide ((j : Int) < l.length) = false := by simpa using hge
  rw [List.take_of_length_le (by omega)] at hI
  cases dn
  ·have := hI.no rfl
   subst this
   obtain ⟨t1, V1, f1, f2, _⟩ := app_one (x := .int n) hA (by rw [ints_len]; unfold capB; omega) (ints_all _) rfl rfl
   rw [← ints_snoc] at f1 f2
   simp only [↓wpre, wall, simprocAttr, e0, e1, e5, e6, e7, hdec, ints_len, f1, Bool.not_false]
   obtain ⟨t', h1, h2⟩ := app_purify (s := ⟨[], V1⟩) f2 (ints_pure _) (n := 1020) (by omega)
   exact ⟨_, h2, r ++ [n], t', rfl, h1, hI.fin0 hx hn⟩
  ·simp only [↓wpre, wall, simprocAttr, e0, e1, e5, e6, e7, hdec, ints_len, Bool.not_true]
   obtain ⟨t', h1, h2⟩ := app_purify (s := ⟨[], V⟩) hA (ints_pure _) (n := 1020) (by omega)
   exact ⟨_, h2, r, t', rfl, h1, hI.fin hx⟩
theorem maxL_nil : maxL [] := fun y h => by cases h
theorem rfree_ret (x : Tm) : ∀ {l : List Int} {t : Tl} {a : AV} {d : Nat}, x.Is a → (∀ y ∈ x.subs, y.right = true) → t.pure = true → l.length + x.sz ≤ 1000000 → d + x.dp ≤ 1000000 → maxL l → 0 ≤ lstI l → (∀ y ∈ l, 0 ≤ y ∧ y ≤ 2147483647) → Out md pfs 81 [.sl (ints l) t, a, .int (d : Nat)] (IntsR (FreeP l (x.fv - d) x.sz)) fun _ => False := by
 induction x using Tm.ind with
 | h k i nm ls kids ih =>
 intro l t a d hI hr ht hl hd hm hl0 hb
 have hpa := tmPure _ hI
 obtain ⟨t1, t2, las, kas, rfl, g1, g2, g3, g4, g5, g6, g7, g8, g9⟩ := hI.opn
 have hkl := g9.len
 have hall := g9.all tmAgg
 have hr0 := hr _ (subs_self _)
 have hf := formed_facts (n := ndOf [] (.mk k i nm ls kids)) (by rw [formed_ndOf]; exact hr0)
 rw [Tm.sz] at hl
 rw [Tm.dp] at hd
 rw [fv_mk, Tm.sz]
 have hk3 : kids.length ≤ 3 := by have := hf.2.2.2.2.2.1; simpa [ndOf, Tm.kids] using this
 have hfv0 : fv0 k i ≤ 2147483648 := by
  have h2 := hf.2.1.2
  have : i ≤ 2147483647 := h2
  unfold fv0; split <;> omega
 refine out_of pf81_is (Nat.le_of_ble_eq_true rfl) ?_
 simp only [pf81]
 refine seqE (fun E H V => H = [.cells false [.int k, .int i, .str nm, .sl las t1, .sl kas t2]] ∧ E 0 = .sl (ints l) t ∧ E 2 = .int (d : Nat) ∧ E 4 = .ptr 0 0) ?_ ?_
 ·simp only [↓wpre, wall, simprocAttr]; exact EQ_in ⟨rfl, rfl, rfl, rfl⟩
 rintro E _ V ⟨rfl, e0, e2, e4⟩
 refine seqE (fun E H V => H = [.cells false [.int k, .int i, .str nm, .sl las t1, .sl kas t2]] ∧ E 2 = .int (d : Nat) ∧ E 4 = .ptr 0 0 ∧ ∃ l1 u1, E 0 = .sl (ints l1) u1 ∧ u1.pure = true ∧ FreeP l (fv0 k i - d) 1 l1 ∧ 0 ≤ lstI l1) ?_ ?_
 ·cases c1 : (k == 0)
  ·have hk : k ≠ 0 := by simpa using c1
   simp only [↓wpre, wall, simprocAttr, e0, e2, e4, c1]
   refine EQ_in ⟨rfl, e2, e4, l, t, e0, ht, ⟨hm, ?_, by omega, hb⟩, hl0⟩
   rw [fv0, if_neg hk]; omega
  have hk : k = 0 := by simpa using c1
  cases c2 : decide (i ≥ (d : Nat))
  ·simp only [decide_eq_false_iff_not] at c2
   have c2' : decide (i ≥ (d : Int)) = false := by simpa using c2
   simp only [↓wpre, wall, simprocAttr, e0, e2, e4, c1, c2']
   refine EQ_in ⟨rfl, e2, e4, l, t, e0, ht, ⟨hm, ?_, by omega, hb⟩, hl0⟩
   rw [fv0, if_pos hk]; omega
  ·have hid := c2
   simp only [decide_eq_true_eq] at hid
   have h2 := hf.2.1
   have h21 : 0 ≤ i := h2.1
   have h22 : i ≤ 2147483647 := h2.2
   have w21 : IntKind.i64.wrap (i - (d : Nat)) = i - (d : Nat) := wrap_in (by unfold in64; omega)
   obtain ⟨_, ⟨r, u, rfl, hu, hA⟩, c95⟩ := (rins_ret ht (by omega) hm (n := i - (d : Nat)) (by omega)).call rfl (by simp [pvs_cons, pvs_nil, pv_sl, pv_v, ht, ints_pure])
   simp only [↓wpre, wall, simprocAttr, e0, e2, e4, c1, c2, w21, c95]
   have hlst := hA.lst
   refine EQ_in ⟨rfl, e2, e4, r, u, rfl, hu, ⟨hA.mx, ?_, hA.len, fun y hy => ?_⟩, by omega⟩
   ·rw [hlst, fv0, if_pos hk]; omega
   ·rcases hA.mem y hy with h | h
    ·exact hb y h
    ·omega
 clear e0 e2 e4 E V
 rintro E _ V ⟨rfl, e2, e4, l1, u1, e0, hu1, hF, hL1⟩
 have hl1 := hF.len
 have hb1 := hF.rng
 have hm1 := hF.mx
 have hlst1 := hF.lst
 refine seqE (fun E H V => ∃ r u, E 0 = .sl (ints r) u ∧ u.pure = true ∧ FreeP l (fvF k (fv0 k i) 0 (kids.map Tm.fv) - d) (1 + tszL kids) r) ?_ ?_
 ·refine seqE (fun E H V => H = [.cells false [.int k, .int i, .str nm, .sl las t1, .sl kas t2]] ∧ E 0 = .sl (ints l1) u1 ∧ E 2 = .int (d : Nat) ∧ E 4 = .ptr 0 0 ∧ E 7 = .int (0 : Nat)) ?_ ?_
  ·simp only [↓wpre, wall, simprocAttr]; exact EQ_in ⟨rfl, e0, e2, e4, rfl⟩
  clear e0 e2 e4 E V
  rintro E _ V ⟨rfl, e0, e2, e4, e7⟩
  rw [W_block]
  refine W_loopE (fun j => kas.length - j) (fun j E H V => H = [.cells false [.int k, .int i, .str nm, .sl las t1, .sl kas t2]] ∧ E 2 = .int (d : Nat) ∧ E 4 = .ptr 0 0 ∧ E 7 = .int (j : Nat) ∧ j ≤ kas.length ∧ ∃ r u, E 0 = .sl (ints r) u ∧ u.pure = true ∧ 0 ≤ lstI r ∧ FreeP l (fvF k (fv0 k i) 0 ((kids.take j).map Tm.fv) - d) (1 + tszL (kids.take j)) r) ?_ 0 ⟨rfl, e2, e4, e7, Nat.zero_le _, l1, u1, e0, hu1, hL1, by simpa [fvF, tszL] using hF⟩
  clear e0 e2 e4 e7 E V
  rintro j E H V ⟨rfl, e2, e4, e7, hj, r, u, e0, hu, hL, hP⟩
  rcases Nat.lt_or_ge j kas.length with hlt | hge
  ·have hdec : decide ((j : Int) < kas.length) = true := by simpa using hlt
   obtain ⟨y, c, d0, d1, d3, d4, d5, d6, d7, d8⟩ := g9.get tmAgg hlt
   obtain ⟨s1, s2⟩ := tsz_split d0
   obtain ⟨p1, p2⟩ := tdp_split d0
   have hym := List.mem_of_getElem? d0
   have hbn := binder_01 k (j : Nat)
   have c91 := (below_ret k (j : Nat)).call rfl (by simp [pvs_cons, pvs_nil, pv_v])
   obtain ⟨_, rfl, c91⟩ := c91
   have w41 : IntKind.i64.wrap ((d : Int) + binderG k (j : Nat)) = ((d + (binderG k (j : Nat)).toNat : Nat) : Int) := by rw [wrap_in (by unfold in64; omega)]; omega
   have hrl := hP.len
   have htl : tszL (kids.take j) + y.sz ≤ tszL kids := by omega
   obtain ⟨_, ⟨r2, u2, rfl, hu2, hP2⟩, c81⟩ := (ih y hym (l := r) (t := u) (d := d + (binderG k (j : Nat)).toNat) d8 (fun z hz => hr z (by rw [Tm.subs]; exact List.mem_cons_of_mem _ (mem_subsL.2 ⟨y, hym, hz⟩))) hu (by omega) (by omega) hP.mx hL hP.rng).call rfl (by simp [pvs_cons, pvs_nil, pv_sl, pv_v, hu, ints_pure, tmPure _ d8])
   simp only [↓wpre, wall, simprocAttr, e0, e2, e4, e7, hdec, d4, d5, d6, d7, hall, c91, w41, c81]
   have hq := hP.trans hP2
   have e : kids.take (j + 1) = kids.take j ++ [y] := by rw [List.take_add_one, d0]; rfl
   have hlst2 := hP2.lst
   refine EQ_in ⟨j + 1, by omega, rfl, e2, e4, next_ixv (by unfold lenB; omega), by omega, r2, u2, rfl, hu2, by omega, ?_⟩
   have e9 : fvF k (fv0 k i) 0 ((kids.take (j + 1)).map Tm.fv) - d = max (fvF k (fv0 k i) 0 ((kids.take j).map Tm.fv) - d) (y.fv - (d + (binderG k (j : Nat)).toNat)) := by
    rw [e, List.map_append, List.map_cons, List.map_nil, fvF_snoc, List.length_map, List.length_take, Nat.zero_add, Nat.min_eq_left (by omega)]
    omega
   rw [e9, s1, ← Nat.add_assoc]
   exact hq
  ·have hdec : decide ((j : Int) < kas.length) = false := by simpa using hge
   rw [List.take_of_length_le (by omega)] at hP
   simp only [↓wpre, wall, simprocAttr, e4, e7, hdec]
   exact EQ_in ⟨r, u, e0, hu, hP⟩
 clear e0 e2 e4 E V
 rintro E H V ⟨r, u, e0, hu, hP⟩
 simp only [↓wpre, wall, simprocAttr, e0]
 exact ⟨_, purify_pure (by simp [pv_sl, hu, ints_pure]), r, u, rfl, hu, hP⟩
theorem rFree_ret {x : Tm} {a : AV} (hI : x.Is a) (hr : ∀ y ∈ x.subs, y.right = true) (hs : x.sz ≤ 900000) (hd : x.dp ≤ 1000000) : Out md pfs 62 [a] (IntsR fun r => lstI r = (x.fv : Nat) ∧ r.length ≤ x.sz ∧ ∀ y ∈ r, 0 ≤ y ∧ y ≤ 2147483647) fun _ => False := by
 obtain ⟨_, ⟨r, u, rfl, hu, hP⟩, c81⟩ := (rfree_ret x (l := []) (t := .nil) (d := 0) hI hr rfl (by simpa using (by omega : x.sz ≤ 1000000)) (by omega) maxL_nil (by simp [lstI]) (by simp)).call rfl (by simp [pvs_cons, pvs_nil, pv_sl, pv_v, tmPure _ hI, ints_pure, Tl.pure])
 obtain ⟨c, rfl, l1, l2, l3⟩ := tmCells hI
 rw [show ints [] = [] from rfl, show (((0 : Nat)) : Int) = 0 from rfl] at c81
 refine out_of pf62_is (Nat.le_of_ble_eq_true rfl) ?_
 simp only [pf62, ↓wpre, wall, simprocAttr, l1, l2, c81]
 have h1 := hP.lst
 have h2 := hP.len
 simp only [List.length_nil, Nat.zero_add] at h2
 have h0 : lstI [] = 0 := rfl
 exact ⟨_, purify_pure (by simp [pv_sl, hu, ints_pure]), r, u, rfl, hu, by rw [h1, h0]; omega, h2, hP.rng⟩
def FreeG (T : List Tm) (i : Int) (v : AV) : Prop := if 0 ≤ i ∧ i < T.length then ∃ x, T[i.toNat]? = some x ∧ v = .int (x.fv : Nat) else v = .int 0
theorem rFreeG_ret {T : List Tm} (hG : GT T) (hT : T.length ≤ 1000) {g : AV} (hg : GIs (nodesOf T) g) {i : Int} (hx : 0 ≤ i → ∀ x, T[i.toNat]? = some x → x.sz ≤ 900000) : Out md pfs 32 [g, .int i] (FreeG T i) fun _ => False := by
 have hpg := gPure hg
 obtain ⟨_, rfl, c48⟩ := (in_ret hg i).call rfl (by simp [pvs_cons, pvs_nil, hpg, pv_v])
 rw [nodes_len] at c48
 have hg0 := hg
 obtain ⟨al, tg, rfl, hg2⟩ := hg
 refine out_of pf32_is (Nat.le_of_ble_eq_true rfl) ?_
 cases hin : (decide (i ≥ 0) && decide (i < T.length))
 ·simp only [pf32, ↓wpre, wall, simprocAttr, c48, hin]
  rw [FreeG, if_neg]
  rintro ⟨h1, h2⟩
  have : (decide (i ≥ 0) && decide (i < T.length)) = true := by rw [Bool.and_eq_true, decide_eq_true_eq, decide_eq_true_eq]; exact ⟨h1, h2⟩
  rw [this] at hin; cases hin
 have hin' := hin
 rw [Bool.and_eq_true, decide_eq_true_eq, decide_eq_true_eq] at hin
 obtain ⟨x, hxi⟩ : ∃ x, T[i.toNat]? = some x := ⟨T[i.toNat]'(by omega), List.getElem?_eq_getElem _⟩
 have hxT := List.mem_of_getElem? hxi
 have hi : ((T.idxOf x : Nat) : Int) = i := by
  obtain ⟨_, hnm, _⟩ := good_at hG hxi
  have := (idx_first hxi fun y hy e => hnm (by rw [← e]; exact hy)).2
  omega
 have hdx := good_dp hG.good x hxT
 have hfv := fv_right hG x hxT
 obtain ⟨ax, hax, c50⟩ := (unfold_ret hG hg0 x hxT).call rfl (by simp [pvs_cons, pvs_nil, hpg, pv_v])
 rw [hi] at c50
 obtain ⟨_, ⟨r, u, rfl, hu, q1, q2, q3⟩, c62⟩ := (rFree_ret hax (fun y hy => hG.right y (hG.good.subs x hxT y hy)) (hx hin.1 x hxi) (by omega)).call rfl (by simp [pvs_cons, pvs_nil, tmPure _ hax])
 have hsz := hx hin.1 x hxi
 have hall := ints_all r
 have hres : ∀ v, (∃ x, T[i.toNat]? = some x ∧ v = .int (x.fv : Nat)) → FreeG T i v := fun v h => by rw [FreeG, if_pos ⟨hin.1, hin.2⟩]; exact h
 by_cases h0 : r = []
 ·subst h0
  have b1 : (((0 : Nat) : Int) == 0) = true := rfl
  have hr0 : (ints []).length = 0 := rfl
  have e0 : (x.fv : Int) = 0 := by rw [← q1]; rfl
  simp only [pf32, ↓wpre, wall, simprocAttr, c48, hin', c50, c62, hr0, b1]
  exact hres _ ⟨x, hxi, by rw [e0]⟩
 ·obtain ⟨r', y, rfl⟩ : ∃ r' y, r = r' ++ [y] := ⟨r.dropLast, r.getLast h0, (List.dropLast_concat_getLast h0).symm⟩
  rw [lstI_snoc] at q1
  have hy := q3 y (by simp)
  have hlen : (r' ++ [y]).length = r'.length + 1 := by simp
  have b1 : (((r'.length + 1 : Nat) : Int) == 0) = false := by simp only [beq_eq_false_iff_ne]; omega
  have w20 : IntKind.i64.wrap (((r'.length + 1 : Nat) : Int) - 1) = (r'.length : Nat) := by rw [wrap_in (by unfold in64; omega)]; omega
  have g21 : (ints (r' ++ [y]))[r'.length]? = some (.int y) := by simp [ints]
  have w23 : IntKind.i64.wrap (y + 1) = y + 1 := wrap_in (by unfold in64; omega)
  simp only [pf32, ↓wpre, wall, simprocAttr, c48, hin', c50, c62, ints_len, hlen, b1, w20, g21, hall, w23]
  exact hres _ ⟨x, hxi, by rw [← q1]⟩
theorem zeroIs : (vr 0).Is zeroA := vrIs (by omega) (by omega)
theorem rTerm_ret {T : List Tm} (hG : GT T) (hT : T.length ≤ 1000) {g : AV} (hg : GIs (nodesOf T) g) (i : Int) : Out md pfs 31 [g, .int i] (TermG T i) fun _ => False := by
 have hpg := gPure hg
 obtain ⟨_, rfl, c48⟩ := (in_ret hg i).call rfl (by simp [pvs_cons, pvs_nil, hpg, pv_v])
 rw [nodes_len] at c48
 have hg0 := hg
 obtain ⟨al, tg, rfl, hg2⟩ := hg
 refine out_of pf31_is (Nat.le_of_ble_eq_true rfl) ?_
 cases hin : (decide (i ≥ 0) && decide (i < T.length))
 ·simp only [pf31, ↓wpre, wall, simprocAttr, c48, hin]
  rw [TermG, if_neg]
  ·rfl
  rintro ⟨h1, h2⟩
  have : (decide (i ≥ 0) && decide (i < T.length)) = true := by rw [Bool.and_eq_true, decide_eq_true_eq, decide_eq_true_eq]; exact ⟨h1, h2⟩
  rw [this] at hin; cases hin
 have hin' := hin
 rw [Bool.and_eq_true, decide_eq_true_eq, decide_eq_true_eq] at hin
 obtain ⟨x, hxi⟩ : ∃ x, T[i.toNat]? = some x := ⟨T[i.toNat]'(by omega), List.getElem?_eq_getElem _⟩
 have hxT := List.mem_of_getElem? hxi
 have hi : ((T.idxOf x : Nat) : Int) = i := by
  obtain ⟨_, hnm, _⟩ := good_at hG hxi
  have := (idx_first hxi fun y hy e => hnm (by rw [← e]; exact hy)).2
  omega
 have hdx := good_dp hG.good x hxT
 have hres : ∀ v, TermR x v → TermG T i v := fun v h => by rw [TermG, if_pos ⟨hin.1, hin.2⟩]; exact ⟨x, hxi, h⟩
 obtain ⟨_, ⟨r, rfl, hr⟩, c40⟩ := (rSize_ret hG hg0 4096 (by omega) x hxT (by omega)).call rfl (by simp [pvs_cons, pvs_nil, hpg, pv_v])
 rw [hi, show ((4096 : Nat) : Int) = 4096 from rfl] at c40
 cases c1 : decide ((r : Int) > 4096)
 rotate_left
 ·simp only [pf31, ↓wpre, wall, simprocAttr, c48, hin', c40, c1]
  refine hres _ ?_
  rw [TermR, if_pos]
  ·rfl
  simp only [decide_eq_true_eq] at c1
  rcases Nat.lt_or_ge 4096 x.sz with h | h
  ·exact h
  ·have := hr.le h; omega
 have hsz : x.sz ≤ 4096 := by
  simp only [decide_eq_false_iff_not] at c1
  rcases Nat.lt_or_ge 4096 x.sz with h | h
  ·have := hr.gt h; omega
  ·exact h
 obtain ⟨ax, hax, c50⟩ := (unfold_ret hG hg0 x hxT).call rfl (by simp [pvs_cons, pvs_nil, hpg, pv_v])
 rw [hi] at c50
 obtain ⟨_, rfl, c61⟩ := (rdp_ret x hax (by omega)).call rfl (by simp [pvs_cons, pvs_nil, tmPure _ hax])
 have hpx := tmPure _ hax
 obtain ⟨c, rfl, l1, l2, l3⟩ := tmCells hax
 have hpp : ∀ (s : ASt), purify 1019 s (.agg c) = some (.agg c) := fun s => purify_pure hpx
 cases c2 : decide ((x.dp : Int) > 200)
 ·simp only [pf31, ↓wpre, wall, simprocAttr, c48, hin', c40, c1, c50, l1, l2, l3, c61, c2, hpp]
  simp only [decide_eq_false_iff_not] at c2
  refine hres _ ?_
  rw [TermR, if_neg (by omega), if_neg (by omega)]
  exact ⟨_, rfl, hax⟩
 ·simp only [pf31, ↓wpre, wall, simprocAttr, c48, hin', c40, c1, c50, l1, l2, l3, c61, c2]
  simp only [decide_eq_true_eq] at c2
  refine hres _ ?_
  rw [TermR, if_neg (by omega), if_pos (by omega)]; rfl
theorem TermG.eq {T : List Tm} {i : Int} {v : AV} (h : TermG T i v) : ∃ (t : Tm) (e : Int), (∀ w, TermG T i w → ∃ a, w = .tup [a, .int e] ∧ t.Is a) ∧ ((0 ≤ i ∧ i < T.length ∧ e ≠ 2 ∧ (e = 0 → T[i.toNat]? = some t ∧ t.sz ≤ 4096)) ∨ (¬ (0 ≤ i ∧ i < T.length) ∧ e = 2)) := by
 unfold TermG at h ⊢
 by_cases hin : 0 ≤ i ∧ i < T.length
 ·rw [if_pos hin] at h
  obtain ⟨x, hx, hR⟩ := h
  have key : ∀ (P : AV → Prop), (∀ w, TermR x w → P w) → ∀ w, (∃ y, T[i.toNat]? = some y ∧ TermR y w) → P w := fun P hP w ⟨y, hy, hw⟩ => by
   rw [hx] at hy; cases hy; exact hP w hw
  simp only [if_pos hin]
  by_cases h1 : 4096 < x.sz
  ·exact ⟨vr 0, 5, key _ fun w hw => by rw [TermR, if_pos h1] at hw; exact ⟨_, hw, zeroIs⟩, .inl ⟨hin.1, hin.2, by omega, by omega⟩⟩
  ·by_cases h2 : 200 < x.dp
   ·exact ⟨vr 0, 7, key _ fun w hw => by rw [TermR, if_neg h1, if_pos h2] at hw; exact ⟨_, hw, zeroIs⟩, .inl ⟨hin.1, hin.2, by omega, by omega⟩⟩
   ·exact ⟨x, 0, key _ fun w hw => by rw [TermR, if_neg h1, if_neg h2] at hw; exact hw, .inl ⟨hin.1, hin.2, by omega, fun _ => ⟨hx, by omega⟩⟩⟩
 ·simp only [if_neg hin]
  exact ⟨vr 0, 2, fun w hw => ⟨_, hw, zeroIs⟩, .inr ⟨hin, rfl⟩⟩
theorem Free_out {N : List Nd} {g : AV} (hg : GIs N g) {i : Int} (h : ¬ (0 ≤ i ∧ i < N.length)) : Out md pfs 26 [g, .int i] (· = .int 0) fun _ => False := by
 obtain ⟨al, tg, rfl, k1, k2, k3⟩ := hg
 have hln := k3.len
 refine out_of pf26_is (Nat.le_of_ble_eq_true rfl) ?_
 cases d1 : decide (i < 0)
 ·simp only [decide_eq_false_iff_not] at d1
  have d1' : decide (i < 0) = false := by simpa using d1
  have d2 : decide (i ≥ al.length) = true := by simp only [decide_eq_true_eq]; omega
  simp only [pf26, ↓wpre, wall, simprocAttr, d1', d2]
 ·simp only [pf26, ↓wpre, wall, simprocAttr, d1]
theorem terms_law {N : List Nd} {g : AV} (hg : GIs N g) (i : Int) : Out md pfs 9 [g, .int i] (· = .bool true) fun _ => False := by
 have hpg := gPure hg
 obtain ⟨_, rfl, c11⟩ := awake_ret.call rfl pvs_nil
 obtain ⟨_, ⟨b, rfl, hb⟩, c10⟩ := (few_ret hg).call rfl (by simp [pvs_cons, pvs_nil, hpg])
 obtain ⟨_, rfl, c13⟩ := (rcheck_ret hg).call rfl (by simp [pvs_cons, pvs_nil, hpg])
 obtain ⟨al, tg, rfl, hg2⟩ := id hg
 refine out_of pf9_is (Nat.le_of_ble_eq_true rfl) ?_
 cases b
 ·simp only [pf9, ↓wpre, wall, simprocAttr, c10, c11]
 cases hc : (checkN N != 0)
 rotate_left
 ·simp only [pf9, ↓wpre, wall, simprocAttr, c10, c13, hc, c11]
 have hc' := hc
 simp only [bne_eq_false_iff_eq] at hc
 obtain ⟨T, hG, rfl, hl⟩ := check_tab hc
 have h60 := (hb rfl).len
 rw [nodes_len] at h60
 obtain ⟨v1, hv1, c29⟩ := (Term_ret hG (by omega) hg i).call rfl (by simp [pvs_cons, pvs_nil, hpg, pv_v])
 obtain ⟨v2, hv2, c31⟩ := (rTerm_ret hG (by omega) hg i).call rfl (by simp [pvs_cons, pvs_nil, hpg, pv_v])
 obtain ⟨t, e, hall, hway⟩ := hv1.eq
 obtain ⟨a1, rfl, ha1⟩ := hall _ hv1
 obtain ⟨a2, rfl, ha2⟩ := hall _ hv2
 obtain ⟨_, rfl, c30⟩ := (tsame_ret t ha1 ha2).call rfl (by simp [pvs_cons, pvs_nil, tmPure _ ha1, tmPure _ ha2])
 rw [decide_eq_true rfl] at c30
 obtain ⟨q1, rfl, l1, l2, l3⟩ := tmCells ha1
 obtain ⟨q2, rfl, m1, m2, m3⟩ := tmCells ha2
 have n1 : (e != e) = false := by simp
 cases c3 : (e != 0)
 ·have he : e = 0 := by simpa using c3
  subst he
  obtain ⟨h0, h1, _, h3⟩ | ⟨_, h3⟩ := hway
  rotate_left
  ·cases h3
  obtain ⟨hx, hsz⟩ := h3 rfl
  obtain ⟨_, rfl, c26⟩ := (Free_ret hG (by omega) hg h0 h1 hx).call rfl (by simp [pvs_cons, pvs_nil, hpg, pv_v])
  obtain ⟨_, hF, c32⟩ := (rFreeG_ret hG (by omega) hg (i := i) fun _ y hy => by rw [hx] at hy; cases hy; omega).call rfl (by simp [pvs_cons, pvs_nil, hpg, pv_v])
  rw [FreeG, if_pos ⟨h0, h1⟩] at hF
  obtain ⟨y, hy, rfl⟩ := hF
  rw [hx] at hy; cases hy
  have n2 : (((t.fv : Nat) : Int) == (t.fv : Nat)) = true := by simp
  simp only [pf9, ↓wpre, wall, simprocAttr, c10, c13, hc', c29, c31, l1, l2, l3, m1, m2, m3, c30, n1, c3, c26, c32, n2, c11]
 ·have he0 : e ≠ 0 := by simpa using c3
  cases c4 : (e != 2)
  ·have he : e = 2 := by simpa using c4
   subst he
   obtain ⟨_, _, h3, _⟩ | ⟨h3, _⟩ := hway
   ·exact absurd rfl h3
   obtain ⟨_, rfl, c26⟩ := (Free_out hg (by rw [nodes_len]; exact h3)).call rfl (by simp [pvs_cons, pvs_nil, hpg, pv_v])
   obtain ⟨_, hF, c32⟩ := (rFreeG_ret hG (by omega) hg (i := i) fun h0 y hy => absurd ⟨h0, by have := (List.getElem?_eq_some_iff.1 hy).1; omega⟩ h3).call rfl (by simp [pvs_cons, pvs_nil, hpg, pv_v])
   rw [FreeG, if_neg h3] at hF
   subst hF
   have n2 : ((0 : Int) == 0) = true := rfl
   simp only [pf9, ↓wpre, wall, simprocAttr, c10, c13, hc', c29, c31, l1, l2, l3, m1, m2, m3, c30, n1, c3, c4, c26, c32, n2, c11]
  ·simp only [pf9, ↓wpre, wall, simprocAttr, c10, c13, hc', c29, c31, l1, l2, l3, m1, m2, m3, c30, n1, c3, c4, c11]
open Go Go.Proofs Go.Proofs.YtjiheebhmokfbaaDoor
open Go.ChangeShapes Go.WideShapes Go.ChangeAt Go.RowKit
def laid50 : List (String × DataW Unit) := Rows.graphChecksRow.laid
theorem lm_tail {P : Program} {x : String × DataW Unit} {r : List (String × DataW Unit)} {w : World} (h : laidMet P (x :: r) w) : laidMet P r w := by
 obtain ⟨n, d⟩ := x
 obtain ⟨ps, ⟨g, t, cs, fuel, p, q, _, _, _, _, hq, rfl⟩, hn, hc⟩ := h
 exact ⟨q, hq, (List.nodup_append.1 hn).2.1, fun b off hm => hc b off (List.mem_append_right _ hm)⟩
theorem kn_of {W : World} (h : laidMetH Tryd.prog laid50 W) : Kn W := by
 rw [MakeChecks.laidMetH_plain _ _ _ (by kernel_rfl)] at h
 have h2 := lm_tail (lm_tail h)
 have h3 := Lib.tabIs_of_head (name := tabN) (zs := Lib.pow10Tab) (k := .u64) (g := 0) (t := 142) (e := 132) (n := 20) (by kernel_rfl) (by kernel_rfl) (by kernel_rfl) (by kernel_rfl) (by kernel_rfl) (by kernel_rfl) h2
 intro b hb
 obtain rfl : b = 0 := hb
 unfold Lib.TabIs World.var? at h3
 rw [show Tryd.prog.globalNamed tabN = some 0 from by kernel_rfl] at h3
 simp only [Option.bind_some] at h3
 split at h3
 ·rename_i cs t z hh
  simp only [Option.some.injEq] at h3
  subst h3
  exact ⟨(Array.getElem?_eq_some_iff.1 hh).1, t, z, hh⟩
 ·cases h3
theorem try_own : ownKnob Tryd.prog.godebug = none := by kernel_rfl
theorem try_laid : laidOutB Tryd.prog = true := by kernel_rfl
end Go.Proofs.Eng
