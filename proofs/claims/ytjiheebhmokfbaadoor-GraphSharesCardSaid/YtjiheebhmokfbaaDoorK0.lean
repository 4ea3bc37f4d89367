/- What the rows' list of laid variables gives. No conditions beyond those in the theorems. -/
import Derived.Test.YtjiheebhmokfbaaDoorE3
import Derived.Test.YtjiheebhmokfbaaDoorF1
import Derived.Test.YtjiheebhmokfbaaDoorC6
import Derived.Test.YtjiheebhmokfbaaDoorT3
import Derived.Test.YtjiheebhmokfbaaDoorWX
import Derived.Test.YtjiheebhmokfbaaDoorC2
import Derived.Test.YtjiheebhmokfbaaDoorG5
import Derived.Test.YtjiheebhmokfbaaDoorG4
import Derived.Test.YtjiheebhmokfbaaDoorB5
import Derived.Test.YtjiheebhmokfbaaDoorRows
import Derived.Lib.LaidTab
import Derived.Lay
import Derived.MakeChecks
import Derived.ProofKit
set_option linter.all false
set_option linter.deprecated false
set_option linter.unnecessarySimpa false
set_option linter.unusedVariables false
set_option linter.unusedSimpArgs false
set_option linter.defProp false
namespace Go.Proofs.Eng
open Go Go.Proofs
set_option maxRecDepth 100000
set_option maxHeartbeats 16000000
theorem Lift_big {T : List Tm} (hG : GT T) (hT : T.length ≤ 1000) {g : AV} (hg : GIs (nodesOf T) g) {i b fr : Int} (h1 : 0 ≤ i) (h2 : i < T.length) (h3 : 0 ≤ fr) (h4 : -65536 ≤ b) (h5 : b ≤ 65536) {x z : Tm} (hx : T[i.toNat]? = some x) (hz : T[0]? = some z) (hl : ((x.mv (min fr 4294967294) (lvar z b (min fr 4294967294)) 0).enter T).length ≤ 65536) : Out md pfs 21 [g, .int i, .int b, .int fr] (MoveR T (x.mv (min fr 4294967294) (lvar z b (min fr 4294967294)) 0) (x.me (min fr 4294967294) (lbad b (min fr 4294967294)) 0)) fun _ => False := by
 obtain ⟨al, tg, rfl, hg2⟩ := hg
 have hg : GIs (nodesOf T) (.agg [.sl al tg]) := ⟨al, tg, rfl, hg2⟩
 have hln := hg2.2.2.len
 rw [nodes_len] at hln
 refine out_of pf21_is (Nat.le_of_ble_eq_true rfl) ?_
 have d1 : decide (i < 0) = false := by simp only [decide_eq_false_iff_not]; omega
 have d2 : decide (i ≥ al.length) = false := by simp only [decide_eq_false_iff_not]; omega
 have d3 : decide (fr < 0) = false := by simp only [decide_eq_false_iff_not]; omega
 have d4 : decide (b < -65536) = false := by simp only [decide_eq_false_iff_not]; omega
 have d5 : decide (b > 65536) = false := by simp only [decide_eq_false_iff_not]; omega
 have hxT := List.mem_of_getElem? hx
 obtain ⟨_, hnm, _⟩ := good_at hG hx
 have hi : ((T.idxOf x : Nat) : Int) = i := by
  have := (idx_first hx fun y hy e => hnm (by rw [← e]; exact hy)).2
  omega
 have hdx := good_dp hG.good x hxT
 have hfr0 : 0 ≤ min fr 4294967294 := by omega
 have hfr1 : min fr 4294967294 ≤ 4294967294 := by omega
 generalize hfm : min fr 4294967294 = fm at *
 have hfm2 : (if (4294967294 : Int) < fr then 4294967294 else fr) = fm := by rw [← hfm]; split <;> omega
 obtain ⟨_, _, ⟨bi, mi, H1, V1, rfl, rfl, hB, l4, l5, _, hk, _⟩, c42⟩ := (begin_rw hG (by omega) hg (H := [.cells false [.sl al tg], .cells false [.sl [] .nil]]) (V := [])).call rfl
 simp only [List.length_cons, List.length_nil] at l4 l5
 have k1 : H1[1]? = some (.cells false [.sl [] .nil]) := by rw [hk 1 (by simp)]; rfl
 obtain ⟨lb, lm⟩ := hB.bi_lt
 obtain ⟨_, _, ⟨rfl, H2, V2, _, rfl, hB2, _, _, _, hS2'⟩, c47⟩ := (lift_sh (dm := H1.length) (es := []) (hB.app [.map []]) hG hxT hz hfr0 hfr1 h4 (by omega) (by simp) ⟨[], rfl, by simp⟩ (by omega) (by omega) (by omega)).callRet rfl
 have hS2 := hS2'.cells
 rw [Bool.false_or] at hB2
 rw [hi] at c47
 have k2 := hS2 1 false _ (by omega) (app_get_of k1 _)
 obtain ⟨v3, _, ⟨hv3, H3, V3, rfl, hk3⟩, c43⟩ := (result_sh hB2 (by omega) (((x.mv fm (lvar z b fm) 0).enter T).idxOf (x.mv fm (lvar z b fm) 0) : Nat)).callRet rfl
 have k3 := hk3.2 1 _ k2 fun fz ks h => by
  simp only [AObj.cells.injEq] at h
  have := h.2
  cases ks with
  | nil => simp [ints] at this
  | cons x l => simp [ints] at this
 have hv3' : MoveR T (x.mv fm (lvar z b fm) 0) (x.me fm (lbad b fm) 0) v3 := hv3
 obtain ⟨M, j, e, hall, hga⟩ := hv3'.eq
 obtain ⟨ga, rfl, hga⟩ := hga
 have hpg := gPure hga
 obtain ⟨al3, t3, rfl, hga'⟩ := hga
 have hs3 : ∀ Y, (H3.set 1 Y)[1]? = some Y := fun Y => by rw [List.getElem?_set, if_pos rfl, if_pos (lt_of_get k3)]
 have hpsl : pureAV (.sl al3 t3) = true := by simpa [pv_agg, pvs_cons, pvs_nil] using hpg
 have hpp : ∀ (s : ASt), purify 1019 s (.agg [.sl al3 t3]) = some (.agg [.sl al3 t3]) := fun s => purify_pure hpg
 simp only [pf21, ↓wpre, wall, simprocAttr, d1, d2, d3, d4, d5, hfm2, c42, c47, c43, k3, hs3, hpp]
 exact hv3'
theorem Put_big {T : List Tm} (hG : GT T) (hT : T.length ≤ 1000) {g : AV} (hg : GIs (nodesOf T) g) {i : Int} {ks : List Int} {tt : Tl} (ht : tt.pure = true) (hk : ks.length ≤ 1000) (hb : rngB T.length (i :: ks) = false) {x z : Tm} (hx : T[i.toNat]? = some x) (hz : T[0]? = some z) (hl : ((x.mv 0 (pvar (pTs T z ks) z) 0).enter T).length ≤ 65536) :
  Out md pfs 25 [g, .int i, .sl (ints ks) tt] (MoveR T (x.mv 0 (pvar (pTs T z ks) z) 0) (x.me 0 (pbad (pTs T z ks)) 0)) fun _ => False := by
 obtain ⟨al, tg, rfl, h1, h2, h3⟩ := hg
 have hg : GIs (nodesOf T) (.agg [.sl al tg]) := ⟨al, tg, rfl, h1, h2, h3⟩
 have hln := h3.len
 rw [nodes_len] at hln
 have hpa := h3.pure fun _ _ h => ndPure h
 have hb' := hb
 rw [rngB, List.any_cons, Bool.or_eq_false_iff, Bool.or_eq_false_iff, decide_eq_false_iff_not, decide_eq_false_iff_not] at hb'
 obtain ⟨⟨i0, i1⟩, hbk⟩ := hb'
 have hxT := List.mem_of_getElem? hx
 have hi : ((T.idxOf x : Nat) : Int) = i := by
  obtain ⟨_, hnm, _⟩ := good_at hG hx
  have := (idx_first hx fun y hy e => hnm (by rw [← e]; exact hy)).2
  omega
 have hdx := good_dp hG.good x hxT
 have hget := pTs_get hG (z := z) (ks := ks) hbk
 have hmem : ∀ t ∈ pTs T z ks, t ∈ T := fun t h => by
  obtain ⟨m, hm⟩ := List.getElem?_of_mem h
  exact (hget m t hm).1
 have hlen : ks.length = (pTs T z ks).length := by simp [pTs]
 have hzr : ∀ y ∈ z.subs, y.right = true := fun y hy => hG.right y (hG.good.subs z (List.mem_of_getElem? hz) y hy)
 have htr : ∀ t ∈ pTs T z ks, ∀ y ∈ t.subs, y.right = true := fun t h y hy => hG.right y (hG.good.subs t (hmem t h) y hy)
 have htd : ∀ t ∈ pTs T z ks, t.dp ≤ 1000000 := fun t h => by have := good_dp hG.good t (hmem t h); omega
 obtain ⟨t1, T1, c15⟩ := app_cap i hk
 have c35 := range52_call (ks := i :: ks) (t := t1) (T := T1) (q := 0) (H := [.cells false [.sl al tg], .cells false [.sl (ints ks) tt], .cells false [.sl [] .nil]]) (by unfold lenB; simp only [List.length_cons]; omega) h1 hpa rfl
 rw [hln] at c35
 rw [show ((i :: ks).any fun k => decide (k < 0) || decide (k ≥ (T.length : Nat))) = false from hb] at c35
 obtain ⟨_, _, ⟨bi, mi, H1, V1, rfl, rfl, hB, l4, l5, _, hkp, _⟩, c42⟩ := (begin_rw hG (by omega) hg (H := [.cells true [.sl al tg], .cells false [.sl (ints ks) tt], .cells false [.sl [] .nil]]) (V := T1)).call rfl
 simp only [List.length_cons, List.length_nil] at l4 l5
 have p0 : H1[0]? = some (.cells true [.sl al tg]) := by rw [hkp 0 (by simp)]; rfl
 have p1 : H1[1]? = some (.cells false [.sl (ints ks) tt]) := by rw [hkp 1 (by simp)]; rfl
 have p2 : H1[2]? = some (.cells false [.sl [] .nil]) := by rw [hkp 2 (by simp)]; rfl
 obtain ⟨lb, lm⟩ := hB.bi_lt
 have hV := put_ok (ts := pTs T z ks) (z := z) (ks := ks) (bi := bi) (mi := mi) (dm := H1.length + 3) (bb := H1.length) (tb := 1) (lb := H1.length + 2) (L := H1.length + 1) (base := H1.length + 4) hzr htr htd hlen (by omega) (by omega) (by omega) (by omega) (by omega) (by omega) (by omega) (by omega) (by omega) (by omega) (by omega) (by omega) (by omega)
 have hM : MvP 0 (pvar (pTs T z ks) z) (pbad (pTs T z ks)) bi mi (H1.length + 3) (fun _ => False) (PJ (pTs T z ks) z ks bi mi (H1.length + 3) H1.length 1 (H1.length + 2) (H1.length + 1)) false T (H1 ++ [.cells false [.ptr bi 0], .map [], .cells false [.mp (H1.length + 1)], .map []]) V1 [] :=
  ⟨hB.app _, hG, by simp, ⟨[], rfl, by simp⟩, ⟨by simp, ⟨tt, app_get_of p1 _⟩, by simp, hz, hget, [], by simp, by simp, by simp⟩⟩
 obtain ⟨_, _, ⟨rfl, H2, V2, es2, rfl, hM2, hS2⟩, c53⟩ := (moved_sh hV (by omega) (by omega) x (d := 0) hM hxT (by simp) (by omega) hl).callRet rfl
 rw [show (((0 : Nat)) : Int) = 0 from rfl, hi] at c53
 have hB2 := hM2.bs
 rw [Bool.false_or] at hB2
 have k2 := hS2.cells 2 false _ (by omega) (app_get_of p2 _)
 have kb := hS2.cells H1.length false [.ptr bi 0] (by omega) (by simp)
 obtain ⟨v3, _, ⟨hv3, H3, V3, rfl, hk3⟩, c43⟩ := (result_sh hB2 (by omega) (((x.mv 0 (pvar (pTs T z ks) z) 0).enter T).idxOf (x.mv 0 (pvar (pTs T z ks) z) 0) : Nat)).callRet rfl
 have k3 := hk3.2 2 _ k2 fun fz ks h => by
  simp only [AObj.cells.injEq] at h
  have := h.2
  cases ks with
  | nil => simp [ints] at this
  | cons x l => simp [ints] at this
 have hv3' : MoveR T (x.mv 0 (pvar (pTs T z ks) z) 0) (x.me 0 (pbad (pTs T z ks)) 0) v3 := hv3
 obtain ⟨M, j, e, hall, hga⟩ := hv3'.eq
 obtain ⟨ga, rfl, hga⟩ := hga
 have hpg := gPure hga
 obtain ⟨al3, t3, rfl, hga'⟩ := hga
 have hs3 : ∀ Y, (H3.set 2 Y)[2]? = some Y := fun Y => by rw [List.getElem?_set, if_pos rfl, if_pos (lt_of_get k3)]
 have hpsl : pureAV (.sl al3 t3) = true := by simpa [pv_agg, pvs_cons, pvs_nil] using hpg
 have hpp : ∀ (s : ASt), purify 1019 s (.agg [.sl al3 t3]) = some (.agg [.sl al3 t3]) := fun s => purify_pure hpg
 refine out_of pf25_is (Nat.le_of_ble_eq_true rfl) ?_
 simp only [pf25, ↓wpre, wall, simprocAttr, List.length_append, List.append_assoc, app_get_len, app_get_add, app_set_len, app_set_add, c15, c35, List.set_cons_zero, c42, c53, kb, c43, k3, hs3, hpp]
 exact hv3'
theorem slice_pre {es : Nat} {al : List AV} {t : Tl} (ht : t.pure = true) {n : Nat} (hn : n ≤ al.length) : ∃ t', t'.pure = true ∧ sliceA es al t 0 n none = some (.sl (al.take n) t') := by
 unfold sliceA
 rw [if_pos ⟨Nat.zero_le _, hn⟩]
 simp only []
 by_cases h : True ∧ n = al.length
 ·rw [if_pos h]
  exact ⟨t, ht, by rw [h.2, List.take_length]⟩
 ·rw [if_neg h, List.drop_zero]
  refine ⟨_, ?_, rfl⟩
  cases t <;> simp [Tl.pure] at ht ⊢
theorem nodes_take {T : List Tm} (hG : GT T) (n : Nat) : nodesOf (T.take n) = (nodesOf T).take n := by
 rw [nodesOf, nodesOf, ← List.map_take]
 refine List.map_congr_left fun t ht => ?_
 have := (((hG.take n).good.all t ht).2)
 conv => rhs; rw [← List.take_append_drop n T]
 exact (ndOf_app this _).symm
theorem Free_ret {T : List Tm} (hG : GT T) (hT : T.length ≤ 1000) {g : AV} (hg : GIs (nodesOf T) g) {i : Int} (h1 : 0 ≤ i) (h2 : i < T.length) {x : Tm} (hx : T[i.toNat]? = some x) : Out md pfs 26 [g, .int i] (· = .int (x.fv : Nat)) fun _ => False := by
 obtain ⟨al, tg, rfl, k1, k2, k3⟩ := hg
 have hln := k3.len
 rw [nodes_len] at hln
 have d1 : decide (i < 0) = false := by simp only [decide_eq_false_iff_not]; omega
 have d2 : decide (i ≥ al.length) = false := by simp only [decide_eq_false_iff_not]; omega
 have w17 : IntKind.i64.wrap (i + 1) = i + 1 := wrap_in (by unfold in64; omega)
 have hall := k3.all ndAgg
 obtain ⟨t', ht', hsl⟩ := slice_pre (es := 5) k1 (n := (i + 1).toNat) (al := al) (by omega)
 have hcn : (0 ≤ i + 1 ∧ i + 1 ≤ (al.length : Int)) = True := eq_true ⟨by omega, by omega⟩
 have hxn : x ∈ T.take (i + 1).toNat := by
  refine List.mem_of_getElem? (i := i.toNat) ?_
  rw [List.getElem?_take, if_pos (by omega)]; exact hx
 have hGn := hG.take (i + 1).toNat
 have hxi : (T.take (i + 1).toNat).idxOf x = i.toNat := by
  obtain ⟨_, hnm, _⟩ := good_at hG hx
  have hx' : (T.take (i + 1).toNat)[i.toNat]? = some x := by rw [List.getElem?_take, if_pos (by omega)]; exact hx
  refine (idx_first hx' fun y hy e => hnm ?_).2
  rw [List.take_take, Nat.min_eq_left (by omega)] at hy
  rw [← e]; exact hy
 have hgn : GIs (nodesOf (T.take (i + 1).toNat)) (.agg [.sl (al.take (i + 1).toNat) t']) := ⟨_, _, rfl, ht', by rw [List.length_take]; omega, by rw [nodes_take hG]; exact k3.take _⟩
 obtain ⟨_, _, ⟨bi, mi, H1, V1, rfl, rfl, hB, l4, l5, _, hkp, _⟩, c42⟩ := (begin_rw hGn (by rw [List.length_take]; omega) hgn (H := [.cells false [.sl al tg]]) (V := [])).call rfl
 obtain ⟨hne, al', tn, tf, es, b1, b2, b3, b4⟩ := hB
 have hfr := frs_get hxn
 rw [hxi] at hfr
 have hfa := ints_all (frs (T.take (i + 1).toNat))
 have hii : ((i.toNat : Nat) : Int) = i := by omega
 refine out_of pf26_is (Nat.le_of_ble_eq_true rfl) ?_
 simp only [pf26, ↓wpre, wall, simprocAttr, d1, d2, w17, hall, hcn, hsl, c42, b1, hfr, hfa]
 exact h1
theorem chs_len (i : Int) (n : Nat) : (chs i n).length = n + 1 := by simp [chs]
theorem chs_get {i : Int} {n m : Nat} (h : m ≤ n) : (chs i n)[m]? = some (ch i m) := by
 rw [chs, List.getElem?_map, List.getElem?_range (by omega)]; rfl
theorem ch_not {i j : Int} (h : i ≠ j) (n m : Nat) : ch i m ∉ chs j n := by
 intro hm
 obtain ⟨k, _, e⟩ := List.mem_map.1 hm
 exact h (ch_inj e).1.symm
theorem chs_gt {i : Int} (h0 : 0 ≤ i) (h1 : i ≤ 65535) (hn : GT []) (n : Nat) : GT (chs i n) := by
 have h := ch_enter h0 h1 hn (fun m hm => by cases hm) n
 have := (enter_pre hn (ch_right h0 h1 n)).1
 rw [h] at this
 exact this
theorem two_gt (hn : GT []) (n : Nat) : (ch 1 n).enter (chs 0 n) = chs 0 n ++ chs 1 n ∧ GT (chs 0 n ++ chs 1 n) := by
 have hG := chs_gt (i := 0) (by omega) (by omega) hn n
 have h := ch_enter (i := 1) (by omega) (by omega) hG (fun m => ch_not (by omega) n m) n
 have := (enter_pre hG (ch_right (i := 1) (by omega) (by omega) n)).1
 rw [h] at this
 exact ⟨h, this⟩
theorem two_idx (n m : Nat) (h : m ≤ n) : (chs 0 n ++ chs 1 n).idxOf (ch 1 m) = n + 1 + m := by
 have h1 : (chs 0 n ++ chs 1 n)[n + 1 + m]? = some (ch 1 m) := by
  rw [List.getElem?_append_right (by rw [chs_len]; omega), chs_len, show n + 1 + m - (n + 1) = m from by omega]
  exact chs_get h
 refine (idx_first h1 fun y hy e => ?_).2
 subst e
 rw [List.take_append, chs_len] at hy
 rcases List.mem_append.1 hy with hy | hy
 ·exact ch_not (by omega) n m (List.mem_of_mem_take hy)
 ·rw [show n + 1 + m - (n + 1) = m from by omega] at hy
  obtain ⟨k, hk⟩ := List.getElem?_of_mem hy
  rw [List.getElem?_take] at hk
  split at hk
  ·rw [chs_get (by omega)] at hk
   have := (ch_inj (Option.some.inj hk)).2
   omega
  ·cases hk
theorem gt_nil : GT [] := ⟨.nil, by simp⟩
theorem chs_idx (n m : Nat) (h : m ≤ n) : (chs 0 n).idxOf (ch 0 m) = m := by
 refine (idx_first (chs_get h) fun y hy e => ?_).2
 subst e
 obtain ⟨k, hk⟩ := List.getElem?_of_mem hy
 rw [List.getElem?_take] at hk
 split at hk
 ·rw [chs_get (by omega)] at hk
  have := (ch_inj (Option.some.inj hk)).2
  omega
 ·cases hk
theorem chs_nodes (hn : GT []) (j : Nat) : nodesOf (chs 0 (j + 1)) = nodesOf (chs 0 j) ++ [⟨4, 0, ⟨#[]⟩, [], [(j : Int), (j : Int)]⟩] := by
 have hG := chs_gt (i := 0) (by omega) (by omega) hn j
 have hk : ∀ x ∈ (ch 0 (j + 1)).kids, x ∈ chs 0 j := fun x hx => by
  have : x = ch 0 j := by simpa [ch, Tm.kids] using hx
  subst this; exact chs_mem (Nat.le_refl _)
 rw [chs_succ, nodes_add hG.good hk]
 congr 1
 simp only [ndOf, ch, Tm.k, Tm.i, Tm.n, Tm.ls, Tm.kids, List.map_cons, List.map_nil, chs_idx j j (Nat.le_refl _)]
theorem nd4 (j : Nat) (h : j ≤ 1000) : (⟨4, 0, ⟨#[]⟩, [], [(j : Int), (j : Int)]⟩ : Nd).Is (.agg [.int 4, .int 0, .str ⟨#[]⟩, .sl [] .nil, .sl [.int (j : Nat), .int (j : Nat)] (.cap 2)]) :=
 ⟨.nil, .cap 2, [], rfl, rfl, rfl, (by show in64 4; unfold in64; omega), (by show in64 0; unfold in64; omega), Nat.zero_le _, Nat.zero_le _, by show 2 ≤ lenB; unfold lenB; decide, trivial, fun x hx => by
  have : x = (j : Int) := by simpa using hx
  subst this; unfold in64; omega⟩
theorem oft_u8 {n : Nat} {l : List AV} (h : OfT Tryd.prog n 5 l) : ∃ i, l = [.v (.int .u8 i)] ∧ 0 ≤ i ∧ i < 256 := by
 cases n with
 | zero => exact h.elim
 | succ n =>
  simp only [OfT, Tryd.underlying5] at h
  obtain ⟨i, rfl, hw⟩ := h
  refine ⟨i, rfl, ?_⟩
  simp [Lit.wf, IntKind.min, IntKind.max, IntKind.signed, IntKind.bits] at hw
  omega
theorem purify_v_inv {n : Nat} {s : ASt} {x : AV} {y : Value} (h : purify n s x = some (.v y)) : x = .v y := by
 cases n with
 | zero => rw [purify] at h; cases h
 | succ n =>
  unfold purify at h
  split at h
  ·cases h; rfl
  ·split at h
   all_goals first
    | (cases h; done)
    | (rw [Option.map_eq_some_iff] at h; obtain ⟨_, _, h⟩ := h; cases h; done)
    | skip
   split at h
   ·split at h
    ·rw [Option.map_eq_some_iff] at h; obtain ⟨_, _, h⟩ := h; cases h
    ·cases h
   ·cases h
theorem law_true {f : FuncId} {ls : List AV} (h : Out md pfs f ls (· = .bool true) fun _ => False) : ∃ s', run md pfs f ls ⟨[], []⟩ = some (.ret (.v (.bool true)), s') := by
 obtain ⟨out, s, out', h1, h2, h3⟩ := h
 cases out' with
 | pan v => exact h3.elim
 | ret v =>
  subst h3
  cases out with
  | pan w => simp [Outc.purify] at h2
  | ret w =>
   simp only [Outc.purify, Option.map_eq_some_iff] at h2
   obtain ⟨y, h2, h3⟩ := h2
   cases h3
   exact ⟨s, by rw [h1, purify_v_inv h2]⟩
theorem two {α : Type} {l : List α} (h : l.length = 2) : ∃ a b, l = [a, b] := by
 match l, h with
 | [a, b], _ => exact ⟨a, b, rfl⟩
def zeroA : AV := .agg [.int 0, .int 0, .str ⟨#[]⟩, .sl [] .nil, .sl [] .nil]
def ShR (x : Tm) (b fr : Int) (v : AV) : Prop := ∃ bad : Bool, (bad = true ↔ fr < 0 ∨ b < -65536 ∨ 65536 < b) ∧ if bad = true then v = .tup [zeroA, .int 2] else if x.shE b (min fr 65536) 0 = true then v = .tup [zeroA, .int 24] else ∃ a, v = .tup [a, .int 0] ∧ (x.sh b (min fr 65536) 0).Is a
theorem ShR.bad {x : Tm} {b fr : Int} (h : fr < 0 ∨ b < -65536 ∨ 65536 < b) : ShR x b fr (.tup [zeroA, .int 2]) := ⟨true, by simp [h], by rw [if_pos rfl]⟩
theorem LiftR.eq {T : List Tm} {i b fr : Int} {v : AV} (h : LiftR T i b fr v) : ∃ (N : List Nd) (j e : Int), (∀ w, LiftR T i b fr w → GRes N j e w) ∧ GRes N j e v := by
 obtain ⟨bad, h1, h2⟩ := h
 cases bad
 ·rw [if_neg (by simp)] at h2
  obtain ⟨x, z, hx, hz, hm⟩ := h2
  obtain ⟨N, j, e, ha, hb⟩ := hm.eq
  refine ⟨N, j, e, fun w ⟨bad', k1, k2⟩ => ?_, hb⟩
  cases bad'
  ·rw [if_neg (by simp)] at k2
   obtain ⟨x', z', hx', hz', hm'⟩ := k2
   rw [hx] at hx'; cases hx'
   rw [hz] at hz'; cases hz'
   exact ha w hm'
  ·have := h1.2 (k1.1 rfl); cases this
 ·rw [if_pos rfl] at h2
  refine ⟨_, _, _, fun w ⟨bad', k1, k2⟩ => ?_, h2⟩
  cases bad'
  ·have := k1.2 (h1.1 rfl); cases this
  ·rw [if_pos rfl] at k2; exact k2
theorem lift_one (z : Tm) : (vr 1).mv 0 (lvar z ((0 : Nat) : Int) 0) 0 = vr 1 ∧ (vr 1).me 0 (lbad ((0 : Nat) : Int) 0) 0 = false := by
 have h := (ch_mv (i := 1) (j := 1) (by omega) (var := lvar z ((0 : Nat) : Int) 0) (ve := lbad ((0 : Nat) : Int) 0) (by simp [lvar, lbad]) (by simp [lbad]) 0)
 simpa [ch] using h
def Tail7 (j : Nat) (T : List Nat) (al : List AV) (t : Tl) : Prop := (j = 0 ∧ t = .cap 1 ∧ T = []) ∨ App T al t
theorem Tail7.one {j : Nat} {T : List Nat} {al : List AV} {t : Tl} {x : AV} (h : Tail7 j T al t) (hlen : al.length = j + 1) (hl : al.length < 1000) (ha : (al.all fun x => x.cells.length == 5) = true) (hx : x.cells.length = 5) (ho : x.cells.all oneCell = true) :
  ∃ t' T', (∀ H, appA ⟨H, T⟩ 5 none al t [x] = some (.sl (al ++ [x]) t', ⟨H, T'⟩)) ∧ Tail7 (j + 1) T' (al ++ [x]) t' := by
 rcases h with ⟨rfl, rfl, rfl⟩ | h
 ·refine ⟨.tl 0 0, [0], fun H => ?_, .inr (.inr ⟨by simp, 0, 0, rfl, rfl⟩)⟩
  have h1 : (al.length + [x].length ≤ 1073741824 ∨ (5 : Nat) = 1 ∧ al.length + [x].length ≤ 8796093022208) := by simp only [List.length_cons, List.length_nil]; omega
  have h2 : ([x].all fun x => x.cells.length == 5 && x.cells.all oneCell) = true := by simp [hx, ho]
  have h4 : 1 < al.length + [x].length := by simp only [List.length_cons, List.length_nil]; omega
  show (if _ then _ else _) = _
  rw [if_pos ⟨h1, ha, h2⟩]
  simp only [h4, if_true]
  rfl
 ·obtain ⟨t', T', h1, h2, _⟩ := app_one h (by unfold capB; omega) ha hx ho
  exact ⟨t', T', h1, .inr h2⟩
theorem Tail7.pur {j : Nat} {T : List Nat} {al : List AV} {t : Tl} (h : Tail7 j T al t) (hp : pureAVs al = true) (H : List AObj) : ∃ t', t'.pure = true ∧ purify 20 ⟨H, T⟩ (.agg [.sl al t]) = some (.agg [.sl al t']) := by
 rcases h with ⟨rfl, rfl, rfl⟩ | h
 ·exact ⟨.cap 1, rfl, purify_pure (by simp [pv_agg, pvs_cons, pvs_nil, pv_sl, hp, Tl.pure])⟩
 ·obtain ⟨t', h1, h2⟩ := app_purify (s := ⟨H, T⟩) h hp (n := 19) (by omega)
  refine ⟨t', h1, ?_⟩
  rw [purify]
  split
  ·rename_i hh
   have : t.pure = true := by simp [pv_agg, pvs_cons, pvs_nil, pv_sl] at hh; exact hh.1
   rw [purify_pure (by simp [pv_sl, this, hp])] at h2
   simp only [Option.some.injEq, AV.sl.injEq, true_and] at h2
   rw [h2]
  ·simp only [mapO, h2]; rfl
theorem one_node : nodesOf (chs 0 0) = [⟨0, 0, ⟨#[]⟩, [], []⟩] := rfl
theorem shares_law {n : Int} (h0 : 0 ≤ n) (h1 : n < 256) : Out md pfs 7 [.v (.int .u8 n)] (· = .bool true) fun _ => False := by
 obtain ⟨_, rfl, c11⟩ := awake_ret.call rfl pvs_nil
 obtain ⟨N, rfl⟩ := Int.eq_ofNat_of_zero_le h0
 refine out_of pf7_is (Nat.le_of_ble_eq_true rfl) ?_
 have w13 : ((N : Int)).tmod 60 = ((N % 60 : Nat) : Int) := by rw [Int.tmod_eq_emod_of_nonneg (by omega)]; omega
 have w14 : IntKind.i64.wrap ((N % 60 : Nat) : Int) = ((N % 60 : Nat) : Int) := wrap_in (by unfold in64; omega)
 have w15 : IntKind.i64.wrap (((N % 60 : Nat) : Int) + 1) = ((N % 60 + 1 : Nat) : Int) := by rw [wrap_in (by unfold in64; omega)]; omega
 simp only [pf7, ↓wpre, wall, simprocAttr, w13, w14, w15]
 generalize hm : N % 60 + 1 = m
 have hm1 : 1 ≤ m := by omega
 have hm2 : m ≤ 60 := by omega
 have hz : LIs Nd.Is (nodesOf (chs 0 0)) [.agg [.int 0, .int 0, .str ⟨#[]⟩, .sl [] .nil, .sl [] .nil]] := by
  rw [one_node]
  exact LIs.one ⟨.nil, .nil, [], rfl, rfl, rfl, (by show in64 0; unfold in64; omega), (by show in64 0; unfold in64; omega), Nat.zero_le _, Nat.zero_le _, Nat.zero_le _, trivial, fun x hx => by cases hx⟩
 refine W_loopE (fun j => m - j) (fun j E H T => ∃ al t, H = [.cells false [.sl al t]] ∧ E 3 = .int (m : Nat) ∧ E 4 = .ptr 0 0 ∧ E 19 = .int (m : Nat) ∧ E 20 = .int (j : Nat) ∧ j ≤ m ∧ LIs Nd.Is (nodesOf (chs 0 j)) al ∧ Tail7 j T al t) ?_ 0 ⟨_, _, rfl, rfl, rfl, rfl, rfl, Nat.zero_le _, hz, .inl ⟨rfl, rfl, rfl⟩⟩
 rintro j E H T ⟨al, t, rfl, e3, e4, e19, e20, hj, hal, hT⟩
 have hlen := hal.len
 rw [nodes_len, chs_len] at hlen
 rcases Nat.lt_or_ge j m with hlt | hge
 ·have hdec : decide ((j : Int) < m) = true := by simpa using hlt
  obtain ⟨t', T', f1, f2⟩ := hT.one (x := .agg [.int 4, .int 0, .str ⟨#[]⟩, .sl [] .nil, .sl [.int (j : Nat), .int (j : Nat)] (.cap 2)]) hlen (by omega) (hal.all ndAgg) rfl rfl
  simp only [↓wpre, wall, simprocAttr, e3, e4, e19, e20, hdec, f1]
  exact EQ_in ⟨j + 1, by omega, _, t', rfl, e3, e4, e19, next_ixv (by unfold lenB; omega), by omega, by rw [chs_nodes gt_nil]; exact hal.append (.one (nd4 j (by omega))), f2⟩
 ·have hdec : decide ((j : Int) < m) = false := by simpa using hge
  obtain rfl : j = m := by omega
  have hG := chs_gt (i := 0) (by omega) (by omega) gt_nil j
  obtain ⟨hE, hG2⟩ := two_gt gt_nil j
  have hpal := hal.pure fun _ _ h => ndPure h
  obtain ⟨t', ht', hp'⟩ := hT.pur hpal [.cells false [.sl al t]]
  have hg : GIs (nodesOf (chs 0 j)) (.agg [.sl al t']) := ⟨al, t', rfl, ht', by unfold lenB; omega, hal⟩
  have hx0 : (chs 0 j)[((j : Nat) : Int).toNat]? = some (ch 0 j) := by rw [Int.toNat_natCast]; exact chs_get (Nat.le_refl _)
  have hz0 : (chs 0 j)[0]? = some (ch 0 0) := chs_get (Nat.zero_le _)
  obtain ⟨m1, m2⟩ := ch_mv (i := 0) (j := 1) (by omega) (var := lvar (ch 0 0) 1 0) (ve := lbad 1 0) (by simp [lvar, lbad]) (by simp [lbad]) j
  have hmin : min (0 : Int) 4294967294 = 0 := rfl
  have hsc : ∀ (s : ASt) (x : Value), purify 20 s (.v x) = some (.v x) := fun s x => purify_pure pv_v
  obtain ⟨o1, o2⟩ := lift_one (ch 0 0)
  simp only [Int.ofNat_zero, Int.natCast_zero] at o1 o2
  obtain ⟨v1, hv1, c21⟩ := (Lift_big hG (by rw [chs_len]; omega) hg (i := (j : Nat)) (b := 1) (fr := 0) (by omega) (by rw [chs_len]; omega) (by omega) (by omega) (by omega) hx0 hz0 (by rw [hmin, m1, hE, List.length_append, chs_len, chs_len]; omega)).callP rfl (s := ⟨[.cells false [.sl al t]], T⟩) (args := [.agg [.sl al t], .int (j : Nat), .int 1, .int 0]) (by simp only [mapO, hp', hsc])
  rw [hmin, m1, m2, MoveR, if_neg (by simp), hE, two_idx j j (Nat.le_refl _)] at hv1
  obtain ⟨al2, t2, rfl, hg2⟩ := hv1.eq (M := []) (j := 0) (f := 0)
  have hpg2 := gPure hg2
  obtain ⟨al2', t2', he2, k1, k2, k3⟩ := id hg2
  simp only [AV.agg.injEq, List.cons.injEq, AV.sl.injEq, and_true] at he2
  obtain ⟨rfl, rfl⟩ := he2
  have hl2 := k3.len
  rw [nodes_len, List.length_append, chs_len, chs_len] at hl2
  have hx1 : (chs 0 j ++ chs 1 j)[((j : Nat) : Int).toNat]? = some (ch 0 j) := by rw [Int.toNat_natCast, List.getElem?_append_left (by rw [chs_len]; omega)]; exact chs_get (Nat.le_refl _)
  have hz1 : (chs 0 j ++ chs 1 j)[0]? = some (ch 0 0) := by rw [List.getElem?_append_left (by rw [chs_len]; omega)]; exact chs_get (Nat.zero_le _)
  have hv0 : (chs 0 j ++ chs 1 j)[(((j : Nat) : Int) + 1).toNat]? = some (ch 1 0) := by
   rw [show (((j : Nat) : Int) + 1).toNat = j + 1 from by omega, List.getElem?_append_right (by rw [chs_len]; omega), chs_len, Nat.sub_self]; exact chs_get (Nat.zero_le _)
  have hvj : (chs 0 j ++ chs 1 j)[(((j + 1 + j : Nat)) : Int).toNat]? = some (ch 1 j) := by
   rw [Int.toNat_natCast, List.getElem?_append_right (by rw [chs_len]; omega), chs_len, show j + 1 + j - (j + 1) = j from by omega]; exact chs_get (Nat.le_refl _)
  have hpt : pTs (chs 0 j ++ chs 1 j) (ch 0 0) [((j : Nat) : Int) + 1] = [vr 1] := by
   simp only [pTs, List.map_cons, List.map_nil, List.getD, hv0]; rfl
  obtain ⟨n1, n2⟩ := ch_mv (i := 0) (j := 1) (by omega) (var := pvar [vr 1] (ch 0 0)) (ve := pbad [vr 1]) (by simp [pvar, o1]) (by simp [pbad, o2]) j
  have hmem : ch 1 j ∈ chs 0 j ++ chs 1 j := List.mem_append_right _ (chs_mem (Nat.le_refl _))
  obtain ⟨v2, hv2, c25⟩ := (Put_big hG2 (by rw [List.length_append, chs_len, chs_len]; omega) hg2 (i := (j : Nat)) (ks := [((j : Nat) : Int) + 1]) (tt := .cap 1) rfl (by simp) (by
   rw [List.length_append, chs_len, chs_len]
   simp only [rngB, List.any_cons, List.any_nil, Bool.or_false, Bool.or_eq_false_iff, decide_eq_false_iff_not]
   omega) hx1 hz1 (by rw [hpt, n1, enter_mem hmem, List.length_append, chs_len, chs_len]; omega)).call rfl (by simp [pvs_cons, pvs_nil, hpg2, pv_v, pv_sl, ints_pure, Tl.pure])
  rw [hpt, n1, n2, MoveR, if_neg (by simp), enter_mem hmem, two_idx j j (Nat.le_refl _)] at hv2
  obtain ⟨al3, t3, rfl, hg3⟩ := hv2.eq (M := []) (j := 0) (f := 0)
  obtain ⟨al3', t3', he3, q1, q2, q3⟩ := id hg3
  simp only [AV.agg.injEq, List.cons.injEq, AV.sl.injEq, and_true] at he3
  obtain ⟨rfl, rfl⟩ := he3
  have hl3 := q3.len
  rw [nodes_len, List.length_append, chs_len, chs_len] at hl3
  obtain ⟨_, rfl, c26⟩ := (Free_ret hG2 (by rw [List.length_append, chs_len, chs_len]; omega) hg2 (i := (j + 1 + j : Nat)) (by omega) (by rw [List.length_append, chs_len, chs_len]; omega) hvj).call rfl (by simp [pvs_cons, pvs_nil, hpg2, pv_v])
  rw [ch_fv (by omega)] at c26
  have w44 : IntKind.i64.wrap ((j : Int) + 1) = (j : Int) + 1 := wrap_in (by unfold in64; omega)
  have w55 : IntKind.i64.wrap (2 * (j : Int)) = 2 * (j : Int) := wrap_in (by unfold in64; omega)
  have w56 : IntKind.i64.wrap (2 * (j : Int) + 1) = 2 * (j : Int) + 1 := wrap_in (by unfold in64; omega)
  have w65 : IntKind.i64.wrap (2 * (j : Int) + 2) = 2 * (j : Int) + 2 := wrap_in (by unfold in64; omega)
  have b57 : (((j + 1 + j : Nat) : Int) == 2 * (j : Int) + 1) = true := by simp only [beq_iff_eq]; omega
  have b66 : (((al2.length : Nat) : Int) == 2 * (j : Int) + 2) = true := by simp only [beq_iff_eq]; omega
  have b86 : (((al3.length : Nat) : Int) == 2 * (j : Int) + 2) = true := by simp only [beq_iff_eq]; omega
  have b92 : ((((1 : Int) + 1).toNat : Int) == 2) = true := rfl
  have hfz : frz 20 ⟨[.cells false [.sl al t]], T⟩ (.agg [.sl al t]) = ⟨[.cells false [.sl al t]], T⟩ := by
   rw [fr_agg]; split
   ·rfl
   ·rw [List.foldl_cons, List.foldl_nil, fr_sl hpal]
  simp only [ints, List.map_cons, List.map_nil] at c25
  simp only [List.foldl_cons, List.foldl_nil, hfz, fr_pure (n := 20) (pv_v)] at c21
  simp only [↓wpre, wall, simprocAttr, e3, e4, e19, e20, hdec, c21, w44, c25, c26, w55, w56, w65, b57, b66, b86, b92, c11]
open Go Go.Proofs Go.Proofs.YtjiheebhmokfbaaDoor
open Go.ChangeShapes Go.WideShapes Go.ChangeAt Go.RowKit
def laid50 : List (String × DataW Unit) := Rows.graphChecksRow.laid
theorem lm_tail {P : Program} {x : String × DataW Unit} {r : List (String × DataW Unit)} {w : World} (h : laidMet P (x :: r) w) : laidMet P r w := by
 obtain ⟨n, d⟩ := x
 obtain ⟨ps, ⟨g, t, cs, fuel, p, q, _, _, _, _, hq, rfl⟩, hn, hc⟩ := h
 exact ⟨q, hq, (List.nodup_append.1 hn).2.1, fun b off hm => hc b off (List.mem_append_right _ hm)⟩
theorem kn_of {W : World} (h : laidMetH Tryd.prog laid50 W) : Kn W := by
 rw [MakeChecks.laidMetH_plain _ _ _ (by kernel_rfl)] at h
 have h2 := lm_tail (lm_tail h)
 have h3 := Lib.tabIs_of_head (name := tabN) (zs := Lib.pow10Tab) (k := .u64) (g := 0) (t := 142) (e := 132) (n := 20) (by kernel_rfl) (by kernel_rfl) (by kernel_rfl) (by kernel_rfl) (by kernel_rfl) (by kernel_rfl) h2
 intro b hb
 obtain rfl : b = 0 := hb
 unfold Lib.TabIs World.var? at h3
 rw [show Tryd.prog.globalNamed tabN = some 0 from by kernel_rfl] at h3
 simp only [Option.bind_some] at h3
 split at h3
 ·rename_i cs t z hh
  simp only [Option.some.injEq] at h3
  subst h3
  exact ⟨(Array.getElem?_eq_some_iff.1 hh).1, t, z, hh⟩
 ·cases h3
theorem try_own : ownKnob Tryd.prog.godebug = none := by kernel_rfl
theorem try_laid : laidOutB Tryd.prog = true := by kernel_rfl
end Go.Proofs.Eng
