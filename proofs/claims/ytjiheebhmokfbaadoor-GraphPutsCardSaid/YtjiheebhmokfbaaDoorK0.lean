/- What the rows' list of laid variables gives. No conditions beyond those in the theorems. -/
import Derived.Test.YtjiheebhmokfbaaDoorE5
import Derived.Test.YtjiheebhmokfbaaDoorD6
import Derived.Test.YtjiheebhmokfbaaDoorRows
import Derived.Lib.LaidTab
import Derived.Lay
import Derived.MakeChecks
import Derived.ProofKit
set_option linter.all false
set_option linter.deprecated false
set_option linter.unnecessarySimpa false
set_option linter.unusedVariables false
set_option linter.unusedSimpArgs false
set_option linter.defProp false
namespace Go.Proofs.Eng
open Go Go.Proofs
set_option maxRecDepth 100000
set_option maxHeartbeats 16000000
def UnR (ts : List Tm) (x : Tm) (v : AV) : Prop := v = .tup [zeroA, .int 5] ∨ v = .tup [zeroA, .int 7] ∨ ((x.st ts 0).sz ≤ 4096 ∧ ((x.stE ts 0 = true ∧ v = .tup [zeroA, .int 24]) ∨ (x.stE ts 0 = false ∧ ∃ a, v = .tup [a, .int 0] ∧ (x.st ts 0).Is a)))
theorem under_ret {ts : List Tm} {tas : List AV} {tt : Tl} (htp : tt.pure = true) (hts : LIs Tm.Is ts tas) (htl : tas.length ≤ 1000) (htr : ∀ t ∈ ts, ∀ y ∈ t.subs, y.right = true) (htd : ∀ t ∈ ts, t.dp ≤ 1000) (htz : ∀ t ∈ ts, t.sz ≤ 400) {x : Tm} {a : AV} (ha : x.Is a) (hr : ∀ z ∈ x.subs, z.right = true) (hd : x.dp ≤ 1000) : Out md pfs 77 [a, .sl tas tt, .int 0] (UnR ts x) fun _ => False := by
 obtain ⟨c, rfl, l1, l2, l3⟩ := tmCells ha
 refine out_of pf77_is (Nat.le_of_ble_eq_true rfl) ?_
 obtain ⟨v, _, ⟨H', V', cn, e, r, rfl, hv, hw, hS, _, hc2, hcc⟩, c92⟩ := (subst_sh (w := 2) htp hts htl htr htd htz x (e := false) (c := 0) (H := [.cells false c, .cells false [.int 0, .int 0, .str ⟨#[]⟩, .sl [] .nil, .sl [] .nil], wkc false (.int (0 : Nat))]) (V := []) (d := 0) rfl (by omega) ha hr (by omega)).callRet rfl
 have hx1 : H'[1]? = some (.cells false [.int 0, .int 0, .str ⟨#[]⟩, .sl [] .nil, .sl [] .nil]) := by rw [hS.keep 1 (by simp) (by decide)]; rfl
 obtain ⟨cv, rfl, m1, m2, m3⟩ := tmCells hv
 have hpv := tmPure _ hv
 rw [show (((0 : Nat)) : Int) = 0 from rfl, wkc] at c92
 simp only [Bool.false_eq_true, if_false] at c92
 have le3 := hS.le
 simp only [List.length_cons, List.length_nil] at le3
 rcases Nat.lt_or_ge 4096 cn with hbig | hsm
 ·have d25 : decide (((cn : Nat) : Int) > 4096) = true := by simp only [decide_eq_true_eq]; omega
  rw [wkc] at hw
  simp only [pf77, ↓wpre, wall, simprocAttr, l1, l2, List.length_append, List.append_assoc, app_get_len, app_get_add, app_set_len, app_set_add, c92, m1, m2, m3, app_get_of hw, app_get_of hx1, get_set (app_get_of hx1 _), d25]
  exact .inl rfl
 have d25 : decide (((cn : Nat) : Int) > 4096) = false := by simp only [decide_eq_false_iff_not]; omega
 obtain ⟨rfl, rfl, hcn⟩ := hcc hsm
 rw [Bool.false_or] at hw
 cases he : x.stE ts 0
 ·rw [he, wkc] at hw
  simp only [Bool.false_eq_true, if_false] at hw
  have q0 : ((0 : Int) != 0) = false := rfl
  have hds := dp_sz (x.st ts 0)
  obtain ⟨_, rfl, c61⟩ := (rdp_ret (x.st ts 0) hv (by omega)).call rfl (by simp [pvs_cons, pvs_nil, hpv])
  have hpp : ∀ (s : ASt), purify 1019 s (.agg cv) = some (.agg cv) := fun s => purify_pure hpv
  rcases Nat.lt_or_ge 200 (x.st ts 0).dp with h9 | h9
  ·have d39 : decide ((((x.st ts 0).dp : Nat) : Int) > 200) = true := by simp only [decide_eq_true_eq]; omega
   simp only [pf77, ↓wpre, wall, simprocAttr, l1, l2, List.length_append, List.append_assoc, app_get_len, app_get_add, app_set_len, app_set_add, c92, m1, m2, m3, app_get_of hw, app_get_of hx1, get_set (app_get_of hx1 _), d25, q0, c61, d39]
   exact .inr (.inl rfl)
  ·have d39 : decide ((((x.st ts 0).dp : Nat) : Int) > 200) = false := by simp only [decide_eq_false_iff_not]; omega
   simp only [pf77, ↓wpre, wall, simprocAttr, l1, l2, List.length_append, List.append_assoc, app_get_len, app_get_add, app_set_len, app_set_add, c92, m1, m2, m3, app_get_of hw, app_get_of hx1, get_set (app_get_of hx1 _), d25, q0, c61, d39, hpp]
   exact .inr (.inr ⟨by omega, .inr ⟨he, _, rfl, hv⟩⟩)
 ·rw [he, wkc] at hw
  simp only [if_true] at hw
  have q0 : ((24 : Int) != 0) = true := rfl
  have hs2 : ∀ Y, ((H' ++ [AObj.cells false cv]).set 1 Y)[2]? = some (.cells false [.int 24, .int (cn : Nat)]) := fun Y => by rw [List.getElem?_set, if_neg (by decide)]; exact app_get_of hw _
  simp only [pf77, ↓wpre, wall, simprocAttr, l1, l2, List.length_append, List.append_assoc, app_get_len, app_get_add, app_set_len, app_set_add, c92, m1, m2, m3, app_get_of hw, app_get_of hx1, get_set (app_get_of hx1 _), d25, q0, List.getLast?_cons_cons, List.getLast?_singleton, List.dropLast_cons_cons, List.dropLast_singleton, M1_t, M1_f, M3_some, JW_f, JW_t, hs2, eqI]
  exact .inr (.inr ⟨by omega, .inl ⟨he, rfl⟩⟩)
theorem rsubst_ret {ts : List Tm} {tas : List AV} {tt : Tl} (htp : tt.pure = true) (hts : LIs Tm.Is ts tas) (htl : tas.length ≤ 1000) (htr : ∀ t ∈ ts, ∀ y ∈ t.subs, y.right = true) (htd : ∀ t ∈ ts, t.dp ≤ 1000) (htz : ∀ t ∈ ts, t.sz ≤ 400) {x : Tm} {a : AV} (ha : x.Is a) (hr : ∀ z ∈ x.subs, z.right = true) (hd : x.dp ≤ 1000) : Out md pfs 51 [a, .sl tas tt] (UnR ts x) fun _ => False := by
 have hpt : pureAV (.sl tas tt) = true := by rw [pv_sl, htp, tmsPure hts]; rfl
 obtain ⟨v, hv, c77⟩ := (under_ret htp hts htl htr htd htz ha hr hd).call rfl (by simp [pvs_cons, pvs_nil, tmPure _ ha, hpt, pv_v])
 have hv0 := hv
 obtain ⟨c, rfl, l1, l2, l3⟩ := tmCells ha
 refine out_of pf51_is (Nat.le_of_ble_eq_true rfl) ?_
 rcases hv with rfl | rfl | ⟨_, ⟨_, rfl⟩ | ⟨_, b, rfl, hb⟩⟩
 ·simp only [zeroA] at c77
  simp only [pf51, ↓wpre, wall, simprocAttr, l1, l2, c77]
  exact hv0
 ·simp only [zeroA] at c77
  simp only [pf51, ↓wpre, wall, simprocAttr, l1, l2, c77]
  exact hv0
 ·simp only [zeroA] at c77
  simp only [pf51, ↓wpre, wall, simprocAttr, l1, l2, c77]
  exact hv0
 ·obtain ⟨cb, rfl, m1, m2, m3⟩ := tmCells hb
  have hpp : ∀ (s : ASt), purify 1019 s (.agg cb) = some (.agg cb) := fun s => purify_pure (tmPure _ hb)
  simp only [pf51, ↓wpre, wall, simprocAttr, l1, l2, c77, m1, m2, m3, hpp]
  exact hv0
theorem st_skip {ts : List Tm} (x : Tm) : ∀ {d : Nat}, x.fv ≤ d → x.stE ts d = false ∧ x.st ts d = x := by
 induction x using Tm.ind with
 | h k i n ls kids ih =>
 intro d hd
 rw [fv_mk] at hd
 rw [Tm.stE, Tm.st]
 by_cases hk : k = 0
 ·have h1 := fvF_acc (k := k) (l := kids.map Tm.fv) (a := fv0 k i) (j := 0)
  rw [fv0, if_pos hk] at h1
  have h2 : i < d := by
   rw [fv0, if_pos hk] at hd
   omega
  rw [if_pos hk, if_pos hk, if_pos h2, if_pos h2]
  exact ⟨rfl, rfl⟩
 ·rw [if_neg hk, if_neg hk]
  have key : ∀ (l : List Tm) (j : Nat), (∀ x ∈ l, x ∈ kids) → (∀ (m : Nat) (y : Tm), l[m]? = some y → y.fv ≤ d + (binderG k (j + m : Nat)).toNat) → stEL ts d k j l = false ∧ stL ts d k j l = l := by
   intro l
   induction l with
   | nil => intro j _ _; exact ⟨by rw [stEL], by rw [stL]⟩
   | cons y l ihl =>
    intro j h1 h2
    obtain ⟨a1, a2⟩ := ih y (h1 y (by simp)) (d := d + (binderG k j).toNat) (by have := h2 0 y rfl; simpa using this)
    obtain ⟨b1, b2⟩ := ihl (j + 1) (fun x hx => h1 x (by simp [hx])) fun m z hz => by
     have := h2 (m + 1) z (by simpa using hz)
     rw [show j + (m + 1) = j + 1 + m from by omega] at this
     exact this
    exact ⟨by rw [stEL, a1, b1]; rfl, by rw [stL, a2, b2]⟩
  obtain ⟨c1, c2⟩ := key kids 0 (fun _ h => h) fun m y hy => by
   have h1 := fvF_kid (k := k) (x := y.fv) (l := kids.map Tm.fv) (a := fv0 k i) (j := 0) (i := m) (by simp [hy])
   have h2 := binder_01 k ((0 + m : Nat) : Int)
   omega
  rw [c1, c2]
  exact ⟨rfl, rfl⟩
theorem mv_st {ts : List Tm} {z : Tm} (hz : z.sz ≤ 1) (hts : ∀ t ∈ ts, ∀ y ∈ t.subs, y.right = true) (x : Tm) : ∀ {d : Nat}, (∀ y ∈ x.subs, y.right = true) → x.me 0 (pbad ts) d = x.stE ts d ∧ (x.me 0 (pbad ts) d = false → x.mv 0 (pvar ts z) d = x.st ts d) ∧ (x.mv 0 (pvar ts z) d).sz ≤ (x.st ts d).sz := by
 induction x using Tm.ind with
 | h k i n ls kids ih =>
 intro d hr
 by_cases hs : ((Tm.mk k i n ls kids).fv : Int) ≤ 0 + d
 ·obtain ⟨a1, a2⟩ := st_skip (ts := ts) (.mk k i n ls kids) (d := d) (by omega)
  rw [Tm.me, Tm.mv, if_pos hs, if_pos hs, a1, a2]
  exact ⟨rfl, fun _ => rfl, Nat.le_refl _⟩
 rw [Tm.me, Tm.mv, if_neg hs, if_neg hs, Tm.stE, Tm.st]
 by_cases hk : k = 0
 ·have hr0 := hr _ (subs_self _)
  have hkd : kids = [] := by
   have h1 := (right_facts hr0).1.kids
   simp only [Tm.k, Tm.kids] at h1
   rw [hk, show kidsN 0 = 0 from by decide] at h1
   exact List.length_eq_zero_iff.1 (by omega)
  rw [fv_mk, hkd] at hs
  simp only [List.map_nil, fvF] at hs
  rw [fv0, if_pos hk] at hs
  have hi0 : 0 ≤ i := by
   have := (formed_facts (n := ndOf [] (.mk k i n ls kids)) (by rw [formed_ndOf]; exact hr0)).2.1
   exact this.1
  have h2 : ¬ i < d := by omega
  rw [if_pos hk, if_pos hk, if_pos hk, if_pos hk, if_neg h2, if_neg h2, pbad, pvar]
  by_cases hl : (ts.length : Int) ≤ i - d
  ·have hno : ts[(i - d).toNat]? = none := List.getElem?_eq_none_iff.2 (by omega)
   rw [if_pos hl, if_pos hl, hno]
   refine ⟨rfl, fun h => ?_, ?_⟩
   ·rw [decide_eq_false_iff_not] at h
    rw [if_neg (by omega)]
   ·split
    ·rw [vr_fv]; exact hz
    ·exact Nat.le_refl _
  ·rw [if_neg hl, if_neg hl]
   obtain ⟨t, ht⟩ : ∃ t, ts[(i - d).toNat]? = some t := ⟨ts[(i - d).toNat]'(by omega), List.getElem?_eq_getElem _⟩
   rw [ht]
   have htr := hts t (List.mem_of_getElem? ht)
   obtain ⟨e1, e2⟩ := mv_sh (b := (d : Nat)) (fr := 0) (z := z) t (d := 0) htr
   refine ⟨e1, fun h => e2 h, ?_⟩
   have := mv_sz (fr := 0) (lvar_sz (b := (d : Nat)) (fr := 0) hz) t 0
   simp only []
   rw [sh_sz t htr]; exact this
 ·rw [if_neg hk, if_neg hk, if_neg hk, if_neg hk]
  have key : ∀ (l : List Tm) (j : Nat), (∀ x ∈ l, x ∈ kids) → meL 0 (pbad ts) d k j l = stEL ts d k j l ∧ (meL 0 (pbad ts) d k j l = false → mvL 0 (pvar ts z) d k j l = stL ts d k j l) ∧ tszL (mvL 0 (pvar ts z) d k j l) ≤ tszL (stL ts d k j l) := by
   intro l
   induction l with
   | nil => intro j _; exact ⟨by rw [meL, stEL], fun _ => by rw [mvL, stL], by rw [mvL, stL]; exact Nat.le_refl _⟩
   | cons y l ihl =>
    intro j h1
    obtain ⟨a1, a2, a3⟩ := ih y (h1 y (by simp)) (d := d + (binderG k j).toNat) fun w hw => hr w (by rw [Tm.subs]; exact List.mem_cons_of_mem _ (mem_subsL.2 ⟨y, h1 y (by simp), hw⟩))
    obtain ⟨b1, b2, b3⟩ := ihl (j + 1) fun x hx => h1 x (by simp [hx])
    rw [meL, stEL, mvL, stL, a1, b1]
    refine ⟨rfl, fun h => ?_, by rw [tszL, tszL]; omega⟩
    rw [Bool.or_eq_false_iff] at h
    rw [a2 (by rw [a1]; exact h.1), b2 (by rw [b1]; exact h.2)]
  obtain ⟨c1, c2, c3⟩ := key kids 0 fun _ h => h
  exact ⟨c1, fun h => by rw [c2 h], by rw [Tm.sz, Tm.sz]; omega⟩
def RPutR (T : List Tm) (x : Tm) (ts : List Tm) (v : AV) : Prop := GRes [] 0 5 v ∨ GRes [] 0 7 v ∨ ((x.st ts 0).sz ≤ 4096 ∧ MoveR T (x.st ts 0) (x.stE ts 0) v)
def RPut (T : List Tm) (i : Int) (ks : List Int) (v : AV) : Prop := (rngB T.length (i :: ks) = true ∧ GRes [] 0 2 v) ∨ (rngB T.length (i :: ks) = false ∧ ∃ x z, T[i.toNat]? = some x ∧ T[0]? = some z ∧ RPutR T x (pTs T z ks) v)
theorem zres (e : Int) : GRes [] 0 e (.tup [.agg [.sl [] .nil], .int 0, .int e]) := ⟨_, rfl, [], .nil, rfl, rfl, Nat.zero_le _, trivial⟩
theorem rng_one {T : List Tm} (k : Int) : (decide (k < 0) || decide (k ≥ (T.length : Nat))) = !(decide (k ≥ 0) && decide (k < (T.length : Nat))) := by
 rw [Bool.eq_iff_iff]
 simp only [Bool.or_eq_true, decide_eq_true_eq, Bool.not_eq_true', Bool.and_eq_false_iff, decide_eq_false_iff_not]
 omega
theorem rPut_ret {N : List Nd} {T : List Tm} (hS : SmallG N T) {g : AV} (hg : GIs N g) (i : Int) {ks : List Int} {tt : Tl} (ht : tt.pure = true) (hk : ks.length ≤ 1000) : Out md pfs 24 [g, .int i, .sl (ints ks) tt] (RPut T i ks) fun _ => False := by
 have hG := hS.good
 have hT := hS.len
 rw [hS.eq] at hg
 have hpg := gPure hg
 have hin : ∀ k : Int, ∀ (pm : Bool) (s : ASt) (K KP : AV → ASt → Prop), CW (run md pfs) md pm s 48 [g, .int k] K KP () = K (.bool (decide (k ≥ 0) && decide (k < T.length))) s := fun k => by
  obtain ⟨_, rfl, c48⟩ := (in_ret hg k).call rfl (by simp [pvs_cons, pvs_nil, hpg, pv_v])
  rw [nodes_len] at c48
  exact c48
 have hun : ∀ (k : Int) (x : Tm), k ≥ 0 → T[k.toNat]? = some x → ∃ v, x.Is v ∧ ∀ (pm : Bool) (s : ASt) (K KP : AV → ASt → Prop), CW (run md pfs) md pm s 50 [g, .int k] K KP () = K v s := fun k x h0 hx => by
  obtain ⟨_, hnm, _⟩ := good_at hG hx
  have hi : ((T.idxOf x : Nat) : Int) = k := by
   have := (idx_first hx fun y hy e => hnm (by rw [← e]; exact hy)).2
   omega
  obtain ⟨v, hv, c50⟩ := (unfold_ret hG hg x (List.mem_of_getElem? hx)).call rfl (by simp [pvs_cons, pvs_nil, hpg, pv_v])
  rw [hi] at c50
  exact ⟨v, hv, c50⟩
 obtain ⟨al, tg, rfl, hg2⟩ := hg
 have hg : GIs (nodesOf T) (.agg [.sl al tg]) := ⟨al, tg, rfl, hg2⟩
 have hia := ints_all ks
 refine out_of pf24_is (Nat.le_of_ble_eq_true rfl) ?_
 cases hc : (decide (i ≥ 0) && decide (i < T.length))
 ·simp only [pf24, ↓wpre, wall, simprocAttr, hin, hc]
  exact .inl ⟨by rw [rngB, List.any_cons, rng_one, hc]; rfl, zres 2⟩
 have hc' := hc
 rw [Bool.and_eq_true, decide_eq_true_eq, decide_eq_true_eq] at hc'
 obtain ⟨x, hx⟩ : ∃ x, T[i.toNat]? = some x := ⟨T[i.toNat]'(by omega), List.getElem?_eq_getElem _⟩
 obtain ⟨z, hz⟩ : ∃ z, T[0]? = some z := ⟨T[0]'(by omega), List.getElem?_eq_getElem _⟩
 have hxT := List.mem_of_getElem? hx
 have hdx := good_dp hG.good x hxT
 have hrx : ∀ y ∈ x.subs, y.right = true := fun y hy => hG.right y (hG.good.subs x hxT y hy)
 have hr1 : rngB T.length (i :: ks) = rngB T.length ks := by rw [rngB, List.any_cons, rng_one, hc]; rfl
 simp only [pf24, ↓wpre, wall, simprocAttr, hin, hc]
 refine W_loopE (fun j => ks.length - j) (fun j E H V => ∃ tas tk, H = [.cells false [.sl al tg], .cells false [.sl [] .nil]] ∧ E 1 = .int i ∧ E 2 = .sl (ints ks) tt ∧ E 3 = .ptr 0 0 ∧ E 6 = .ptr 1 0 ∧ E 9 = .sl tas tk ∧ E 10 = .int (j : Nat) ∧ j ≤ ks.length ∧ LIs Tm.Is (pTs T z (ks.take j)) tas ∧ App V tas tk ∧ rngB T.length (ks.take j) = false) ?_ 0 ⟨[], .nil, rfl, rfl, rfl, rfl, rfl, rfl, rfl, Nat.zero_le _, trivial, app_start _, rfl⟩
 rintro j E H V ⟨tas, tk, rfl, e1, e2, e3, e6, e9, e10, hj, hts, hA, hrb⟩
 have htn := hts.len
 rw [pTs, List.length_map, List.length_take] at htn
 rcases Nat.lt_or_ge j ks.length with hlt | hge
 ·have hdec : decide ((j : Int) < ks.length) = true := by simpa using hlt
  obtain ⟨k, z0, z1, z2⟩ := ints_get hlt
  have etk : ks.take (j + 1) = ks.take j ++ [k] := by rw [List.take_add_one, z0]; rfl
  cases hck : (decide (k ≥ 0) && decide (k < T.length))
  ·simp only [↓wpre, wall, simprocAttr, e1, e2, e3, e6, e9, e10, ints_len, hdec, z2, hia, hin, hck]
   refine .inl ⟨?_, zres 2⟩
   rw [hr1, rngB]
   refine List.any_eq_true.2 ⟨k, List.mem_of_getElem? z0, ?_⟩
   rw [rng_one, hck]; rfl
  have hck' := hck
  rw [Bool.and_eq_true, decide_eq_true_eq, decide_eq_true_eq] at hck'
  obtain ⟨t, htt⟩ : ∃ t, T[k.toNat]? = some t := ⟨T[k.toNat]'(by omega), List.getElem?_eq_getElem _⟩
  obtain ⟨v, hv, c50⟩ := hun k t hck'.1 htt
  obtain ⟨c, rfl, l1, l2, l3⟩ := tmCells hv
  obtain ⟨tk', V3, f1, f2, f3⟩ := app_many (es := 5) (xs := [.agg c]) hA (by show tas.length + 1 ≤ 1073741824; omega) (hts.all tmAgg) (by simp only [List.all_cons, List.all_nil, Bool.and_true, cells_agg, l1, l3]; rfl)
  have hq : eqAV (.sl tas tk) (.sl tas tk) = true := eqT _ _ (eqL (fun x a h => eqTm x h) hts)
  simp only [↓wpre, wall, simprocAttr, e1, e2, e3, e6, e9, e10, ints_len, hdec, z2, hia, hin, hck, c50, l1, l2, l3, f1, hq]
  refine EQ_in ⟨j + 1, by omega, _, tk', rfl, e1, e2, e3, e6, rfl, next_ixv (by unfold lenB; omega), by omega, ?_, f2, ?_⟩
  ·rw [etk, pTs, List.map_append, List.map_cons, List.map_nil, htt]
   exact hts.append (.one hv)
  ·rw [etk, rngB, List.any_append]
   rw [rngB] at hrb
   rw [hrb, List.any_cons, rng_one, hck]; rfl
 ·have hdec : decide ((j : Int) < ks.length) = false := by simpa using hge
  rw [List.take_of_length_le (by omega)] at hts hrb
  have htn' := hts.len
  have hmem : ∀ t ∈ pTs T z ks, t ∈ T := fun t h => by
   obtain ⟨m, hm⟩ := List.getElem?_of_mem h
   exact (pTs_get hG (z := z) (ks := ks) hrb m t hm).1
  have htr : ∀ t ∈ pTs T z ks, ∀ y ∈ t.subs, y.right = true := fun t h y hy => hG.right y (hG.good.subs t (hmem t h) y hy)
  have hzr : ∀ y ∈ z.subs, y.right = true := fun y hy => hG.right y (hG.good.subs z (List.mem_of_getElem? hz) y hy)
  have hst : x.stE (pTs T z ks) 0 = false → ∀ y ∈ (x.st (pTs T z ks) 0).subs, y.right = true := fun he => by
   obtain ⟨e1, e2, _⟩ := mv_st (zero_sz hG hz) htr x (d := 0) hrx
   rw [← e2 (by rw [e1, he])]
   exact mv_right (pvar_right hzr htr) 0 hrx
  obtain ⟨ax, hax, c50⟩ := hun i x hc'.1 hx
  have hpx := tmPure _ hax
  have hpt := tmsPure hts
  obtain ⟨v, hv, c51⟩ := (rsubst_ret (stripR_pure 19 ⟨[.cells false [.sl al tg], .cells false [.sl [] .nil]], V⟩ tk) hts (by rw [htn', pTs, List.length_map]; exact hk) htr (fun t h => by have := good_dp hG.good t (hmem t h); omega) (fun t h => hS.sz t (hmem t h)) hax hrx (by omega)).callP rfl (s := ⟨[.cells false [.sl al tg], .cells false [.sl [] .nil]], V⟩) (args := [ax, .sl tas tk]) (by
   simp only [mapO, purify20 hpx, pz_sl, mapO_at hpt, Option.map_some])
  simp only [List.foldl_cons, List.foldl_nil, fr_pure hpx, fr_sl hpt] at c51
  have hrr : rngB T.length (i :: ks) = false := by rw [hr1]; exact hrb
  have hfin : ∀ w, RPutR T x (pTs T z ks) w → RPut T i ks w := fun w h => .inr ⟨hrr, x, z, hx, hz, h⟩
  obtain ⟨cx, rfl, _⟩ := tmCells hax
  rcases hv with rfl | rfl | ⟨hsz, ⟨he, rfl⟩ | ⟨he, a, rfl, ha⟩⟩
  ·have q0 : ((5 : Int) != 0) = true := rfl
   simp only [zeroA] at c51
   simp only [↓wpre, wall, simprocAttr, e1, e2, e3, e6, e9, e10, ints_len, hdec, c50, c51, q0]
   exact hfin _ (.inl (zres 5))
  ·have q0 : ((7 : Int) != 0) = true := rfl
   simp only [zeroA] at c51
   simp only [↓wpre, wall, simprocAttr, e1, e2, e3, e6, e9, e10, ints_len, hdec, c50, c51, q0]
   exact hfin _ (.inr (.inl (zres 7)))
  ·have q0 : ((24 : Int) != 0) = true := rfl
   simp only [zeroA] at c51
   simp only [↓wpre, wall, simprocAttr, e1, e2, e3, e6, e9, e10, ints_len, hdec, c50, c51, q0]
   exact hfin _ (.inr (.inr ⟨hsz, by rw [MoveR, if_pos he]; exact zres 24⟩))
  ·have q0 : ((0 : Int) != 0) = false := rfl
   obtain ⟨vw, hvw, c45⟩ := (whole_ret hG hg ha (hst he) (by omega)).call rfl (by simp [pvs_cons, pvs_nil, hpg, tmPure _ ha])
   have hvw' := hvw
   obtain ⟨ga, rfl, hga⟩ := hvw
   have hpga := gPure hga
   obtain ⟨al3, t3, rfl, hga'⟩ := hga
   obtain ⟨c, rfl, m1, m2, m3⟩ := tmCells ha
   have hpp : ∀ (s : ASt), purify 1019 s (.agg [.sl al3 t3]) = some (.agg [.sl al3 t3]) := fun s => purify_pure hpga
   simp only [↓wpre, wall, simprocAttr, e1, e2, e3, e6, e9, e10, ints_len, hdec, c50, c51, q0, m1, m2, m3, c45, hpp]
   exact hfin _ (.inr (.inr ⟨hsz, by rw [MoveR, if_neg (by rw [he]; simp)]; exact hvw'⟩))
theorem highp_ret {n : Nd} {a : AV} (h : n.Is a) : Out md pfs 23 [a] (· = .bool (decide (n.i > 60000))) fun _ => False := by
 obtain ⟨t1, t2, las, rfl, _⟩ := h
 refine out_of pf23_is (Nat.le_of_ble_eq_true rfl) ?_
 simp only [pf23, ↓wpre, wall, simprocAttr]
theorem puts_law {N : List Nd} {g : AV} (hg : GIs N g) (i : Int) {ks : List Int} {tt : Tl} (ht : tt.pure = true) : Out md pfs 6 [g, .int i, .sl (ints ks) tt] (· = .bool true) fun _ => False := by
 have hpg := gPure hg
 have hpk : pureAV (.sl (ints ks) tt) = true := by rw [pv_sl, ht, ints_pure]; rfl
 obtain ⟨_, rfl, c11⟩ := awake_ret.call rfl pvs_nil
 obtain ⟨_, ⟨sm, rfl, hsm⟩, c15⟩ := (smallG_ret hg).call rfl (by simp [pvs_cons, pvs_nil, hpg])
 have hg' := hg
 obtain ⟨al, tg, rfl, k1, k2, k3⟩ := hg'
 obtain ⟨_, rfl, c19⟩ := (cont46_ret ndAgg 23 [] rfl rfl (fun n => decide (n.i > 60000)) (t := tg) k1 k3 k2 fun n _ a ha => highp_ret ha).call rfl (by simp [pvs_cons, pvs_nil, pv_sl, pv_fn, k1, k3.pure fun _ _ h => ndPure h])
 refine out_of pf6_is (Nat.le_of_ble_eq_true rfl) ?_
 cases sm
 ·simp only [pf6, ↓wpre, wall, simprocAttr, c15, c11]
 cases c1 : decide ((ks.length : Int) > 6)
 rotate_left
 ·simp only [pf6, ↓wpre, wall, simprocAttr, c15, ints_len, c1, c11]
 cases c2 : (N.any fun n => decide (n.i > 60000))
 rotate_left
 ·simp only [pf6, ↓wpre, wall, simprocAttr, c15, ints_len, c1, c19, c2, c11]
 have c1' := c1
 simp only [decide_eq_false_iff_not] at c1
 have c1' : decide ((ks.length : Int) > 6) = false := by simpa using c1
 obtain ⟨T, hS⟩ := hsm rfl
 have hT := hS.len
 have hG := hS.good
 obtain ⟨v2, hv2, c24⟩ := (rPut_ret hS hg i ht (ks := ks) (by omega)).call rfl (by simp [pvs_cons, pvs_nil, hpg, hpk, pv_v])
 have aw : ∀ (e : Int) (v2 : AV), (e = 5 ∨ e = 7) → GRes [] 0 e v2 → (∀ (pm : Bool) (s : ASt) (K KP : AV → ASt → Prop), CW (run md pfs) md pm s 24 [.agg [.sl al tg], .int i, .sl (ints ks) tt] K KP () = K v2 s) → W (run md pfs) md pf6.body ⟨tmE pf6.nt (argsE [.agg [.sl al tg], .int i, .sl (ints ks) tt]), [], ⟨[], []⟩⟩ (RQ pf6.res (· = .bool true) fun _ => False) () := fun e v2 he hv2 c24 => by
  obtain ⟨al2, t2, rfl, q2⟩ := hv2.eq (M := []) (j := 0) (f := 0)
  rcases he with rfl | rfl
  ·have h : ((5 : Int) == 5) = true := rfl
   simp only [pf6, ↓wpre, wall, simprocAttr, c15, ints_len, c1', c19, c2, c24, h, c11]
  ·have h : ((7 : Int) == 5) = false := rfl
   have h' : ((7 : Int) == 7) = true := rfl
   simp only [pf6, ↓wpre, wall, simprocAttr, c15, ints_len, c1', c19, c2, c24, h, h', c11]
 have main : ∀ (M : List Nd) (j e : Int) (v1 v2 : AV), (e == 5) = false → (e == 7) = false → GRes M j e v1 → GRes M j e v2 → (∀ (pm : Bool) (s : ASt) (K KP : AV → ASt → Prop), CW (run md pfs) md pm s 25 [.agg [.sl al tg], .int i, .sl (ints ks) tt] K KP () = K v1 s) → (∀ (pm : Bool) (s : ASt) (K KP : AV → ASt → Prop), CW (run md pfs) md pm s 24 [.agg [.sl al tg], .int i, .sl (ints ks) tt] K KP () = K v2 s) → W (run md pfs) md pf6.body ⟨tmE pf6.nt (argsE [.agg [.sl al tg], .int i, .sl (ints ks) tt]), [], ⟨[], []⟩⟩ (RQ pf6.res (· = .bool true) fun _ => False) () := fun M j e v1 v2 h h' hv1 hv2 c25 c24 => by
  obtain ⟨al1, t1, rfl, q1⟩ := hv1.eq (M := []) (j := 0) (f := 0)
  obtain ⟨al2, t2, rfl, q2⟩ := hv2.eq (M := []) (j := 0) (f := 0)
  obtain ⟨_, rfl, c18⟩ := (rSame_ret q1 q2).call rfl (by simp [pvs_cons, pvs_nil, gPure q1, gPure q2])
  rw [decide_eq_true rfl] at c18
  have r1 : (j == j) = true := by simp
  have r2 : (e == e) = true := by simp
  simp only [pf6, ↓wpre, wall, simprocAttr, c15, ints_len, c1', c19, c2, c24, h, h', c25, c18, c11, r1, r2]
 rcases hv2 with ⟨hb, h2⟩ | ⟨hb, x, z, hx, hz, h5 | h7 | ⟨hsz, hm⟩⟩
 ·obtain ⟨v1, hv1, c25⟩ := (Put_bad hS hg i ht (ks := ks) (by omega) hb).call rfl (by simp [pvs_cons, pvs_nil, hpg, hpk, pv_v])
  exact main [] 0 2 v1 v2 rfl rfl hv1 h2 c25 c24
 ·exact aw 5 v2 (.inl rfl) h5 c24
 ·exact aw 7 v2 (.inr rfl) h7 c24
 ·have hxT := List.mem_of_getElem? hx
  have hrx : ∀ y ∈ x.subs, y.right = true := fun y hy => hG.right y (hG.good.subs x hxT y hy)
  have hbk : rngB T.length ks = false := by
   rw [rngB, List.any_cons, Bool.or_eq_false_iff] at hb
   exact hb.2
  have htr : ∀ t ∈ pTs T z ks, ∀ y ∈ t.subs, y.right = true := fun t h y hy => by
   obtain ⟨m, hm⟩ := List.getElem?_of_mem h
   exact hG.right y (hG.good.subs t (pTs_get hG (z := z) (ks := ks) hbk m t hm).1 y hy)
  obtain ⟨e1, e2, e3⟩ := mv_st (zero_sz hG hz) htr x (d := 0) hrx
  have hle := enter_len (x.mv 0 (pvar (pTs T z ks) z) 0) T
  obtain ⟨v1, hv1, c25⟩ := (Put_good hS hg ht (ks := ks) (by omega) hb hx hz (by omega)).call rfl (by simp [pvs_cons, pvs_nil, hpg, hpk, pv_v])
  have hv1' : MoveR T (x.st (pTs T z ks) 0) (x.stE (pTs T z ks) 0) v1 := by
   rw [e1] at hv1 e2
   unfold MoveR at hv1 ⊢
   cases he : x.stE (pTs T z ks) 0
   ·rw [he, if_neg (by simp)] at hv1
    rw [if_neg (by simp), ← e2 he]; exact hv1
   ·rw [he, if_pos rfl] at hv1
    rw [if_pos rfl]; exact hv1
  unfold MoveR at hv1' hm
  cases he : x.stE (pTs T z ks) 0
  ·rw [he, if_neg (by simp)] at hv1' hm
   exact main _ _ 0 v1 v2 rfl rfl hv1' hm c25 c24
  ·rw [he, if_pos rfl] at hv1' hm
   exact main _ _ 24 v1 v2 rfl rfl hv1' hm c25 c24
open Go Go.Proofs Go.Proofs.YtjiheebhmokfbaaDoor
open Go.ChangeShapes Go.WideShapes Go.ChangeAt Go.RowKit
def laid50 : List (String × DataW Unit) := Rows.graphChecksRow.laid
theorem lm_tail {P : Program} {x : String × DataW Unit} {r : List (String × DataW Unit)} {w : World} (h : laidMet P (x :: r) w) : laidMet P r w := by
 obtain ⟨n, d⟩ := x
 obtain ⟨ps, ⟨g, t, cs, fuel, p, q, _, _, _, _, hq, rfl⟩, hn, hc⟩ := h
 exact ⟨q, hq, (List.nodup_append.1 hn).2.1, fun b off hm => hc b off (List.mem_append_right _ hm)⟩
theorem kn_of {W : World} (h : laidMetH Tryd.prog laid50 W) : Kn W := by
 rw [MakeChecks.laidMetH_plain _ _ _ (by kernel_rfl)] at h
 have h2 := lm_tail (lm_tail h)
 have h3 := Lib.tabIs_of_head (name := tabN) (zs := Lib.pow10Tab) (k := .u64) (g := 0) (t := 142) (e := 132) (n := 20) (by kernel_rfl) (by kernel_rfl) (by kernel_rfl) (by kernel_rfl) (by kernel_rfl) (by kernel_rfl) h2
 intro b hb
 obtain rfl : b = 0 := hb
 unfold Lib.TabIs World.var? at h3
 rw [show Tryd.prog.globalNamed tabN = some 0 from by kernel_rfl] at h3
 simp only [Option.bind_some] at h3
 split at h3
 ·rename_i cs t z hh
  simp only [Option.some.injEq] at h3
  subst h3
  exact ⟨(Array.getElem?_eq_some_iff.1 hh).1, t, z, hh⟩
 ·cases h3
theorem try_own : ownKnob Tryd.prog.godebug = none := by kernel_rfl
theorem try_laid : laidOutB Tryd.prog = true := by kernel_rfl
end Go.Proofs.Eng
