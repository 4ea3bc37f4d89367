/- Moving by a number: the builder's and the reference's are alike. Plain law. No conditions beyond those in the theorems. -/
import Derived.Test.YtjiheebhmokfbaaDoorC6
import Derived.Test.YtjiheebhmokfbaaDoorB5
set_option linter.all false
set_option linter.deprecated false
set_option linter.unnecessarySimpa false
set_option linter.unusedVariables false
set_option linter.unusedSimpArgs false
set_option linter.defProp false
namespace Go.Proofs.Eng
open Go Go.Proofs
set_option maxRecDepth 100000
set_option maxHeartbeats 16000000
theorem whole_ret {T : List Tm} (hG : GT T) {g a : AV} (hg : GIs (nodesOf T) g) {t : Tm} (ha : t.Is a) (hr : ∀ x ∈ t.subs, x.right = true) (hl : T.length + t.sz ≤ 65536) : Out md pfs 45 [g, a] (GRes (nodesOf (t.enter T)) ((t.enter T).idxOf t : Nat) 0) fun _ => False := by
  have hle := enter_len t T
  obtain ⟨_, ⟨g', rfl, hg'⟩, c74⟩ := (renter_ret t hG hg ha hr (by omega)).call rfl (by simp [pvs_cons, pvs_nil, gPure hg, tmPure _ ha])
  have hpg' := gPure hg'
  obtain ⟨c, rfl, l1, l2, l3⟩ := tmCells ha
  obtain ⟨al, tg, rfl, _⟩ := hg
  have hg'' := hg'
  obtain ⟨gl, gt, rfl, q1, q2, q3⟩ := hg'
  have hgl := q3.len
  rw [nodes_len] at hgl
  have d1 : decide ((gl.length : Int) > 65536) = false := by simp only [decide_eq_false_iff_not]; omega
  have hpp : ∀ (s : ASt), purify 1019 s (.agg [.sl gl gt]) = some (.agg [.sl gl gt]) := fun s => purify_pure hpg'
  refine out_of pf45_is (Nat.le_of_ble_eq_true rfl) ?_
  simp only [pf45, ↓wpre, wall, simprocAttr, l1, l2, c74, d1, hpp]
  exact ⟨_, rfl, hg''⟩
theorem rSame_ret {N M : List Nd} {a b : AV} (ha : GIs N a) (hb : GIs M b) : Out md pfs 18 [a, b] (· = .bool (decide (N = M))) fun _ => False := by
  obtain ⟨al, t, rfl, h1, h2, h3⟩ := ha
  obtain ⟨bl, u, rfl, q1, q2, q3⟩ := hb
  have hl1 := h3.len
  have hl2 := q3.len
  have hall := h3.all ndAgg
  have hbll := q3.all ndAgg
  refine out_of pf18_is (Nat.le_of_ble_eq_true rfl) ?_
  cases b5 : ((al.length : Int) != bl.length)
  case true =>
    simp only [pf18, ↓wpre, wall, simprocAttr, b5]
    have : N ≠ M := by rintro rfl; simp at b5; omega
    simp [this]
  have hlen : bl.length = al.length := by simp at b5; omega
  simp only [pf18, ↓wpre, wall, simprocAttr, b5]
  refine W_loopE (fun j => al.length - j) (fun j E H T => H = [.cells false [.sl al t], .cells false [.sl bl u]] ∧ E 2 = .ptr 0 0 ∧ E 3 = .ptr 1 0 ∧ E 5 = .int (j : Nat) ∧ j ≤ al.length ∧ N.take j = M.take j) ?_ 0 ⟨rfl, rfl, rfl, rfl, Nat.zero_le _, rfl⟩
  rintro j E H T ⟨rfl, e2, e3, e5, hj, hq⟩
  rcases Nat.lt_or_ge j al.length with hlt | hge
  · have hdec : decide ((j : Int) < al.length) = true := by simpa using hlt
    obtain ⟨x, c1, d0, d1, d3, d4, d5, d6, d7, d8⟩ := h3.get ndAgg hlt
    obtain ⟨y, c2, f0, f1, f3, f4, f5, f6, f7, f8⟩ := q3.get ndAgg (i := j) (by omega)
    obtain ⟨_, rfl, cr⟩ := (rsame_ret d8 f8).call rfl (by simp [pvs_cons, pvs_nil, ndPure d8, ndPure f8])
    cases b6 : decide (x = y)
    · have hxy : x ≠ y := by simpa using b6
      simp only [↓wpre, wall, simprocAttr, e2, e3, e5, hdec, d4, d5, d6, f4, f5, f6, hall, hbll, cr, b6]
      have : N ≠ M := list_ne d0 f0 hxy
      simp [this]
    · have hxy : x = y := by simpa using b6
      subst hxy
      simp only [↓wpre, wall, simprocAttr, e2, e3, e5, hdec, d4, d5, d6, f4, f5, f6, hall, hbll, cr, b6]
      exact EQ_in ⟨j + 1, by omega, rfl, e2, e3, next_ixv (by unfold lenB at *; omega), by omega, take_step hq d0 f0⟩
  · have hdec : decide ((j : Int) < al.length) = false := by simpa using hge
    simp only [↓wpre, wall, simprocAttr, e2, e3, e5, hdec]
    rw [List.take_of_length_le (by omega), List.take_of_length_le (by omega)] at hq
    simp [hq]
structure SizeP (lim : Nat) (x : Tm) (r : Nat) : Prop where
  le : x.sz ≤ lim → r = x.sz
  gt : lim < x.sz → lim < r
  pos : 1 ≤ r
  up : r ≤ (lim + 1) * x.dp
theorem rSize_ret {T : List Tm} (hG : GT T) {g : AV} (hg : GIs (nodesOf T) g) (lim : Nat) (hlim : lim ≤ 10000) (x : Tm) : x ∈ T → x.dp ≤ 100000 → Out md pfs 40 [g, .int (T.idxOf x : Nat), .int lim] (fun v => ∃ r : Nat, v = .int r ∧ SizeP lim x r) fun _ => False := by
  have hpg := gPure hg
  induction x using Tm.ind with
  | h k i nm ls kids ih =>
  intro hx hdp
  obtain ⟨al, tg, rfl, h1, h2, h3⟩ := hg
  have hln := h3.len
  rw [nodes_len] at hln
  have hall := h3.all ndAgg
  have hk : ∀ y ∈ kids, y ∈ T := (hG.good.all _ hx).2
  have hlt0 := List.idxOf_lt_length_of_mem hx
  obtain ⟨n, c, d0, d1, d3, d4, d5, d6, d7, d8⟩ := h3.get ndAgg (i := T.idxOf (.mk k i nm ls kids)) (by omega)
  have hnx : n = ndOf T (.mk k i nm ls kids) := by
    rw [nodesOf, List.getElem?_map, List.getElem?_eq_getElem hlt0, List.getElem_idxOf] at d0
    exact (Option.some.inj d0).symm
  subst hnx
  obtain ⟨t1, t2, las, hcc, b1, b2, b3, b4, b5, b6, b7, b8, b9⟩ := d8
  simp only [AV.agg.injEq] at hcc; subst hcc
  have hia := ints_all (ndOf T (.mk k i nm ls kids)).kids
  have hkl : (ndOf T (.mk k i nm ls kids)).kids.length = kids.length := by simp [ndOf, Tm.kids]
  have hkg : ∀ (j : Nat) (y : Tm), kids[j]? = some y → (ndOf T (.mk k i nm ls kids)).kids[j]? = some ((T.idxOf y : Nat) : Int) := fun j y hy => by simp [ndOf, Tm.kids, hy]
  rw [Tm.dp] at hdp
  generalize (ndOf T (.mk k i nm ls kids)).kids = ks at *
  have hszx : (Tm.mk k i nm ls kids).sz = 1 + tszL kids := by rw [Tm.sz]
  refine out_of pf40_is (Nat.le_of_ble_eq_true rfl) ?_
  simp only [pf40, ↓wpre, wall, simprocAttr, d4, d5, hall]
  refine W_loopE (fun j => ks.length - j) (fun j E H V => H = [.cells false [.sl al tg]] ∧ E 2 = .int lim ∧ E 3 = .ptr 0 0 ∧ E 8 = .sl (ints ks) t2 ∧ E 9 = .int (j : Nat) ∧ j ≤ ks.length ∧ ∃ r : Nat, E 7 = .int r ∧ (1 + tszL (kids.take j) ≤ lim → r = 1 + tszL (kids.take j)) ∧ (lim < 1 + tszL (kids.take j) → lim < r) ∧ 1 ≤ r ∧ r ≤ (lim + 1) * (tdpL kids + 1)) ?_ 0 ⟨rfl, rfl, rfl, rfl, rfl, Nat.zero_le _, 1, rfl, by simp [tszL], by simp [tszL], by omega, by rw [Nat.mul_add]; omega⟩
  rintro j E H V ⟨rfl, e2, e3, e8, e9, hj, r, e7, r1, r2, r3, r4⟩
  have hmul : (lim + 1) * (tdpL kids + 1) ≤ 10001 * 100000 := Nat.mul_le_mul (by omega) hdp
  have fin : ∀ w : Nat, w = r → (j = ks.length ∨ lim < r) → SizeP lim (.mk k i nm ls kids) w := by
    rintro w rfl hh
    have hle : tszL (kids.take j) ≤ tszL kids := by
      rcases Nat.lt_or_ge j kids.length with h | h
      · obtain ⟨s1, s2⟩ := tsz_split (List.getElem?_eq_getElem h); omega
      · rw [List.take_of_length_le h]; exact Nat.le_refl _
    refine ⟨fun h => ?_, fun h => ?_, r3, by rw [Tm.dp]; exact r4⟩
    · rcases hh with hh | hh
      · rw [List.take_of_length_le (by omega)] at r1; omega
      · rcases Nat.lt_or_ge lim (1 + tszL (kids.take j)) with h5 | h5
        · omega
        · have := r1 h5; omega
    · rcases hh with hh | hh
      · rw [List.take_of_length_le (by omega)] at r2; omega
      · exact hh
  rcases Nat.lt_or_ge j ks.length with hlt | hge
  · have hdec : decide ((j : Int) < ks.length) = true := by simpa using hlt
    cases hd2 : decide ((r : Int) ≤ lim)
    · simp only [↓wpre, wall, simprocAttr, e2, e3, e7, e8, e9, ints_len, hdec, hd2]
      simp only [decide_eq_false_iff_not] at hd2
      exact ⟨r, rfl, fin r rfl (.inr (by omega))⟩
    · have hrl := hd2
      simp only [decide_eq_true_eq] at hrl
      obtain ⟨y, hy⟩ : ∃ y, kids[j]? = some y := ⟨kids[j]'(by omega), List.getElem?_eq_getElem _⟩
      obtain ⟨z, z0, z1, z2⟩ := ints_get hlt
      have hz : z = (T.idxOf y : Nat) := by
        have := hkg j y hy
        rw [this] at z0
        exact (Option.some.inj z0).symm
      subst hz
      have hym := List.mem_of_getElem? hy
      obtain ⟨s1, s2⟩ := tsz_split hy
      obtain ⟨p1, p2⟩ := tdp_split hy
      obtain ⟨_, ⟨ry, rfl, hry⟩, c40⟩ := (ih y hym (hk y hym) (by omega)).call rfl (by simp [pvs_cons, pvs_nil, hpg, pv_v])
      have hup := hry.up
      have hm2 : (lim + 1) * y.dp ≤ (lim + 1) * tdpL kids := Nat.mul_le_mul_left _ p2
      have hm3 : (lim + 1) * (tdpL kids + 1) = (lim + 1) * tdpL kids + (lim + 1) := by rw [Nat.mul_add, Nat.mul_one]
      have w35 : IntKind.i64.wrap ((r : Int) + (ry : Nat)) = ((r + ry : Nat) : Int) := by rw [wrap_in (by unfold in64; omega)]; omega
      simp only [↓wpre, wall, simprocAttr, e2, e3, e7, e8, e9, ints_len, hdec, hd2, z2, hia, c40, w35]
      have hr0 := r1 (by rcases Nat.lt_or_ge lim (1 + tszL (kids.take j)) with h5 | h5; · have := r2 h5; omega
                         · exact h5)
      refine EQ_in ⟨j + 1, by omega, rfl, e2, e3, e8, next_ixv (by unfold lenB at *; omega), by omega, r + ry, rfl, fun h => ?_, fun h => ?_, by omega, by omega⟩
      · have := hry.le (by omega); omega
      · have hp := hry.pos
        rcases Nat.lt_or_ge lim y.sz with h5 | h5
        · have := hry.gt h5; omega
        · have := hry.le h5; omega
  · have hdec : decide ((j : Int) < ks.length) = false := by simpa using hge
    simp only [↓wpre, wall, simprocAttr, e2, e3, e7, e8, e9, ints_len, hdec]
    exact ⟨r, rfl, fin r rfl (.inl (by omega))⟩
structure SmallG (N : List Nd) (T : List Tm) : Prop where
  eq : N = nodesOf T
  good : GT T
  few : FewG N
  sz : ∀ t ∈ T, t.sz ≤ 400
theorem SmallG.len {N : List Nd} {T : List Tm} (h : SmallG N T) : T.length ≤ 60 := by
  have := h.few.len; rw [h.eq, nodes_len] at this; exact this
theorem good_dp {T : List Tm} (h : Good T) : ∀ t ∈ T, t.dp ≤ T.length := by
  have key : ∀ (l : List Tm) (m : Nat), (∀ x ∈ l, x.dp ≤ m) → tdpL l ≤ m := by
    intro l
    induction l with
    | nil => intro m _; simp [tdpL]
    | cons x l ih =>
      intro m h
      rw [tdpL]
      have h1 := h x (by simp)
      have h2 := ih m fun y hy => h y (by simp [hy])
      omega
  induction h with
  | nil => simp
  | @add T t h hn hf hk ih =>
    intro x hx
    rw [List.length_append, List.length_singleton]
    rcases List.mem_append.1 hx with hx | hx
    · have := ih x hx; omega
    · rw [List.mem_singleton.1 hx]
      have : tdpL t.kids ≤ T.length := key _ _ fun y hy => ih y (hk y hy)
      cases t
      rw [Tm.dp]
      simp only [Tm.kids] at this
      omega
theorem smallG_ret {N : List Nd} {a : AV} (h : GIs N a) : Out md pfs 15 [a] (fun v => ∃ b, v = .bool b ∧ (b = true → ∃ T, SmallG N T)) fun _ => False := by
  have hpa := gPure h
  obtain ⟨_, ⟨b, rfl, hb⟩, c10⟩ := (few_ret h).call rfl (by simp [pvs_cons, pvs_nil, hpa])
  obtain ⟨_, rfl, c13⟩ := (rcheck_ret h).call rfl (by simp [pvs_cons, pvs_nil, hpa])
  have hg := h
  obtain ⟨al, t, rfl, h1, h2, h3⟩ := h
  have hln := h3.len
  refine out_of pf15_is (Nat.le_of_ble_eq_true rfl) ?_
  cases b
  case false =>
    simp only [pf15, ↓wpre, wall, simprocAttr, c10]
    exact ⟨_, rfl, fun h => by cases h⟩
  cases hc : (checkN N != 0)
  case true =>
    simp only [pf15, ↓wpre, wall, simprocAttr, c10, c13, hc]
    exact ⟨_, rfl, fun h => by cases h⟩
  simp only [bne_eq_false_iff_eq] at hc
  have hfew := hb rfl
  obtain ⟨T, hG, rfl, hl⟩ := check_tab hc
  rw [nodes_len] at hln
  have h60 := hfew.len
  rw [nodes_len] at h60
  have hc' : (checkN (nodesOf T) != 0) = false := by simp [hc]
  simp only [pf15, ↓wpre, wall, simprocAttr, c10, c13, hc']
  refine W_loopE (fun j => al.length - j) (fun j E H V => H = [.cells false [.sl al t]] ∧ E 1 = .ptr 0 0 ∧ E 14 = .int al.length ∧ E 15 = .int (j : Nat) ∧ j ≤ al.length ∧ ∀ x ∈ T.take j, x.sz ≤ 400) ?_ 0 ⟨rfl, rfl, rfl, rfl, Nat.zero_le _, by simp⟩
  rintro j E H V ⟨rfl, e1, e14, e15, hj, hs⟩
  rcases Nat.lt_or_ge j al.length with hlt | hge
  · have hdec : decide ((j : Int) < al.length) = true := by simpa using hlt
    obtain ⟨x, hx⟩ : ∃ x, T[j]? = some x := ⟨T[j]'(by omega), List.getElem?_eq_getElem _⟩
    have hxm := List.mem_of_getElem? hx
    obtain ⟨_, hnm, _⟩ := good_at hG hx
    have hi : T.idxOf x = j := (idx_first hx fun y hy e => hnm (by rw [← e]; exact hy)).2
    have hd := good_dp hG.good x hxm
    obtain ⟨_, ⟨r, rfl, hr⟩, c40⟩ := (rSize_ret hG hg 400 (by omega) x hxm (by omega)).call rfl (by simp [pvs_cons, pvs_nil, hpa, pv_v])
    rw [hi, show ((400 : Nat) : Int) = 400 from rfl] at c40
    cases hd2 : decide ((r : Int) > 400)
    · simp only [↓wpre, wall, simprocAttr, e1, e14, e15, hdec, c40, hd2]
      simp only [decide_eq_false_iff_not] at hd2
      exact EQ_in ⟨j + 1, by omega, rfl, e1, e14, next_ixv (by unfold lenB; omega), by omega, take_next hx hs (by
        rcases Nat.lt_or_ge 400 x.sz with h | h
        · have := hr.gt h; omega
        · exact h)⟩
    · simp only [↓wpre, wall, simprocAttr, e1, e14, e15, hdec, c40, hd2]
      exact ⟨_, rfl, fun h => by cases h⟩
  · have hdec : decide ((j : Int) < al.length) = false := by simpa using hge
    rw [List.take_of_length_le (by omega)] at hs
    simp only [↓wpre, wall, simprocAttr, e1, e14, e15, hdec]
    exact ⟨_, rfl, fun _ => ⟨T, rfl, hG, hfew, hs⟩⟩
theorem GRes.eq {N M : List Nd} {i j e f : Int} {v : AV} (h : GRes N i e v) : ∃ al t, v = .tup [.agg [.sl al t], .int i, .int e] ∧ GIs N (.agg [.sl al t]) := by
  obtain ⟨ga, rfl, h1⟩ := h
  obtain ⟨al, t, rfl, h2⟩ := h1
  exact ⟨al, t, rfl, al, t, rfl, h2⟩
theorem AddR.eq {T : List Tm} {t : Tm} {v : AV} (h : AddR T t v) : ∃ (N : List Nd) (i e : Int), (∀ w, AddR T t w → GRes N i e w) ∧ GRes N i e v := by
  unfold AddR at h ⊢
  by_cases hr : t.allR = true
  · simp only [hr, if_true] at h ⊢; exact ⟨_, _, _, fun _ h => h, h⟩
  · simp only [hr, if_false] at h ⊢; exact ⟨_, _, _, fun _ h => h, h⟩
end Go.Proofs.Eng
namespace Go.Proofs.Eng
open Go Go.Proofs
set_option maxRecDepth 100000
set_option maxHeartbeats 16000000
theorem lift_sh {bi mi dm : Nat} {T : List Tm} {H : List AObj} {V : List Nat} {x z : Tm} {b fr : Int} (hB : BS bi mi false T H V) (hG : GT T) (hx : x ∈ T) (hz : T[0]? = some z) (hf0 : 0 ≤ fr) (hf1 : fr ≤ 4294967294) (hb0 : -65536 ≤ b) (hb1 : b ≤ 65536) (hdm : H[dm]? = some (.map [])) (hne : dm ≠ mi) (hd : x.dp ≤ 1000000) (hl : ((x.mv fr (lvar z b fr) 0).enter T).length ≤ 65536) :
    Sh md pfs 47 [.ptr bi 0, .int (T.idxOf x : Nat), .int b, .int fr, .mp dm] ⟨H, V⟩ (fun v s => v = .int (((x.mv fr (lvar z b fr) 0).enter T).idxOf (x.mv fr (lvar z b fr) 0) : Nat) ∧ ∃ H' V', s = ⟨H', V'⟩ ∧ BS bi mi (x.me fr (lbad b fr) 0) ((x.mv fr (lvar z b fr) 0).enter T) H' V' ∧ ∀ (k : Nat) (fz : Bool) (c : List AV), k ≠ bi → H[k]? = some (.cells fz c) → H'[k]? = some (.cells fz c)) fun _ _ => False := by
  obtain ⟨lb, lm⟩ := hB.bi_lt
  have ldm := lt_of_get hdm
  have hnb : dm ≠ bi := fun e => by subst e; obtain ⟨_, _, _, _, _, b1, _⟩ := hB; rw [b1] at hdm; cases hdm
  have hzr : ∀ y ∈ z.subs, y.right = true := fun y hy => hG.right y (hG.good.subs z (List.mem_of_getElem? hz) y hy)
  have hV := lift_ok (z := z) (b := b) (fr := fr) (bi := bi) (mi := mi) (dm := dm) (bb := H.length) (yb := H.length + 1) (fb := H.length + 2) (base := H.length + 3) hzr hf0 hf1 hb0 hb1 (by omega) (by omega) (by omega) (by omega) (by omega) (by omega) hnb hne
  have hM : MvP fr (lvar z b fr) (lbad b fr) bi mi dm (fun _ => False) (LJ z b fr bi H.length (H.length + 1) (H.length + 2)) false T (H ++ [.cells false [.ptr bi 0], .cells false [.int b], .cells false [.int fr]]) V [] :=
    ⟨hB.app _, hG, app_get_of hdm _, ⟨[], rfl, by simp⟩, by simp, by simp, by simp, hz⟩
  obtain ⟨_, _, ⟨rfl, H2, V2, es, rfl, hM2, hS⟩, c53⟩ := (moved_sh hV hf0 hf1 x (d := 0) hM hx (by simp) (by omega) hl).callRet rfl
  have g1 := hS.cells
  rw [show (((0 : Nat)) : Int) = 0 from rfl] at c53
  rw [Bool.false_or] at hM2
  refine sh_of pf47_is (Nat.le_of_ble_eq_true rfl) ?_
  simp only [pf47, ↓wpre, wall, simprocAttr, List.length_append, List.append_assoc, app_get_len, app_get_add, app_set_len, app_set_add, c53]
  exact ⟨_, _, rfl, hM2.bs, fun k fz c h1 h2 => g1 k fz c h1 (app_get_of h2 _)⟩
def MoveR (T : List Tm) (y : Tm) (e : Bool) (v : AV) : Prop := if e = true then GRes [] 0 24 v else GRes (nodesOf (y.enter T)) ((y.enter T).idxOf y : Nat) 0 v
theorem MoveR.eq {T : List Tm} {y : Tm} {e : Bool} {v : AV} (h : MoveR T y e v) : ∃ (N : List Nd) (i e' : Int), (∀ w, MoveR T y e w → GRes N i e' w) ∧ GRes N i e' v := by
  unfold MoveR at h ⊢
  by_cases hr : e = true
  · simp only [hr, if_true] at h ⊢; exact ⟨_, _, _, fun _ h => h, h⟩
  · simp only [hr] at h ⊢; exact ⟨_, _, _, fun _ h => h, h⟩
def LiftR (T : List Tm) (i b fr : Int) (v : AV) : Prop := ∃ bad : Bool, (bad = true ↔ i < 0 ∨ (T.length : Int) ≤ i ∨ fr < 0 ∨ b < -65536 ∨ 65536 < b) ∧ if bad = true then GRes [] 0 2 v else ∃ x z, T[i.toNat]? = some x ∧ T[0]? = some z ∧ MoveR T (x.mv (min fr 4294967294) (lvar z b (min fr 4294967294)) 0) (x.me (min fr 4294967294) (lbad b (min fr 4294967294)) 0) v
theorem LiftR.bad {T : List Tm} {i b fr : Int} (h : i < 0 ∨ (T.length : Int) ≤ i ∨ fr < 0 ∨ b < -65536 ∨ 65536 < b) : LiftR T i b fr (.tup [.agg [.sl [] .nil], .int 0, .int 2]) :=
  ⟨true, by simp [h], by rw [if_pos rfl]; exact ⟨_, rfl, [], .nil, rfl, rfl, Nat.zero_le _, trivial⟩⟩
theorem lvar_sz {z : Tm} {b fr : Int} (hz : z.sz ≤ 1) (i : Int) (d : Nat) : (lvar z b fr i d).sz ≤ 1 := by
  unfold lvar; split
  · exact hz
  · rw [vr_fv]; exact Nat.le_refl _
theorem zero_sz {T : List Tm} {z : Tm} (hG : GT T) (h : T[0]? = some z) : z.sz ≤ 1 := by
  obtain ⟨hk, _, _⟩ := good_at hG h
  cases z with
  | mk k i n ls kids =>
    simp only [Tm.kids, List.take_zero] at hk
    cases kids with
    | nil => simp [Tm.sz, tszL]
    | cons x l => exact absurd (hk x (by simp)) (by simp)
theorem Lift_ret {N : List Nd} {T : List Tm} (hS : SmallG N T) {g : AV} (hg : GIs N g) (i b fr : Int) : Out md pfs 21 [g, .int i, .int b, .int fr] (LiftR T i b fr) fun _ => False := by
  have hG := hS.good
  have hT := hS.len
  rw [hS.eq] at hg
  obtain ⟨al, tg, rfl, hg2⟩ := hg
  have hg : GIs (nodesOf T) (.agg [.sl al tg]) := ⟨al, tg, rfl, hg2⟩
  have hln := hg2.2.2.len
  rw [nodes_len] at hln
  refine out_of pf21_is (Nat.le_of_ble_eq_true rfl) ?_
  rcases Int.lt_or_le i 0 with h1 | h1
  · have d1 : decide (i < 0) = true := by simpa using h1
    simp only [pf21, ↓wpre, wall, simprocAttr, d1]
    exact .bad (by simp [h1])
  have d1 : decide (i < 0) = false := by simp only [decide_eq_false_iff_not]; omega
  rcases Int.lt_or_le i T.length with h2 | h2
  rotate_left
  · have d2 : decide (i ≥ al.length) = true := by simp only [decide_eq_true_eq]; omega
    simp only [pf21, ↓wpre, wall, simprocAttr, d1, d2]
    exact .bad (by simp [h2])
  have d2 : decide (i ≥ al.length) = false := by simp only [decide_eq_false_iff_not]; omega
  rcases Int.lt_or_le fr 0 with h3 | h3
  · have d3 : decide (fr < 0) = true := by simpa using h3
    simp only [pf21, ↓wpre, wall, simprocAttr, d1, d2, d3]
    exact .bad (by simp [h3])
  have d3 : decide (fr < 0) = false := by simp only [decide_eq_false_iff_not]; omega
  rcases Int.lt_or_le b (-65536) with h4 | h4
  · have d4 : decide (b < -65536) = true := by simpa using h4
    simp only [pf21, ↓wpre, wall, simprocAttr, d1, d2, d3, d4]
    exact .bad (by simp [h4])
  have d4 : decide (b < -65536) = false := by simp only [decide_eq_false_iff_not]; omega
  rcases Int.lt_or_le 65536 b with h5 | h5
  · have d5 : decide (b > 65536) = true := by simpa using h5
    simp only [pf21, ↓wpre, wall, simprocAttr, d1, d2, d3, d4, d5]
    exact .bad (by simp [h5])
  have d5 : decide (b > 65536) = false := by simp only [decide_eq_false_iff_not]; omega
  obtain ⟨x, hx⟩ : ∃ x, T[i.toNat]? = some x := ⟨T[i.toNat]'(by omega), List.getElem?_eq_getElem _⟩
  obtain ⟨z, hz⟩ : ∃ z, T[0]? = some z := ⟨T[0]'(by omega), List.getElem?_eq_getElem _⟩
  have hxT := List.mem_of_getElem? hx
  obtain ⟨_, hnm, _⟩ := good_at hG hx
  have hi : ((T.idxOf x : Nat) : Int) = i := by
    have := (idx_first hx fun y hy e => hnm (by rw [← e]; exact hy)).2
    omega
  have hdx := good_dp hG.good x hxT
  have hfr0 : 0 ≤ min fr 4294967294 := by omega
  have hfr1 : min fr 4294967294 ≤ 4294967294 := by omega
  generalize hfm : min fr 4294967294 = fm at *
  have hfm2 : (if (4294967294 : Int) < fr then 4294967294 else fr) = fm := by rw [← hfm]; split <;> omega
  have hsz := mv_sz (fr := fm) (lvar_sz (b := b) (fr := fm) (zero_sz hG hz)) x 0
  have hle := enter_len (x.mv fm (lvar z b fm) 0) T
  have hxs := hS.sz x hxT
  obtain ⟨_, _, ⟨bi, mi, H1, V1, rfl, rfl, hB, l4, l5, _, hk, _⟩, c42⟩ := (begin_rw hG (by omega) hg (H := [.cells false [.sl al tg], .cells false [.sl [] .nil]]) (V := [])).call rfl
  simp only [List.length_cons, List.length_nil] at l4 l5
  have k1 : H1[1]? = some (.cells false [.sl [] .nil]) := by rw [hk 1 (by simp)]; rfl
  obtain ⟨lb, lm⟩ := hB.bi_lt
  obtain ⟨_, _, ⟨rfl, H2, V2, rfl, hB2, hS2⟩, c47⟩ := (lift_sh (dm := H1.length) (hB.app [.map []]) hG hxT hz hfr0 hfr1 h4 h5 (by simp) (by omega) (by omega) (by omega)).callRet rfl
  rw [hi] at c47
  have k2 := hS2 1 false _ (by omega) (app_get_of k1 _)
  obtain ⟨v3, _, ⟨hv3, H3, V3, rfl, hk3⟩, c43⟩ := (result_sh hB2 (by omega) (((x.mv fm (lvar z b fm) 0).enter T).idxOf (x.mv fm (lvar z b fm) 0) : Nat)).callRet rfl
  have k3 := hk3.2 1 _ k2 fun fz ks h => by
    simp only [AObj.cells.injEq] at h
    have := h.2
    cases ks with
    | nil => simp [ints] at this
    | cons x l => simp [ints] at this
  have hbad : (false = true ↔ i < 0 ∨ (T.length : Int) ≤ i ∨ fr < 0 ∨ b < -65536 ∨ 65536 < b) := by
    simp only [Bool.false_eq_true, false_iff, not_or]; omega
  have hv3' : MoveR T (x.mv fm (lvar z b fm) 0) (x.me fm (lbad b fm) 0) v3 := hv3
  obtain ⟨M, j, e, hall, hga⟩ := hv3'.eq
  obtain ⟨ga, rfl, hga⟩ := hga
  have hpg := gPure hga
  obtain ⟨al3, t3, rfl, hga'⟩ := hga
  have hs3 : ∀ Y, (H3.set 1 Y)[1]? = some Y := fun Y => by rw [List.getElem?_set, if_pos rfl, if_pos (lt_of_get k3)]
  have hpsl : pureAV (.sl al3 t3) = true := by simpa [pv_agg, pvs_cons, pvs_nil] using hpg
  have hpp : ∀ (s : ASt), purify 1019 s (.agg [.sl al3 t3]) = some (.agg [.sl al3 t3]) := fun s => purify_pure hpg
  simp only [pf21, ↓wpre, wall, simprocAttr, d1, d2, d3, d4, d5, hfm2, c42, c47, c43, k3, hs3, hpp]
  exact ⟨false, hbad, by rw [if_neg (by simp)]; exact ⟨x, z, hx, hz, by rw [hfm]; exact hv3'⟩⟩
end Go.Proofs.Eng
namespace Go.Proofs.Eng
open Go Go.Proofs
set_option maxRecDepth 100000
set_option maxHeartbeats 16000000
theorem stripR_pure (n : Nat) (s : ASt) (t : Tl) : (t.stripR n s).pure = true := by
  cases t <;> simp only [Tl.stripR] <;> (try split) <;> rfl
theorem eqTm (x : Tm) : ∀ {a : AV}, x.Is a → eqAV a a = true := by
  induction x using Tm.ind with
  | h k i nm ls kids ih =>
  intro a h
  obtain ⟨t1, t2, las, kas, rfl, _, _, _, _, _, _, _, g8, g9⟩ := h.opn
  have e2 : eqAVs kas kas = true := eqL (R := fun _ a => eqAV a a = true) (fun _ _ h => h) (g9.mono fun x hx a h => ih x hx h)
  rw [eqAV, eqAVs, eqAVs, eqAVs, eqAVs, eqAVs, eqAVs, eqI, eqI, eqS, eqT _ _ (eqL (fun _ _ h => eqLv h) g8), eqT _ _ e2]; rfl
theorem tm_pz {m : Nat} {s : ASt} {k i : Int} {n : ByteArray} {las kas : List AV} {t1 t2 : Tl} (h1 : pureAV (.sl las t1) = true) (h2 : pureAVs kas = true) : purify (m + 3) s (.agg [.int k, .int i, .str n, .sl las t1, .sl kas t2]) = some (.agg [.int k, .int i, .str n, .sl las t1, .sl kas (t2.stripR (m + 1) s)]) := by
  rw [pz_agg]
  simp only [mapO, purify_pure (n := m + 1) pv_v, purify_pure (n := m + 1) h1, pz_sl, mapO_at h2, Option.map_some]
theorem unfold_ret {T : List Tm} (hG : GT T) {g : AV} (hg : GIs (nodesOf T) g) (x : Tm) : x ∈ T → Out md pfs 50 [g, .int (T.idxOf x : Nat)] (fun v => x.Is v) fun _ => False := by
  have hpg := gPure hg
  induction x using Tm.ind with
  | h k i nm ls kids ih =>
  intro hx
  obtain ⟨al, tg, rfl, h1, h2, h3⟩ := hg
  have hln := h3.len
  rw [nodes_len] at hln
  have hall := h3.all ndAgg
  have hk : ∀ y ∈ kids, y ∈ T := (hG.good.all _ hx).2
  have hlt0 := List.idxOf_lt_length_of_mem hx
  have hr0 := hG.right _ hx
  have hk3 : kids.length ≤ 3 := by
    have h1 := (right_facts hr0).1.kids
    simp only [Tm.k, Tm.kids] at h1
    have : kidsN k ≤ 3 := by unfold kidsN; repeat' split
                             all_goals omega
    omega
  obtain ⟨n, c, d0, d1, d3, d4, d5, d6, d7, d8⟩ := h3.get ndAgg (i := T.idxOf (.mk k i nm ls kids)) (by omega)
  have hnx : n = ndOf T (.mk k i nm ls kids) := by
    rw [nodesOf, List.getElem?_map, List.getElem?_eq_getElem hlt0, List.getElem_idxOf] at d0
    exact (Option.some.inj d0).symm
  subst hnx
  obtain ⟨t1, t2, las, hcc, b1, b2, b3, b4, b5, b6, b7, b8, b9⟩ := d8
  simp only [AV.agg.injEq] at hcc; subst hcc
  have hkl : (ndOf T (.mk k i nm ls kids)).kids.length = kids.length := by simp [ndOf, Tm.kids]
  have hkg : ∀ (j : Nat) (y : Tm), kids[j]? = some y → (ndOf T (.mk k i nm ls kids)).kids[j]? = some ((T.idxOf y : Nat) : Int) := fun j y hy => by simp [ndOf, Tm.kids, hy]
  have ek : (ndOf T (.mk k i nm ls kids)).k = k := rfl
  have ei : (ndOf T (.mk k i nm ls kids)).i = i := rfl
  have en : (ndOf T (.mk k i nm ls kids)).n = nm := rfl
  have el : (ndOf T (.mk k i nm ls kids)).ls = ls := rfl
  rw [ek, ei, en] at d4 d5
  rw [ek] at b3
  rw [ei] at b4
  rw [en] at b5
  rw [el] at b8
  generalize (ndOf T (.mk k i nm ls kids)).kids = ks at *
  have hia := ints_all ks
  have hpl : pureAV (.sl las t1) = true := by rw [pv_sl, b1, lvsPure b8]; rfl
  have d5' : List.take 5 [AV.int k, .int i, .str nm, .sl las t1, .sl (ints ks) t2] = [AV.int k, .int i, .str nm, .sl las t1, .sl (ints ks) t2] := rfl
  refine out_of pf50_is (Nat.le_of_ble_eq_true rfl) ?_
  simp only [pf50]
  refine seqE (fun E H V => H = [.cells false [.sl al tg], .cells false [.int 0, .int 0, .str ⟨#[]⟩, .sl [] .nil, .sl [] .nil]] ∧ E 1 = .int (T.idxOf (.mk k i nm ls kids) : Nat) ∧ E 2 = .ptr 0 0 ∧ E 4 = .ptr 1 0) ?_ ?_
  · simp only [↓wpre, wall, simprocAttr]; exact EQ_in ⟨rfl, rfl, rfl, rfl⟩
  rintro E _ V ⟨rfl, e1, e2, e4⟩
  refine seqE (fun E H V => H = [.cells false [.sl al tg], .cells false [.int 0, .int 0, .str ⟨#[]⟩, .sl [] .nil, .sl [] .nil], .cells false [.int k, .int i, .str nm, .sl las t1, .sl (ints ks) t2]] ∧ E 2 = .ptr 0 0 ∧ E 4 = .ptr 1 0 ∧ E 5 = .ptr 2 0) ?_ ?_
  · simp only [↓wpre, wall, simprocAttr, e1, e2, e4, d4, d5', hall]; exact EQ_in ⟨rfl, e2, e4, rfl⟩
  clear e1 e2 e4 E V
  rintro E _ V ⟨rfl, e2, e4, e5⟩
  refine seqE (fun E H V => H = [.cells false [.sl al tg], .cells false [.int 0, .int 0, .str ⟨#[]⟩, .sl [] .nil, .sl [] .nil], .cells false [.int k, .int i, .str nm, .sl las t1, .sl (ints ks) t2], .cells false [.int k, .int i, .str nm, .sl las t1, .sl [] .nil]] ∧ E 2 = .ptr 0 0 ∧ E 4 = .ptr 1 0 ∧ E 5 = .ptr 2 0 ∧ E 6 = .ptr 3 0) ?_ ?_
  · simp only [↓wpre, wall, simprocAttr, e2, e4, e5]; exact EQ_in ⟨rfl, e2, e4, e5, rfl⟩
  clear e2 e4 e5 E V
  rintro E _ V ⟨rfl, e2, e4, e5, e6⟩
  refine seqE (fun E H V => ∃ kas tk, H = [.cells false [.sl al tg], .cells false [.int 0, .int 0, .str ⟨#[]⟩, .sl [] .nil, .sl [] .nil], .cells false [.int k, .int i, .str nm, .sl las t1, .sl (ints ks) t2], .cells false [.int k, .int i, .str nm, .sl las t1, .sl kas tk]] ∧ E 4 = .ptr 1 0 ∧ E 6 = .ptr 3 0 ∧ LIs Tm.Is kids kas) ?_ ?_
  · refine seqE (fun E H V => H = [.cells false [.sl al tg], .cells false [.int 0, .int 0, .str ⟨#[]⟩, .sl [] .nil, .sl [] .nil], .cells false [.int k, .int i, .str nm, .sl las t1, .sl (ints ks) t2], .cells false [.int k, .int i, .str nm, .sl las t1, .sl [] .nil]] ∧ E 2 = .ptr 0 0 ∧ E 4 = .ptr 1 0 ∧ E 5 = .ptr 2 0 ∧ E 6 = .ptr 3 0 ∧ E 7 = .int (0 : Nat)) ?_ ?_
    · simp only [↓wpre, wall, simprocAttr]; exact EQ_in ⟨rfl, e2, e4, e5, e6, rfl⟩
    clear e2 e4 e5 e6 E V
    rintro E _ V ⟨rfl, e2, e4, e5, e6, e7⟩
    rw [W_block]
    refine W_loopE (fun j => ks.length - j) (fun j E H V => ∃ kas tk, H = [.cells false [.sl al tg], .cells false [.int 0, .int 0, .str ⟨#[]⟩, .sl [] .nil, .sl [] .nil], .cells false [.int k, .int i, .str nm, .sl las t1, .sl (ints ks) t2], .cells false [.int k, .int i, .str nm, .sl las t1, .sl kas tk]] ∧ E 2 = .ptr 0 0 ∧ E 4 = .ptr 1 0 ∧ E 5 = .ptr 2 0 ∧ E 6 = .ptr 3 0 ∧ E 7 = .int (j : Nat) ∧ j ≤ ks.length ∧ LIs Tm.Is (kids.take j) kas ∧ App V kas tk) ?_ 0 ⟨[], .nil, rfl, e2, e4, e5, e6, e7, Nat.zero_le _, by rw [List.take_zero]; trivial, app_start _⟩
    clear e2 e4 e5 e6 e7 E V
    rintro j E _ V ⟨kas, tk, rfl, e2, e4, e5, e6, e7, hj, hkas, hA⟩
    have hkn := hkas.len
    rw [List.length_take] at hkn
    rcases Nat.lt_or_ge j ks.length with hlt | hge
    · have hdec : decide ((j : Int) < ks.length) = true := by simpa using hlt
      obtain ⟨y, hy⟩ : ∃ y, kids[j]? = some y := ⟨kids[j]'(by omega), List.getElem?_eq_getElem _⟩
      obtain ⟨z, z0, z1, z2⟩ := ints_get hlt
      have hz : z = (T.idxOf y : Nat) := by
        have := hkg j y hy
        rw [this] at z0
        exact (Option.some.inj z0).symm
      subst hz
      have hym := List.mem_of_getElem? hy
      obtain ⟨v, hv, c50⟩ := (ih y hym (hk y hym)).call rfl (by simp [pvs_cons, pvs_nil, hpg, pv_v])
      obtain ⟨c, rfl, l1, l2, l3⟩ := tmCells hv
      obtain ⟨tk', V3, f1, f2, f3⟩ := app_many (es := 5) (xs := [.agg c]) hA (by show kas.length + 1 ≤ 1073741824; omega) (hkas.all tmAgg) (by simp only [List.all_cons, List.all_nil, Bool.and_true, cells_agg, l1, l3]; rfl)
      have hq : eqAV (.sl kas tk) (.sl kas tk) = true := eqT _ _ (eqL (fun x a h => eqTm x h) hkas)
      simp only [↓wpre, wall, simprocAttr, e2, e4, e5, e6, e7, hdec, z2, hia, c50, l1, l2, l3, f1, ints_len, hq]
      have e : kids.take (j + 1) = kids.take j ++ [y] := by rw [List.take_add_one, hy]; rfl
      exact EQ_in ⟨j + 1, by omega, _, tk', rfl, e2, e4, e5, e6, next_ixv (by unfold lenB at *; omega), by omega, by rw [e]; exact hkas.append (.one hv), f2⟩
    · have hdec : decide ((j : Int) < ks.length) = false := by simpa using hge
      rw [List.take_of_length_le (by omega)] at hkas
      simp only [↓wpre, wall, simprocAttr, e5, e7, hdec, ints_len]
      exact EQ_in ⟨kas, tk, rfl, e4, e6, hkas⟩
  clear e2 e4 e5 e6 E V
  rintro E _ V ⟨kas, tk, rfl, e4, e6, hkas⟩
  have hpk := tmsPure hkas
  have hkn := hkas.len
  have hpz := fun (m : Nat) (s : ASt) => tm_pz (m := m) (s := s) (k := k) (i := i) (n := nm) (t2 := tk) hpl hpk
  simp only [↓wpre, wall, simprocAttr, e4, e6]
  exact ⟨_, hpz 1017 _, Tm.Is.mk b1 (stripR_pure _ _ _) b3 b4 b5 b6 (by unfold lenB; omega) b8 hkas⟩
end Go.Proofs.Eng
namespace Go.Proofs.Eng
open Go Go.Proofs
set_option maxRecDepth 100000
set_option maxHeartbeats 16000000
theorem below_ret (k j : Int) : Out md pfs 91 [.int k, .int j] (· = .int (binderG k j)) fun _ => False := by
  by_cases j1 : j = 1
  · subst j1
    by_cases h5 : k = 5
    · subst h5; refine out_of pf91_is (Nat.le_of_ble_eq_true rfl) ?_; simp only [pf91, ↓wpre, wall, simprocAttr, show binderG 5 1 = 1 from by decide]
    by_cases h6 : k = 6
    · subst h6; refine out_of pf91_is (Nat.le_of_ble_eq_true rfl) ?_; simp only [pf91, ↓wpre, wall, simprocAttr, show binderG 6 1 = 1 from by decide]
    by_cases h7 : k = 7
    · subst h7; refine out_of pf91_is (Nat.le_of_ble_eq_true rfl) ?_; simp only [pf91, ↓wpre, wall, simprocAttr, show binderG 7 1 = 1 from by decide]
    have q5 : (k == 5) = false := by simpa using h5
    have q6 : (k == 6) = false := by simpa using h6
    have q7 : (k == 7) = false := by simpa using h7
    refine out_of pf91_is (Nat.le_of_ble_eq_true rfl) ?_; simp only [pf91, ↓wpre, wall, simprocAttr, q5, q6, q7]
    rw [binderG, if_neg (by omega)]
  by_cases j2 : j = 2
  · subst j2
    clear j1
    by_cases h11 : k = 11
    · subst h11; refine out_of pf91_is (Nat.le_of_ble_eq_true rfl) ?_; simp only [pf91, ↓wpre, wall, simprocAttr, show binderG 11 2 = 1 from by decide]
    have q11 : (k == 11) = false := by simpa using h11
    refine out_of pf91_is (Nat.le_of_ble_eq_true rfl) ?_; simp only [pf91, ↓wpre, wall, simprocAttr, q11]
    rw [binderG, if_neg (by omega)]
  have q1 : (j == 1) = false := by simpa using j1
  have q2 : (j == 2) = false := by simpa using j2
  refine out_of pf91_is (Nat.le_of_ble_eq_true rfl) ?_; simp only [pf91, ↓wpre, wall, simprocAttr, q1, q2]
  rw [binderG, if_neg (by omega)]
def wkc (e : Bool) (y : AV) : AObj := .cells false [.int (if e = true then 24 else 0), y]
structure SW (w : Nat) (H : List AObj) (V : List Nat) (H' : List AObj) (V' : List Nat) : Prop where
  le : H.length ≤ H'.length
  keep : ∀ (k : Nat), k < H.length → k ≠ w → H'[k]? = H[k]?
  vl : V.length ≤ V'.length
  vk : ∀ (i v : Nat), V[i]? = some v → V'[i]? = some v
theorem SW.refl (w : Nat) (H : List AObj) (V : List Nat) : SW w H V H V := ⟨Nat.le_refl _, fun _ _ _ => rfl, Nat.le_refl _, fun _ _ h => h⟩
theorem SW.trans {w : Nat} {A B C : List AObj} {V V' V'' : List Nat} (h : SW w A V B V') (k : SW w B V' C V'') : SW w A V C V'' :=
  ⟨Nat.le_trans h.le k.le, fun i h1 h2 => (k.keep i (Nat.lt_of_lt_of_le h1 h.le) h2).trans (h.keep i h1 h2), Nat.le_trans h.vl k.vl, fun i v e => k.vk i v (h.vk i v e)⟩
theorem SW.app (w : Nat) (H : List AObj) (V : List Nat) (G : List AObj) : SW w H V (H ++ G) V := ⟨by simp, fun k h _ => List.getElem?_append_left h, Nat.le_refl _, fun _ _ h => h⟩
theorem SW.set {w : Nat} {A B : List AObj} {V V' : List Nat} (h : SW w A V B V') {q : Nat} (hq : A.length ≤ q ∨ q = w) (o : AObj) : SW w A V (B.set q o) V' :=
  ⟨by rw [List.length_set]; exact h.le, fun k h1 h2 => by rw [List.getElem?_set, if_neg (by omega)]; exact h.keep k h1 h2, h.vl, h.vk⟩
theorem fail_sh {w : Nat} {e : Bool} {y : AV} {H : List AObj} {V : List Nat} (hw : H[w]? = some (wkc e y)) : Sh md pfs 89 [.ptr w 0, .int 24] ⟨H, V⟩ (fun _ s => ∃ H', s = ⟨H', V⟩ ∧ H'[w]? = some (wkc true y) ∧ SW w H V H' V) fun _ _ => False := by
  refine sh_of pf89_is (Nat.le_of_ble_eq_true rfl) ?_
  rw [wkc] at hw
  cases e
  · simp only [Bool.false_eq_true, if_false] at hw
    have q0 : ((0 : Int) == 0) = true := rfl
    simp only [pf89, ↓wpre, wall, simprocAttr, hw, q0]
    exact ⟨_, rfl, get_set hw, (SW.refl w H V).set (.inr rfl) _⟩
  · simp only [if_true] at hw
    have q0 : ((24 : Int) == 0) = false := rfl
    simp only [pf89, ↓wpre, wall, simprocAttr, hw, q0]
    exact ⟨_, rfl, hw, .refl _ _ _⟩
theorem rvar_sh {w : Nat} {e : Bool} {y : AV} {H : List AObj} {V : List Nat} (hw : H[w]? = some (wkc e y)) (i : Int) : Sh md pfs 90 [.ptr w 0, .int i] ⟨H, V⟩ (fun v s => v = .agg [.int 0, .int i, .str ⟨#[]⟩, .sl [] .nil, .sl [] .nil] ∧ ∃ H', s = ⟨H', V⟩ ∧ H'[w]? = some (wkc (e || decide (65535 < i)) y) ∧ SW w H V H' V) fun _ _ => False := by
  refine sh_of pf90_is (Nat.le_of_ble_eq_true rfl) ?_
  have hw1 := app_get_of hw [.cells false [.int 0, .int 0, .str ⟨#[]⟩, .sl [] .nil, .sl [] .nil]]
  have lw := lt_of_get hw
  rcases Int.lt_or_le 65535 i with h | h
  · have dA : decide (i > 65535) = true := by simpa using h
    have dB : decide (65535 < i) = true := by simpa using h
    rw [dB, Bool.or_true]
    obtain ⟨v, _, ⟨H', rfl, g1, g2⟩, c89⟩ := (fail_sh (V := V) hw1).callRet rfl
    have hz : H'[H.length]? = some (.cells false [.int 0, .int 0, .str ⟨#[]⟩, .sl [] .nil, .sl [] .nil]) := by rw [g2.keep _ (by simp) (by omega)]; simp
    simp only [pf90, ↓wpre, wall, simprocAttr, dA, c89, hz, get_set hz]
    exact ⟨_, rfl, by rw [List.getElem?_set, if_neg (by omega)]; exact g1, ((SW.app w H V _).trans g2).set (.inl (Nat.le_refl _)) _⟩
  · have dA : decide (i > 65535) = false := by simp only [decide_eq_false_iff_not]; omega
    have dB : decide (65535 < i) = false := by simp only [decide_eq_false_iff_not]; omega
    rw [dB, Bool.or_false]
    simp only [pf90, ↓wpre, wall, simprocAttr, List.length_append, List.append_assoc, app_get_len, app_get_add, app_set_len, app_set_add, dA]
    exact ⟨_, rfl, app_get_of hw _, .app _ _ _ _⟩
section
variable (b fr : Int)
mutual
def Tm.sh (d : Nat) : Tm → Tm
  | .mk k i n ls kids => if k = 0 then (if i < fr + d then .mk k i n ls kids else if i + b < fr + d then .mk k i n ls kids else vr (i + b)) else .mk k i n ls (shL d k 0 kids)
def shL (d : Nat) (k : Int) : Nat → List Tm → List Tm
  | _, [] => []
  | j, t :: l => t.sh (d + (binderG k j).toNat) :: shL d k (j + 1) l
end
mutual
def Tm.shE (d : Nat) : Tm → Bool
  | .mk k i _ _ kids => if k = 0 then !decide (i < fr + d) && lbad b fr i d else shEL d k 0 kids
def shEL (d : Nat) (k : Int) : Nat → List Tm → Bool
  | _, [] => false
  | j, t :: l => t.shE (d + (binderG k j).toNat) || shEL d k (j + 1) l
end
end
section
variable {b fr : Int}
theorem shL_snoc {d : Nat} {k : Int} {x : Tm} : ∀ {l : List Tm} {j : Nat}, shL b fr d k j (l ++ [x]) = shL b fr d k j l ++ [x.sh b fr (d + (binderG k (j + l.length : Nat)).toNat)]
  | [], j => by simp [shL]
  | y :: l, j => by
    rw [List.cons_append, shL, shL_snoc, shL, List.length_cons, show j + 1 + l.length = j + (l.length + 1) from by omega]; rfl
theorem shEL_snoc {d : Nat} {k : Int} {x : Tm} : ∀ {l : List Tm} {j : Nat}, shEL b fr d k j (l ++ [x]) = (shEL b fr d k j l || x.shE b fr (d + (binderG k (j + l.length : Nat)).toNat))
  | [], j => by simp [shEL]
  | y :: l, j => by
    rw [List.cons_append, shEL, shEL_snoc, shEL, List.length_cons, show j + 1 + l.length = j + (l.length + 1) from by omega, Bool.or_assoc]
theorem shL_take {d : Nat} {k : Int} {l : List Tm} {j : Nat} {x : Tm} (h : l[j]? = some x) : shL b fr d k 0 (l.take (j + 1)) = shL b fr d k 0 (l.take j) ++ [x.sh b fr (d + (binderG k j).toNat)] ∧ shEL b fr d k 0 (l.take (j + 1)) = (shEL b fr d k 0 (l.take j) || x.shE b fr (d + (binderG k j).toNat)) := by
  have hlt := (List.getElem?_eq_some_iff.1 h).1
  have e : l.take (j + 1) = l.take j ++ [x] := by rw [List.take_add_one, h]; rfl
  rw [e, shL_snoc, shEL_snoc, List.length_take, Nat.min_eq_left (by omega), Nat.zero_add]
  exact ⟨rfl, rfl⟩
end
theorem vrIs {i : Int} (h0 : 0 ≤ i) (h1 : i ≤ 4294967296) : (vr i).Is (.agg [.int 0, .int i, .str ⟨#[]⟩, .sl [] .nil, .sl [] .nil]) :=
  Tm.Is.mk rfl rfl (by unfold in64; omega) (by unfold in64; omega) (Nat.zero_le _) (Nat.zero_le _) (Nat.zero_le _) trivial trivial
theorem tm_frz {s : ASt} {las kas : List AV} {t1 t2 : Tl} {c : Prop} [Decidable c] (h1 : pureAVs las = true) (h2 : pureAVs kas = true) : (if c then s else frz 19 (frz 19 s (.sl las t1)) (.sl kas t2)) = s := by
  rw [fr_sl h1, fr_sl h2, ite_self]
def ShE (w : Nat) (b fr : Int) (d : Nat) (E : Env) : Prop := E 0 = .ptr w 0 ∧ E 2 = .int b ∧ E 3 = .int fr ∧ E 4 = .int (d : Nat)
theorem shift_sh {w : Nat} {y : AV} {b fr : Int} (hb0 : -65536 ≤ b) (hb1 : b ≤ 65536) (hf0 : 0 ≤ fr) (hf1 : fr ≤ 4294967294) (x : Tm) : ∀ {e : Bool} {H : List AObj} {V : List Nat} {a : AV} {d : Nat}, H[w]? = some (wkc e y) → x.Is a → (∀ z ∈ x.subs, z.right = true) → d + x.dp ≤ 1000000 →
    Sh md pfs 76 [.ptr w 0, a, .int b, .int fr, .int (d : Nat)] ⟨H, V⟩ (fun v s => (x.sh b fr d).Is v ∧ ∃ H' V', s = ⟨H', V'⟩ ∧ H'[w]? = some (wkc (e || x.shE b fr d) y) ∧ SW w H V H' V') fun _ _ => False := by
  induction x using Tm.ind with
  | h k i nm ls kids ih =>
  intro e H V a d hw hI hr hd
  have hI0 := hI
  have hpa := tmPure _ hI
  obtain ⟨t1, t2, las, kas, rfl, g1, g2, g3, g4, g5, g6, g7, g8, g9⟩ := hI.opn
  have hr0 : (Tm.mk k i nm ls kids).right = true := hr _ (subs_self _)
  have lw := lt_of_get hw
  have hkl := g9.len
  have hk3 : kids.length ≤ 3 := by
    have h1 := (right_facts hr0).1.kids
    simp only [Tm.k, Tm.kids] at h1
    have : kidsN k ≤ 3 := by unfold kidsN; repeat' split
                             all_goals omega
    omega
  have hl1 := lvsPure g8
  have hl2 := tmsPure g9
  have hpl : pureAV (.sl las t1) = true := by rw [pv_sl, g1, hl1]; rfl
  refine sh_of pf76_is (Nat.le_of_ble_eq_true rfl) ?_
  have hpp : ∀ s, purify 20 s (.agg [.int k, .int i, .str nm, .sl las t1, .sl kas t2]) = some (.agg [.int k, .int i, .str nm, .sl las t1, .sl kas t2]) := fun s => purify_pure hpa
  have hfp : ∀ s, frz 20 s (.agg [.int k, .int i, .str nm, .sl las t1, .sl kas t2]) = s := fun s => fr_pure hpa
  have hw1 := app_get_of hw [.cells false [.int k, .int i, .str nm, .sl las t1, .sl kas t2], .cells false [.int 0, .int 0, .str ⟨#[]⟩, .sl [] .nil, .sl [] .nil]]
  by_cases hk : k = 0
  · have q0 : (k == 0) = true := by simp [hk]
    have hi : 0 ≤ i ∧ i ≤ 2147483647 := by
      have := (formed_facts (n := ndOf [] (.mk k i nm ls kids)) (by rw [formed_ndOf]; exact hr0)).2.1
      exact this
    have w1 : IntKind.i64.wrap (fr + (d : Nat)) = fr + (d : Nat) := wrap_in (by unfold in64; omega)
    have w2 : IntKind.i64.wrap (i + b) = i + b := wrap_in (by unfold in64; omega)
    rw [Tm.sh, Tm.shE, if_pos hk, if_pos hk]
    rcases Int.lt_or_le i (fr + d) with h1 | h1
    · have d1 : decide (i < fr + (d : Nat)) = true := by simpa using h1
      rw [if_pos h1, d1, Bool.not_true, Bool.false_and, Bool.or_false]
      simp only [pf76, ↓wpre, wall, simprocAttr, List.length_append, List.append_assoc, app_get_len, app_get_add, app_set_len, app_set_add, q0, w1, w2, d1]
      exact ⟨_, hpp _, hI0, _, _, tm_frz hl1 hl2, app_get_of hw _, .app _ _ _ _⟩
    · have d1 : decide (i < fr + (d : Nat)) = false := by simp only [decide_eq_false_iff_not]; omega
      rcases Int.lt_or_le (i + b) (fr + d) with h2 | h2
      · have d2 : decide (i + b < fr + (d : Nat)) = true := by simpa using h2
        have hbad : lbad b fr i d = true := by rw [lbad, d2, Bool.true_or]
        rw [if_neg (by omega), if_pos h2, d1, hbad, Bool.not_false, Bool.true_and, Bool.or_true]
        obtain ⟨v, _, ⟨H', rfl, f1, f2⟩, c89⟩ := (fail_sh (V := V) hw1).callRet rfl
        have hx : H'[H.length]? = some (.cells false [.int k, .int i, .str nm, .sl las t1, .sl kas t2]) := by rw [f2.keep _ (by simp) (by omega)]; simp
        have hz : H'[H.length + 1]? = some (.cells false [.int 0, .int 0, .str ⟨#[]⟩, .sl [] .nil, .sl [] .nil]) := by rw [f2.keep _ (by simp) (by omega)]; simp
        simp only [pf76, ↓wpre, wall, simprocAttr, List.length_append, List.append_assoc, app_get_len, app_get_add, app_set_len, app_set_add, q0, w1, w2, d1, d2, c89, hx, hz, get_set hz]
        exact ⟨_, hpp _, hI0, _, _, tm_frz hl1 hl2, by rw [List.getElem?_set, if_neg (by omega)]; exact f1, ((SW.app w H V _).trans f2).set (.inl (by omega)) _⟩
      · have d2 : decide (i + b < fr + (d : Nat)) = false := by simp only [decide_eq_false_iff_not]; omega
        rw [if_neg (by omega), if_neg (by omega), d1, lbad, d2, Bool.not_false, Bool.true_and, Bool.false_or]
        obtain ⟨_, _, ⟨rfl, H', rfl, f1, f2⟩, c90⟩ := (rvar_sh (V := V) hw1 (i + b)).callRet rfl
        have hz : H'[H.length + 1]? = some (.cells false [.int 0, .int 0, .str ⟨#[]⟩, .sl [] .nil, .sl [] .nil]) := by rw [f2.keep _ (by simp) (by omega)]; simp
        simp only [pf76, ↓wpre, wall, simprocAttr, List.length_append, List.append_assoc, app_get_len, app_get_add, app_set_len, app_set_add, q0, w1, w2, d1, d2, c90, hz, get_set hz]
        exact ⟨vrIs (by omega) (by omega), _, _, rfl, by rw [List.getElem?_set, if_neg (by omega)]; exact f1, ((SW.app w H V _).trans f2).set (.inl (by omega)) _⟩
  · have q0 : (k == 0) = false := by simp [hk]
    rw [Tm.sh, Tm.shE, if_neg hk, if_neg hk]
    simp only [pf76]
    refine seqE (fun E H' V' => H' = H ++ [.cells false [.int k, .int i, .str nm, .sl las t1, .sl kas t2], .cells false [.int 0, .int 0, .str ⟨#[]⟩, .sl [] .nil, .sl [] .nil]] ∧ V = V' ∧ ShE w b fr d E ∧ E 6 = .ptr H.length 0 ∧ E 10 = .ptr (H.length + 1) 0) ?_ ?_
    · simp only [↓wpre, wall, simprocAttr, List.length_append, List.append_assoc, app_get_len, app_get_add, app_set_len, app_set_add]; exact EQ_in ⟨rfl, rfl, ⟨rfl, rfl, rfl, rfl⟩, rfl, rfl⟩
    rintro E _ _ ⟨rfl, rfl, ⟨e0, e2, e3, e4⟩, e6, e10⟩
    have hx0 : (H ++ [AObj.cells false [.int k, .int i, .str nm, .sl las t1, .sl kas t2], .cells false [.int 0, .int 0, .str ⟨#[]⟩, .sl [] .nil, .sl [] .nil]])[H.length]? = some (.cells false [.int k, .int i, .str nm, .sl las t1, .sl kas t2]) := by simp
    have hz0 : (H ++ [AObj.cells false [.int k, .int i, .str nm, .sl las t1, .sl kas t2], .cells false [.int 0, .int 0, .str ⟨#[]⟩, .sl [] .nil, .sl [] .nil]])[H.length + 1]? = some (.cells false [.int 0, .int 0, .str ⟨#[]⟩, .sl [] .nil, .sl [] .nil]) := by simp
    have hS0 : SW w H V (H ++ [AObj.cells false [.int k, .int i, .str nm, .sl las t1, .sl kas t2], .cells false [.int 0, .int 0, .str ⟨#[]⟩, .sl [] .nil, .sl [] .nil]]) V := .app _ _ _ _
    generalize H ++ [AObj.cells false [.int k, .int i, .str nm, .sl las t1, .sl kas t2], .cells false [.int 0, .int 0, .str ⟨#[]⟩, .sl [] .nil, .sl [] .nil]] = H1 at *
    refine seqE (fun E H' V' => H1 = H' ∧ V = V' ∧ ShE w b fr d E ∧ E 6 = .ptr H.length 0 ∧ E 10 = .ptr (H.length + 1) 0) ?_ ?_
    · simp only [↓wpre, wall, simprocAttr, e6, hx0, q0]; exact EQ_in ⟨rfl, rfl, ⟨e0, e2, e3, e4⟩, e6, e10⟩
    clear e0 e2 e3 e4 e6 e10 E
    rintro E _ _ ⟨rfl, rfl, ⟨e0, e2, e3, e4⟩, e6, e10⟩
    refine seqE (fun E H' V' => H1 = H' ∧ V = V' ∧ ShE w b fr d E ∧ E 6 = .ptr H.length 0 ∧ E 10 = .ptr (H.length + 1) 0 ∧ E 11 = .sl [] .nil) ?_ ?_
    · simp only [↓wpre, wall, simprocAttr]; exact EQ_in ⟨rfl, rfl, ⟨e0, e2, e3, e4⟩, e6, e10, rfl⟩
    clear e0 e2 e3 e4 e6 e10 E
    rintro E _ _ ⟨rfl, rfl, ⟨e0, e2, e3, e4⟩, e6, e10, e11⟩
    refine seqE (fun E H' V' => ∃ ks tk, H'[w]? = some (wkc (e || shEL b fr d k 0 kids) y) ∧ SW w H V H' V' ∧ H'[H.length]? = some (.cells false [.int k, .int i, .str nm, .sl las t1, .sl kas t2]) ∧ H'[H.length + 1]? = some (.cells false [.int 0, .int 0, .str ⟨#[]⟩, .sl [] .nil, .sl [] .nil]) ∧ E 6 = .ptr H.length 0 ∧ E 10 = .ptr (H.length + 1) 0 ∧ E 11 = .sl ks tk ∧ LIs Tm.Is (shL b fr d k 0 kids) ks ∧ ks.length ≤ lenB) ?_ ?_
    · refine seqE (fun E H' V' => H1 = H' ∧ V = V' ∧ ShE w b fr d E ∧ E 6 = .ptr H.length 0 ∧ E 10 = .ptr (H.length + 1) 0 ∧ E 11 = .sl [] .nil ∧ E 12 = .int (0 : Nat)) ?_ ?_
      · simp only [↓wpre, wall, simprocAttr]; exact EQ_in ⟨rfl, rfl, ⟨e0, e2, e3, e4⟩, e6, e10, e11, rfl⟩
      clear e0 e2 e3 e4 e6 e10 e11 E
      rintro E _ _ ⟨rfl, rfl, ⟨e0, e2, e3, e4⟩, e6, e10, e11, e12⟩
      rw [W_block]
      refine W_loopE (fun j => kas.length - j) (fun j E H' V' => ∃ ks tk, H'[w]? = some (wkc (e || shEL b fr d k 0 (kids.take j)) y) ∧ SW w H V H' V' ∧ H'[H.length]? = some (.cells false [.int k, .int i, .str nm, .sl las t1, .sl kas t2]) ∧ H'[H.length + 1]? = some (.cells false [.int 0, .int 0, .str ⟨#[]⟩, .sl [] .nil, .sl [] .nil]) ∧ ShE w b fr d E ∧ E 6 = .ptr H.length 0 ∧ E 10 = .ptr (H.length + 1) 0 ∧ E 11 = .sl ks tk ∧ E 12 = .int (j : Nat) ∧ j ≤ kas.length ∧ LIs Tm.Is (shL b fr d k 0 (kids.take j)) ks ∧ ks.length = j ∧ App V' ks tk ∧ ∀ (i v : Nat), tk = .tl i v → V.length ≤ i) ?_ 0 ⟨[], .nil, ?_, hS0, hx0, hz0, ⟨e0, e2, e3, e4⟩, e6, e10, e11, e12, Nat.zero_le _, by rw [List.take_zero, shL]; trivial, rfl, app_start _, fun i v h => by cases h⟩
      rotate_left
      · rw [List.take_zero, shEL, Bool.or_false]; exact hw1
      clear e0 e2 e3 e4 e6 e10 e11 e12 E
      rintro j E H3 V3 ⟨ks, tk, hw3, hS3, hx3, hz3, ⟨e0, e2, e3, e4⟩, e6, e10, e11, e12, hj, hks, hkn, hA, ho⟩
      rcases Nat.lt_or_ge j kas.length with hlt | hge
      · have hdec : decide ((j : Int) < kas.length) = true := by simpa using hlt
        obtain ⟨x, c, d0, d1, d3, d4, d5, d6, d7, d8⟩ := g9.get tmAgg hlt
        have hall := g9.all tmAgg
        obtain ⟨_, rfl, c91⟩ := (below_ret k j).call rfl (by simp [pvs_cons, pvs_nil, pv_v])
        have hb01 := binder_01 k j
        have hdp : d + (binderG k j).toNat + x.dp ≤ 1000000 := by
          have h1 := (tdp_split d0).2
          rw [Tm.dp] at hd
          omega
        have w61 : IntKind.i64.wrap ((d : Nat) + binderG k j) = ((d + (binderG k j).toNat : Nat) : Int) := by rw [wrap_in (by unfold in64; omega)]; omega
        obtain ⟨v, _, ⟨hv, H4, V4, rfl, hw4, hS4⟩, c76⟩ := (ih x d3 (V := V3) hw3 d8 (fun z hz => hr z (by rw [Tm.subs]; exact List.mem_cons_of_mem _ (mem_subsL.2 ⟨x, d3, hz⟩))) hdp).callRet rfl
        obtain ⟨cv, rfl, l1, l2, l3⟩ := tmCells hv
        have lx3 := lt_of_get hz3
        have hx4 : H4[H.length]? = some (.cells false [.int k, .int i, .str nm, .sl las t1, .sl kas t2]) := by rw [hS4.keep H.length (by omega) (by omega)]; exact hx3
        have hz4 : H4[H.length + 1]? = some (.cells false [.int 0, .int 0, .str ⟨#[]⟩, .sl [] .nil, .sl [] .nil]) := by rw [hS4.keep (H.length + 1) (by omega) (by omega)]; exact hz3
        have hA4 : App V4 ks tk := by
          rcases hA with h | ⟨h, i, v, h2, h3⟩
          · exact .inl h
          · exact .inr ⟨h, i, v, h2, hS4.vk i v h3⟩
        obtain ⟨tk', V5, f1, f2, f3⟩ := app_many (es := 5) (xs := [.agg cv]) hA4 (by show ks.length + 1 ≤ 1073741824; omega) (hks.all tmAgg) (by simp only [List.all_cons, List.all_nil, Bool.and_true, cells_agg, l1, l3]; rfl)
        have hq : eqAV (.sl ks tk) (.sl ks tk) = true := eqT _ _ (eqL (fun x a h => eqTm x h) hks)
        obtain ⟨s1, s2⟩ := shL_take (b := b) (fr := fr) (d := d) (k := k) d0
        simp only [↓wpre, wall, simprocAttr, e0, e2, e3, e4, e6, e11, e12, hdec, hx3, d4, d5, d6, d7, hall, c91, w61, c76, l1, l2, l3, f1, hq, kz_call, JW_f, JW_t]
        rw [Bool.or_assoc, ← s2] at hw4
        have hS4' := hS3.trans hS4
        refine EQ_in ⟨j + 1, by omega, _, tk', hw4, ⟨hS4'.le, hS4'.keep, Nat.le_trans hS4'.vl f3.1, fun i v h1 => f3.2.1 i v (hS4'.vk i v h1) fun ver h2 => ?_⟩, hx4, hz4, ⟨e0, e2, e3, e4⟩, e6, e10, rfl, next_ixv (by omega), by omega, by rw [s1]; exact hks.append (.one hv), by simp [hkn], f2, fun i v h1 => ?_⟩
        · have := (List.getElem?_eq_some_iff.1 h1).1
          have := ho i ver h2
          omega
        · rcases f3.2.2 i v h1 with ⟨v0, h⟩ | h
          · exact ho i v0 h
          · exact Nat.le_trans hS4'.vl h
      · have hdec : decide ((j : Int) < kas.length) = false := by simpa using hge
        rw [List.take_of_length_le (by omega)] at hw3 hks
        simp only [↓wpre, wall, simprocAttr, e6, e12, hx3, hdec]
        exact EQ_in ⟨ks, tk, hw3, hS3, hx3, hz3, e6, e10, e11, hks, by omega⟩
    clear e0 e2 e3 e4 e6 e10 e11 E
    rintro E H3 V3 ⟨ks, tk, hw3, hS3, hx3, hz3, e6, e10, e11, hks, hkn⟩
    have lx3 := lt_of_get hz3
    have hpk := tmsPure hks
    have hpz := fun (s : ASt) => tm_pz (m := 17) (s := s) (k := k) (i := i) (n := nm) (t2 := tk) hpl hpk
    have hz4 : ∀ Y, (H3.set H.length Y)[H.length + 1]? = some (.cells false [.int 0, .int 0, .str ⟨#[]⟩, .sl [] .nil, .sl [] .nil]) := fun Y => by rw [List.getElem?_set, if_neg (by omega)]; exact hz3
    simp only [↓wpre, wall, simprocAttr, e6, e10, e11, hx3, get_set hx3, hz4, get_set (hz4 _)]
    exact ⟨_, hpz _, Tm.Is.mk g1 (stripR_pure _ _ _) g3 g4 g5 g6 hkn g8 hks, _, _, tm_frz hl1 hpk, by rw [List.getElem?_set, if_neg (by omega), List.getElem?_set, if_neg (by omega)]; exact hw3, (hS3.set (.inl (by omega)) _).set (.inl (by omega)) _⟩
end Go.Proofs.Eng
namespace Go.Proofs.Eng
section
variable {b fr : Int}
theorem sh_skip (x : Tm) : ∀ {d : Nat}, (x.fv : Int) ≤ fr + d → x.shE b fr d = false ∧ x.sh b fr d = x := by
  induction x using Tm.ind with
  | h k i n ls kids ih =>
  intro d hd
  rw [fv_mk] at hd
  rw [Tm.shE, Tm.sh]
  by_cases hk : k = 0
  · have h1 := fvF_acc (k := k) (l := kids.map Tm.fv) (a := fv0 k i) (j := 0)
    rw [fv0, if_pos hk] at h1
    have h2 : i < fr + d := by
      rw [fv0, if_pos hk] at hd
      omega
    rw [if_pos hk, if_pos hk, if_pos h2]
    simp [h2]
  · rw [if_neg hk, if_neg hk]
    have key : ∀ (l : List Tm) (j : Nat), (∀ x ∈ l, x ∈ kids) → (∀ (m : Nat) (y : Tm), l[m]? = some y → (y.fv : Int) ≤ fr + (d + (binderG k (j + m : Nat)).toNat : Nat)) → shEL b fr d k j l = false ∧ shL b fr d k j l = l := by
      intro l
      induction l with
      | nil => intro j _ _; exact ⟨by rw [shEL], by rw [shL]⟩
      | cons y l ihl =>
        intro j h1 h2
        obtain ⟨a1, a2⟩ := ih y (h1 y (by simp)) (d := d + (binderG k j).toNat) (by have := h2 0 y rfl; simpa using this)
        obtain ⟨b1, b2⟩ := ihl (j + 1) (fun x hx => h1 x (by simp [hx])) fun m z hz => by
          have := h2 (m + 1) z (by simpa using hz)
          rw [show j + (m + 1) = j + 1 + m from by omega] at this
          exact this
        exact ⟨by rw [shEL, a1, b1]; rfl, by rw [shL, a2, b2]⟩
    obtain ⟨c1, c2⟩ := key kids 0 (fun _ h => h) fun m y hy => by
      have h1 := fvF_kid (k := k) (x := y.fv) (l := kids.map Tm.fv) (a := fv0 k i) (j := 0) (i := m) (by simp [hy])
      have h2 := binder_01 k ((0 + m : Nat) : Int)
      omega
    rw [c1, c2]
    exact ⟨rfl, rfl⟩
theorem mv_sh {z : Tm} (x : Tm) : ∀ {d : Nat}, (∀ y ∈ x.subs, y.right = true) → x.me fr (lbad b fr) d = x.shE b fr d ∧ (x.me fr (lbad b fr) d = false → x.mv fr (lvar z b fr) d = x.sh b fr d) := by
  induction x using Tm.ind with
  | h k i n ls kids ih =>
  intro d hr
  by_cases hs : ((Tm.mk k i n ls kids).fv : Int) ≤ fr + d
  · obtain ⟨a1, a2⟩ := sh_skip (b := b) _ hs
    rw [Tm.me, Tm.mv, if_pos hs, if_pos hs, a1, a2]
    exact ⟨rfl, fun _ => rfl⟩
  rw [Tm.me, Tm.mv, if_neg hs, if_neg hs, Tm.shE, Tm.sh]
  by_cases hk : k = 0
  · have hr0 := hr _ (subs_self _)
    have hkd : kids = [] := by
      have h1 := (right_facts hr0).1.kids
      simp only [Tm.k, Tm.kids] at h1
      rw [hk, show kidsN 0 = 0 from by decide] at h1
      exact List.length_eq_zero_iff.1 (by omega)
    rw [fv_mk, hkd] at hs
    simp only [List.map_nil, fvF] at hs
    rw [fv0, if_pos hk] at hs
    have hi0 : 0 ≤ i := by
      have := (formed_facts (n := ndOf [] (.mk k i n ls kids)) (by rw [formed_ndOf]; exact hr0)).2.1
      exact this.1
    have h2 : ¬ i < fr + d := by omega
    rw [if_pos hk, if_pos hk, if_pos hk, if_pos hk, if_neg h2, decide_eq_false h2, Bool.not_false, Bool.true_and]
    refine ⟨rfl, fun h => ?_⟩
    have h3 : ¬ i + b < fr + d := by
      simp only [lbad, Bool.or_eq_false_iff, decide_eq_false_iff_not] at h
      exact h.1
    rw [if_neg h3, lvar, h]; rfl
  · rw [if_neg hk, if_neg hk, if_neg hk, if_neg hk]
    have key : ∀ (l : List Tm) (j : Nat), (∀ x ∈ l, x ∈ kids) → meL fr (lbad b fr) d k j l = shEL b fr d k j l ∧ (meL fr (lbad b fr) d k j l = false → mvL fr (lvar z b fr) d k j l = shL b fr d k j l) := by
      intro l
      induction l with
      | nil => intro j _; exact ⟨by rw [meL, shEL], fun _ => by rw [mvL, shL]⟩
      | cons y l ihl =>
        intro j h1
        obtain ⟨a1, a2⟩ := ih y (h1 y (by simp)) (d := d + (binderG k j).toNat) fun w hw => hr w (by rw [Tm.subs]; exact List.mem_cons_of_mem _ (mem_subsL.2 ⟨y, h1 y (by simp), hw⟩))
        obtain ⟨b1, b2⟩ := ihl (j + 1) fun x hx => h1 x (by simp [hx])
        rw [meL, shEL, mvL, shL, a1, b1]
        refine ⟨rfl, fun h => ?_⟩
        rw [Bool.or_eq_false_iff] at h
        rw [a2 (by rw [a1]; exact h.1), b2 (by rw [b1]; exact h.2)]
    obtain ⟨c1, c2⟩ := key kids 0 fun _ h => h
    exact ⟨c1, fun h => by rw [c2 h]⟩
end
end Go.Proofs.Eng
