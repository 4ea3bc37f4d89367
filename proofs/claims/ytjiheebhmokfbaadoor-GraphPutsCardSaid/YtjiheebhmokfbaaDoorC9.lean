/- The builder: a node whose variables are replaced. No conditions beyond those in the theorems. -/
import Derived.Test.YtjiheebhmokfbaaDoorC7
import Derived.Test.YtjiheebhmokfbaaDoorT11
import Derived.Test.YtjiheebhmokfbaaDoorT15
set_option linter.all false
set_option linter.deprecated false
set_option linter.unnecessarySimpa false
set_option linter.unusedVariables false
set_option linter.unusedSimpArgs false
set_option linter.defProp false
namespace Go.Proofs.Eng
open Go Go.Proofs
set_option maxRecDepth 100000
set_option maxHeartbeats 16000000
theorem stripR_pure (n : Nat) (s : ASt) (t : Tl) : (t.stripR n s).pure = true := by
 cases t <;> simp only [Tl.stripR] <;> (try split) <;> rfl
theorem eqTm (x : Tm) : ∀ {a : AV}, x.Is a → eqAV a a = true := by
 induction x using Tm.ind with
 | h k i nm ls kids ih =>
 intro a h
 obtain ⟨t1, t2, las, kas, rfl, _, _, _, _, _, _, _, g8, g9⟩ := h.opn
 have e2 : eqAVs kas kas = true := eqL (R := fun _ a => eqAV a a = true) (fun _ _ h => h) (g9.mono fun x hx a h => ih x hx h)
 rw [eqAV, eqAVs, eqAVs, eqAVs, eqAVs, eqAVs, eqAVs, eqI, eqI, eqS, eqT _ _ (eqL (fun _ _ h => eqLv h) g8), eqT _ _ e2]; rfl
theorem tm_pz {m : Nat} {s : ASt} {k i : Int} {n : ByteArray} {las kas : List AV} {t1 t2 : Tl} (h1 : pureAV (.sl las t1) = true) (h2 : pureAVs kas = true) : purify (m + 3) s (.agg [.int k, .int i, .str n, .sl las t1, .sl kas t2]) = some (.agg [.int k, .int i, .str n, .sl las t1, .sl kas (t2.stripR (m + 1) s)]) := by
 rw [pz_agg]
 simp only [mapO, purify_pure (n := m + 1) pv_v, purify_pure (n := m + 1) h1, pz_sl, mapO_at h2, Option.map_some]
theorem unfold_ret {T : List Tm} (hG : GT T) {g : AV} (hg : GIs (nodesOf T) g) (x : Tm) : x ∈ T → Out md pfs 50 [g, .int (T.idxOf x : Nat)] (fun v => x.Is v) fun _ => False := by
  have hpg := gPure hg
  induction x using Tm.ind with
  | h k i nm ls kids ih =>
  intro hx
  obtain ⟨al, tg, rfl, h1, h2, h3⟩ := hg
  have hln := h3.len
  rw [nodes_len] at hln
  have hall := h3.all ndAgg
  have hk : ∀ y ∈ kids, y ∈ T := (hG.good.all _ hx).2
  have hlt0 := List.idxOf_lt_length_of_mem hx
  have hr0 := hG.right _ hx
  have hk3 : kids.length ≤ 3 := by
    have h1 := (right_facts hr0).1.kids
    simp only [Tm.k, Tm.kids] at h1
    have : kidsN k ≤ 3 := by unfold kidsN; repeat' split
                             all_goals omega
    omega
  obtain ⟨n, c, d0, d1, d3, d4, d5, d6, d7, d8⟩ := h3.get ndAgg (i := T.idxOf (.mk k i nm ls kids)) (by omega)
  have hnx : n = ndOf T (.mk k i nm ls kids) := by
    rw [nodesOf, List.getElem?_map, List.getElem?_eq_getElem hlt0, List.getElem_idxOf] at d0
    exact (Option.some.inj d0).symm
  subst hnx
  obtain ⟨t1, t2, las, hcc, b1, b2, b3, b4, b5, b6, b7, b8, b9⟩ := d8
  simp only [AV.agg.injEq] at hcc; subst hcc
  have hkl : (ndOf T (.mk k i nm ls kids)).kids.length = kids.length := by simp [ndOf, Tm.kids]
  have hkg : ∀ (j : Nat) (y : Tm), kids[j]? = some y → (ndOf T (.mk k i nm ls kids)).kids[j]? = some ((T.idxOf y : Nat) : Int) := fun j y hy => by simp [ndOf, Tm.kids, hy]
  have ek : (ndOf T (.mk k i nm ls kids)).k = k := rfl
  have ei : (ndOf T (.mk k i nm ls kids)).i = i := rfl
  have en : (ndOf T (.mk k i nm ls kids)).n = nm := rfl
  have el : (ndOf T (.mk k i nm ls kids)).ls = ls := rfl
  rw [ek, ei, en] at d4 d5
  rw [ek] at b3
  rw [ei] at b4
  rw [en] at b5
  rw [el] at b8
  generalize (ndOf T (.mk k i nm ls kids)).kids = ks at *
  have hia := ints_all ks
  have hpl : pureAV (.sl las t1) = true := by rw [pv_sl, b1, lvsPure b8]; rfl
  have d5' : List.take 5 [AV.int k, .int i, .str nm, .sl las t1, .sl (ints ks) t2] = [AV.int k, .int i, .str nm, .sl las t1, .sl (ints ks) t2] := rfl
  refine out_of pf50_is (Nat.le_of_ble_eq_true rfl) ?_
  simp only [pf50]
  refine seqE (fun E H V => H = [.cells false [.sl al tg], .cells false [.int 0, .int 0, .str ⟨#[]⟩, .sl [] .nil, .sl [] .nil]] ∧ E 1 = .int (T.idxOf (.mk k i nm ls kids) : Nat) ∧ E 2 = .ptr 0 0 ∧ E 4 = .ptr 1 0) ?_ ?_
  · simp only [↓wpre, wall, simprocAttr]; exact EQ_in ⟨rfl, rfl, rfl, rfl⟩
  rintro E _ V ⟨rfl, e1, e2, e4⟩
  refine seqE (fun E H V => H = [.cells false [.sl al tg], .cells false [.int 0, .int 0, .str ⟨#[]⟩, .sl [] .nil, .sl [] .nil], .cells false [.int k, .int i, .str nm, .sl las t1, .sl (ints ks) t2]] ∧ E 2 = .ptr 0 0 ∧ E 4 = .ptr 1 0 ∧ E 5 = .ptr 2 0) ?_ ?_
  · simp only [↓wpre, wall, simprocAttr, e1, e2, e4, d4, d5', hall]; exact EQ_in ⟨rfl, e2, e4, rfl⟩
  clear e1 e2 e4 E V
  rintro E _ V ⟨rfl, e2, e4, e5⟩
  refine seqE (fun E H V => H = [.cells false [.sl al tg], .cells false [.int 0, .int 0, .str ⟨#[]⟩, .sl [] .nil, .sl [] .nil], .cells false [.int k, .int i, .str nm, .sl las t1, .sl (ints ks) t2], .cells false [.int k, .int i, .str nm, .sl las t1, .sl [] .nil]] ∧ E 2 = .ptr 0 0 ∧ E 4 = .ptr 1 0 ∧ E 5 = .ptr 2 0 ∧ E 6 = .ptr 3 0) ?_ ?_
  · simp only [↓wpre, wall, simprocAttr, e2, e4, e5]; exact EQ_in ⟨rfl, e2, e4, e5, rfl⟩
  clear e2 e4 e5 E V
  rintro E _ V ⟨rfl, e2, e4, e5, e6⟩
  refine seqE (fun E H V => ∃ kas tk, H = [.cells false [.sl al tg], .cells false [.int 0, .int 0, .str ⟨#[]⟩, .sl [] .nil, .sl [] .nil], .cells false [.int k, .int i, .str nm, .sl las t1, .sl (ints ks) t2], .cells false [.int k, .int i, .str nm, .sl las t1, .sl kas tk]] ∧ E 4 = .ptr 1 0 ∧ E 6 = .ptr 3 0 ∧ LIs Tm.Is kids kas) ?_ ?_
  · refine seqE (fun E H V => H = [.cells false [.sl al tg], .cells false [.int 0, .int 0, .str ⟨#[]⟩, .sl [] .nil, .sl [] .nil], .cells false [.int k, .int i, .str nm, .sl las t1, .sl (ints ks) t2], .cells false [.int k, .int i, .str nm, .sl las t1, .sl [] .nil]] ∧ E 2 = .ptr 0 0 ∧ E 4 = .ptr 1 0 ∧ E 5 = .ptr 2 0 ∧ E 6 = .ptr 3 0 ∧ E 7 = .int (0 : Nat)) ?_ ?_
    · simp only [↓wpre, wall, simprocAttr]; exact EQ_in ⟨rfl, e2, e4, e5, e6, rfl⟩
    clear e2 e4 e5 e6 E V
    rintro E _ V ⟨rfl, e2, e4, e5, e6, e7⟩
    rw [W_block]
    refine W_loopE (fun j => ks.length - j) (fun j E H V => ∃ kas tk, H = [.cells false [.sl al tg], .cells false [.int 0, .int 0, .str ⟨#[]⟩, .sl [] .nil, .sl [] .nil], .cells false [.int k, .int i, .str nm, .sl las t1, .sl (ints ks) t2], .cells false [.int k, .int i, .str nm, .sl las t1, .sl kas tk]] ∧ E 2 = .ptr 0 0 ∧ E 4 = .ptr 1 0 ∧ E 5 = .ptr 2 0 ∧ E 6 = .ptr 3 0 ∧ E 7 = .int (j : Nat) ∧ j ≤ ks.length ∧ LIs Tm.Is (kids.take j) kas ∧ App V kas tk) ?_ 0 ⟨[], .nil, rfl, e2, e4, e5, e6, e7, Nat.zero_le _, by rw [List.take_zero]; trivial, app_start _⟩
    clear e2 e4 e5 e6 e7 E V
    rintro j E _ V ⟨kas, tk, rfl, e2, e4, e5, e6, e7, hj, hkas, hA⟩
    have hkn := hkas.len
    rw [List.length_take] at hkn
    rcases Nat.lt_or_ge j ks.length with hlt | hge
    · have hdec : decide ((j : Int) < ks.length) = true := by simpa using hlt
      obtain ⟨y, hy⟩ : ∃ y, kids[j]? = some y := ⟨kids[j]'(by omega), List.getElem?_eq_getElem _⟩
      obtain ⟨z, z0, z1, z2⟩ := ints_get hlt
      have hz : z = (T.idxOf y : Nat) := by
        have := hkg j y hy
        rw [this] at z0
        exact (Option.some.inj z0).symm
      subst hz
      have hym := List.mem_of_getElem? hy
      obtain ⟨v, hv, c50⟩ := (ih y hym (hk y hym)).call rfl (by simp [pvs_cons, pvs_nil, hpg, pv_v])
      obtain ⟨c, rfl, l1, l2, l3⟩ := tmCells hv
      obtain ⟨tk', V3, f1, f2, f3⟩ := app_many (es := 5) (xs := [.agg c]) hA (by show kas.length + 1 ≤ 1073741824; omega) (hkas.all tmAgg) (by simp only [List.all_cons, List.all_nil, Bool.and_true, cells_agg, l1, l3]; rfl)
      have hq : eqAV (.sl kas tk) (.sl kas tk) = true := eqT _ _ (eqL (fun x a h => eqTm x h) hkas)
      simp only [↓wpre, wall, simprocAttr, e2, e4, e5, e6, e7, hdec, z2, hia, c50, l1, l2, l3, f1, ints_len, hq]
      have e : kids.take (j + 1) = kids.take j ++ [y] := by rw [List.take_add_one, hy]; rfl
      exact EQ_in ⟨j + 1, by omega, _, tk', rfl, e2, e4, e5, e6, next_ixv (by unfold lenB at *; omega), by omega, by rw [e]; exact hkas.append (.one hv), f2⟩
    · have hdec : decide ((j : Int) < ks.length) = false := by simpa using hge
      rw [List.take_of_length_le (by omega)] at hkas
      simp only [↓wpre, wall, simprocAttr, e5, e7, hdec, ints_len]
      exact EQ_in ⟨kas, tk, rfl, e4, e6, hkas⟩
  clear e2 e4 e5 e6 E V
  rintro E _ V ⟨kas, tk, rfl, e4, e6, hkas⟩
  have hpk := tmsPure hkas
  have hkn := hkas.len
  have hpz := fun (m : Nat) (s : ASt) => tm_pz (m := m) (s := s) (k := k) (i := i) (n := nm) (t2 := tk) hpl hpk
  simp only [↓wpre, wall, simprocAttr, e4, e6]
  exact ⟨_, hpz 1017 _, Tm.Is.mk b1 (stripR_pure _ _ _) b3 b4 b5 b6 (by unfold lenB; omega) b8 hkas⟩
end Go.Proofs.Eng
namespace Go.Proofs.Eng
section
variable (fr : Int) (var : Int → Nat → Tm) (ve : Int → Nat → Bool)
mutual
def Tm.mv (d : Nat) : Tm → Tm
 | .mk k i n ls kids => if ((Tm.mk k i n ls kids).fv : Int) ≤ fr + d then .mk k i n ls kids else if k = 0 then var i d else .mk k i n ls (mvL d k 0 kids)
def mvL (d : Nat) (k : Int) : Nat → List Tm → List Tm
 | _, [] => []
 | j, t :: l => t.mv (d + (binderG k j).toNat) :: mvL d k (j + 1) l
end
mutual
def Tm.me (d : Nat) : Tm → Bool
 | .mk k i n ls kids => if ((Tm.mk k i n ls kids).fv : Int) ≤ fr + d then false else if k = 0 then ve i d else meL d k 0 kids
def meL (d : Nat) (k : Int) : Nat → List Tm → Bool
 | _, [] => false
 | j, t :: l => t.me (d + (binderG k j).toNat) || meL d k (j + 1) l
end
end
section
variable {fr : Int} {var : Int → Nat → Tm} {ve : Int → Nat → Bool}
theorem mvL_get {d : Nat} {k : Int} {x : Tm} : ∀ {l : List Tm} {j i : Nat}, l[i]? = some x → (mvL fr var d k j l)[i]? = some (x.mv fr var (d + (binderG k (j + i : Nat)).toNat))
 | [], _, _, h => by simp at h
 | y :: l, j, 0, h => by simp at h; subst h; rw [mvL]; simp
 | y :: l, j, i + 1, h => by
  rw [mvL, List.getElem?_cons_succ, mvL_get (by simpa using h), show j + 1 + i = j + (i + 1) from by omega]
theorem mvL_len {d : Nat} {k : Int} : ∀ {l : List Tm} {j : Nat}, (mvL fr var d k j l).length = l.length
 | [], _ => by rw [mvL]
 | y :: l, j => by rw [mvL, List.length_cons, mvL_len, List.length_cons]
theorem mvL_snoc {d : Nat} {k : Int} {x : Tm} : ∀ {l : List Tm} {j : Nat}, mvL fr var d k j (l ++ [x]) = mvL fr var d k j l ++ [x.mv fr var (d + (binderG k (j + l.length : Nat)).toNat)]
 | [], j => by simp [mvL]
 | y :: l, j => by
  rw [List.cons_append, mvL, mvL_snoc, mvL, List.length_cons, show j + 1 + l.length = j + (l.length + 1) from by omega]; rfl
theorem meL_snoc {d : Nat} {k : Int} {x : Tm} : ∀ {l : List Tm} {j : Nat}, meL fr ve d k j (l ++ [x]) = (meL fr ve d k j l || x.me fr ve (d + (binderG k (j + l.length : Nat)).toNat))
 | [], j => by simp [meL]
 | y :: l, j => by
  rw [List.cons_append, meL, meL_snoc, meL, List.length_cons, show j + 1 + l.length = j + (l.length + 1) from by omega, Bool.or_assoc]
theorem mv_all {P : Tm → Prop} (hv : ∀ i d, ∀ y ∈ (var i d).subs, P y) (hn : ∀ k i n ls (l m : List Tm), m.length = l.length → P (.mk k i n ls l) → P (.mk k i n ls m)) (x : Tm) : ∀ d, (∀ y ∈ x.subs, P y) → ∀ y ∈ (x.mv fr var d).subs, P y := by
 induction x using Tm.ind with
 | h k i n ls kids ih =>
 intro d h y hy
 rw [Tm.mv] at hy
 split at hy
 ·exact h y hy
 split at hy
 ·exact hv i d y hy
 ·rw [Tm.subs] at hy
  rcases List.mem_cons.1 hy with rfl | hy
  ·exact hn _ _ _ _ kids _ mvL_len (h _ (subs_self _))
  ·obtain ⟨z, hz, hyz⟩ := mem_subsL.1 hy
   obtain ⟨j, hj⟩ := List.getElem?_of_mem hz
   have hjl := (List.getElem?_eq_some_iff.1 hj).1
   rw [mvL_len] at hjl
   have hx := List.getElem?_eq_getElem hjl
   have := mvL_get (fr := fr) (var := var) (d := d) (k := k) (j := 0) hx
   rw [this] at hj
   have hj := Option.some.inj hj
   subst hj
   refine ih _ (List.getElem_mem hjl) _ (fun w hw => h w ?_) y hyz
   rw [Tm.subs]
   exact List.mem_cons_of_mem _ (mem_subsL.2 ⟨_, List.getElem_mem hjl, hw⟩)
theorem mv_right (hv : ∀ i d, ∀ y ∈ (var i d).subs, y.right = true) {x : Tm} (d : Nat) (h : ∀ y ∈ x.subs, y.right = true) : ∀ y ∈ (x.mv fr var d).subs, y.right = true :=
 mv_all (P := fun y => y.right = true) hv (fun k i n ls l m hl h => by rw [right_len hl]; exact h) x d h
theorem mv_sz (hv : ∀ i d, (var i d).sz ≤ 1) (x : Tm) : ∀ d, (x.mv fr var d).sz ≤ x.sz := by
 induction x using Tm.ind with
 | h k i n ls kids ih =>
 intro d
 rw [Tm.mv]
 split
 ·exact Nat.le_refl _
 split
 ·have := hv i d
  rw [Tm.sz]; omega
 ·rw [Tm.sz, Tm.sz]
  have key : ∀ (l : List Tm) (j : Nat), (∀ x ∈ l, ∀ d, (x.mv fr var d).sz ≤ x.sz) → tszL (mvL fr var d k j l) ≤ tszL l := by
   intro l
   induction l with
   | nil => intro j _; rw [mvL]; exact Nat.le_refl _
   | cons y l ihl =>
    intro j h
    rw [mvL, tszL, tszL]
    have h1 := h y (by simp) (d + (binderG k j).toNat)
    have h2 := ihl (j + 1) fun z hz => h z (by simp [hz])
    omega
  have := key kids 0 ih
  omega
end
end Go.Proofs.Eng
namespace Go.Proofs.Eng
open Go Go.Proofs
set_option maxRecDepth 100000
set_option maxHeartbeats 16000000
structure StpP (bi : Nat) (P : Nat → Prop) (H : List AObj) (V : List Nat) (H' : List AObj) (V' : List Nat) : Prop where
 fr : FrI H H'
 vk : VK bi H V H' V'
 cells : ∀ (k : Nat) (fz : Bool) (c : List AV), k ≠ bi → H[k]? = some (.cells fz c) → H'[k]? = some (.cells fz c)
 maps : ∀ (k : Nat) (es : List (AV × AV)), P k → H[k]? = some (.map es) → H'[k]? = some (.map es)
 bk : ∀ Q, BK bi Q H → BK bi (fun k => Q k ∨ H.length ≤ k) H'
theorem StpP.trans {bi : Nat} {P : Nat → Prop} {A B C : List AObj} {V V' V'' : List Nat} (h : StpP bi P A V B V') (k : StpP bi P B V' C V'') : StpP bi P A V C V'' :=
 ⟨h.fr.trans k.fr, h.vk.trans k.vk, fun i fz c h1 h2 => k.cells i fz c h1 (h.cells i fz c h1 h2), fun i es h1 h2 => k.maps i es h1 (h.maps i es h1 h2), fun Q hQ => (k.bk _ (h.bk Q hQ)).same rfl fun i h1 => h1.elim id fun h1 => .inr (Nat.le_trans h.fr.1 h1)⟩
theorem StpP.mono {bi : Nat} {P P' : Nat → Prop} {A B : List AObj} {V V' : List Nat} (h : StpP bi P A V B V') (hp : ∀ k, P' k → P k) : StpP bi P' A V B V' := ⟨h.fr, h.vk, h.cells, fun k es h1 h2 => h.maps k es (hp k h1) h2, h.bk⟩
theorem StpP.app {bi : Nat} {P : Nat → Prop} {H : List AObj} (V : List Nat) (hb : bi < H.length) (G : List AObj) : StpP bi P H V (H ++ G) V := ⟨.app _ _, VK.same V (List.getElem?_append_left hb), fun _ _ _ _ h => app_get_of h G, fun _ _ _ h => app_get_of h G, fun Q hQ => hQ.same (List.getElem?_append_left hb) fun _ h => .inl h⟩
theorem StpP.setN {bi : Nat} {P : Nat → Prop} {H H' : List AObj} {V V' : List Nat} (h : StpP bi P H V H' V') {q : Nat} (hq : H.length ≤ q) (hb : bi < H.length) (o : AObj) : StpP bi P H V (H'.set q o) V' := by
 have hg : ∀ k, k < H.length → (H'.set q o)[k]? = H'[k]? := fun k hk => by rw [List.getElem?_set, if_neg (by omega)]
 have he := hg bi hb
 refine ⟨⟨by rw [List.length_set]; exact h.fr.1, fun k fz ks hk => ?_⟩, ⟨h.vk.1, h.vk.2.1, fun i ho => h.vk.2.2 i ((owb_eq he i).1 ho)⟩, fun k fz c h1 h2 => ?_, fun k es h1 h2 => ?_, fun Q hQ => (h.bk Q hQ).same he fun _ h => h⟩
 ·rw [hg k (lt_of_get hk)]; exact h.fr.2 k fz ks hk
 ·rw [hg k (lt_of_get h2)]; exact h.cells k fz c h1 h2
 ·rw [hg k (lt_of_get h2)]; exact h.maps k es h1 h2
theorem BS.bk {bi mi : Nat} {sc : Bool} {T : List Tm} {H : List AObj} {V : List Nat} (h : BS bi mi sc T H V) : BK bi (fun k => k < H.length) H := by
 obtain ⟨_, al, tn, tf, es, b1, _, b3, _⟩ := h
 intro al' tn' x y z w e a ha k ⟨c0, c1, c2, c3, kv, e1, o, len, es', ag, e2⟩
 rw [b1] at e
 simp only [Option.some.injEq, AObj.cells.injEq, List.cons.injEq, AV.sl.injEq, true_and, and_true] at e
 obtain ⟨⟨rfl, _⟩, _⟩ := e
 obtain ⟨i, hi⟩ := List.getElem?_of_mem ha
 obtain ⟨n, c, _, h2, _, _, t1, las, kv', h5, _, _, _, _, _, _, _, _, h6⟩ := ndh_get b3 (List.getElem?_eq_some_iff.1 hi).1
 rw [hi, Option.some.injEq, e1] at h2
 rw [← h2] at h5
 simp only [AV.agg.injEq, List.cons.injEq, true_and, and_true] at h5
 obtain ⟨_, _, _, _, rfl⟩ := h5
 rcases h6 with ⟨t, h6⟩ | ⟨q, fz, h6, h7⟩
 ·rw [e2] at h6; cases h6
 ·rw [e2] at h6
  simp only [AV.bs.injEq] at h6
  rw [h6.1]; exact lt_of_get h7
theorem BS.setQ {bi mi : Nat} {sc : Bool} {T : List Tm} {H : List AObj} {V : List Nat} (h : BS bi mi sc T H V) {q : Nat} (hk : BK bi (fun k => k ≠ q) H) (h1 : q ≠ bi) (h2 : q ≠ mi) (o : AObj) : BS bi mi sc T (H.set q o) V := by
 obtain ⟨hne, al, tn, tf, es, b1, b2, b3, b4⟩ := h
 refine ⟨hne, al, tn, tf, es, by rw [List.getElem?_set, if_neg h1]; exact b1, by rw [List.getElem?_set, if_neg h2]; exact b2, ?_, b4⟩
 have hq := hk _ _ _ _ _ _ b1
 clear b4 b1 b2 hk
 have key : ∀ (l : List Nd) (al : List AV), LIs (NdH H) l al → (∀ a ∈ al, ∀ k, AKid a k → k ≠ q) → LIs (NdH (H.set q o)) l al := by
  intro l
  induction l with
  | nil => intro al h _; cases al <;> simpa [LIs] using h
  | cons n l ih =>
   intro al h ha
   cases al with
   | nil => simp [LIs] at h
   | cons a al =>
    simp only [LIs] at h ⊢
    refine ⟨?_, ih al h.2 fun b hb => ha b (by simp [hb])⟩
    obtain ⟨t1, las, kv, rfl, k2, k3, k4, k5, k6, k7, k8, k9, k10⟩ := h.1
    refine ⟨t1, las, kv, rfl, k2, k3, k4, k5, k6, k7, k8, k9, ?_⟩
    rcases k10 with k10 | ⟨r, fz, rfl, k11⟩
    ·exact .inl k10
    ·have : r ≠ q := ha _ List.mem_cons_self r ⟨_, _, _, _, _, rfl, _, _, _, _, rfl⟩
     exact .inr ⟨r, fz, rfl, by rw [List.getElem?_set, if_neg (Ne.symm this)]; exact k11⟩
 exact key _ _ b3 hq
section
variable (fr : Int) (var : Int → Nat → Tm) (ve : Int → Nat → Bool)
def dmE (T : List Tm) (p : Tm × Nat) : AV × AV := (.agg [.int (T.idxOf p.1 : Nat), .int (p.2 : Nat)], .int (T.idxOf (p.1.mv fr var p.2) : Nat))
def DM (T : List Tm) (sc : Bool) (es : List (AV × AV)) : Prop := ∃ L : List (Tm × Nat), es = L.map (dmE fr var T) ∧ ∀ p ∈ L, p.1 ∈ T ∧ p.1.mv fr var p.2 ∈ T ∧ (p.1.me fr ve p.2 = true → sc = true)
structure VOk (bi mi dm base : Nat) (P : Nat → Prop) (J : Bool → List AObj → List Tm → Prop) (f : FuncId) (caps : List AV) : Prop where
 call : ∀ {sc : Bool} {T : List Tm} {H : List AObj} {V : List Nat} {i : Int} {d : Nat}, BS bi mi sc T H V → GT T → J sc H T → base ≤ H.length → 0 ≤ i → i ≤ 2147483647 → fr + d ≤ i → d ≤ 1000000 → ((var i d).enter T).length ≤ 65536 →
  ∃ H' V', BS bi mi (sc || ve i d) ((var i d).enter T) H' V' ∧ StpP bi (fun k => P k ∨ k = dm) H V H' V' ∧ J (sc || ve i d) H' ((var i d).enter T) ∧ ∀ K KP, CW (run md pfs) md false ⟨H, V⟩ f ([.int i, .int (d : Nat)] ++ caps) K KP () = K (.int (((var i d).enter T).idxOf (var i d) : Nat)) ⟨H', V'⟩
 stab : ∀ {sc sc' : Bool} {H H' : List AObj} {T m : List Tm}, J sc H T → (sc = true → sc' = true) → (∀ (k : Nat) (fz : Bool) (c : List AV), k < base → k ≠ bi → H[k]? = some (.cells fz c) → H'[k]? = some (.cells fz c)) → (∀ (k : Nat) (es : List (AV × AV)), k ≠ mi → k ≠ dm → H[k]? = some (.map es) → H'[k]? = some (.map es)) → J sc' H' (T ++ m)
 pd : ¬ P dm
 pm : ¬ P mi
 nb : dm ≠ bi
 nm : dm ≠ mi
 right : ∀ i d, ∀ y ∈ (var i d).subs, y.right = true
end
section
variable {fr : Int} {var : Int → Nat → Tm} {ve : Int → Nat → Bool}
theorem dm_key (a b c d : Int) : keyEqM (.gr [false, false]) (.agg [.int a, .int b]) (.agg [.int c, .int d]) = some (decide (a = c) && decide (b = d)) := by
 simp only [keyEqM, List.length_cons, List.length_nil, if_true, eqgA, keyOK, keyEq]
 simp
 rfl
theorem look_dm {T : List Tm} {x : Tm} {d : Nat} (hx : x ∈ T) : ∀ {L : List (Tm × Nat)}, (∀ p ∈ L, p.1 ∈ T) → lookA (.gr [false, false]) (.agg [.int (T.idxOf x : Nat), .int (d : Nat)]) (L.map (dmE fr var T)) = some (if (x, d) ∈ L then some (.int (T.idxOf (x.mv fr var d) : Nat)) else none)
 | [], _ => by simp [lookA]
 | (y, e) :: L, h => by
  have ih := look_dm (d := d) hx (L := L) fun p hp => h p (by simp [hp])
  rw [List.map_cons, dmE, lookA, dm_key]
  by_cases h1 : y = x ∧ e = d
  ·obtain ⟨rfl, rfl⟩ := h1
   simp
  ·have : (decide (((T.idxOf x : Nat) : Int) = (T.idxOf y : Nat)) && decide ((d : Int) = (e : Nat))) = false := by
    rw [Bool.and_eq_false_iff]
    simp only [decide_eq_false_iff_not]
    by_cases h2 : y = x
    ·subst h2; exact .inr fun h3 => h1 ⟨rfl, by omega⟩
    ·exact .inl fun h3 => h2 (idx_inj (h (y, e) (by simp)) hx (by omega))
   rw [this]
   simp only [ih]
   have h3 : ¬ (x, d) = (y, e) := fun h => h1 ⟨(Prod.mk.inj h).1.symm, (Prod.mk.inj h).2.symm⟩
   simp only [List.mem_cons, h3, false_or]
theorem up_dm {T : List Tm} {x : Tm} {d : Nat} (hx : x ∈ T) : ∀ {L : List (Tm × Nat)}, (∀ p ∈ L, p.1 ∈ T) → ∃ L' : List (Tm × Nat), upA (.gr [false, false]) (.agg [.int (T.idxOf x : Nat), .int (d : Nat)]) (.int (T.idxOf (x.mv fr var d) : Nat)) (L.map (dmE fr var T)) = some (L'.map (dmE fr var T)) ∧ ∀ p ∈ L', p ∈ L ∨ p = (x, d)
 | [], _ => ⟨[(x, d)], by rw [List.map_nil, upA]; rfl, by simp⟩
 | (y, e) :: L, h => by
  obtain ⟨L', h4, h5⟩ := up_dm (d := d) hx (L := L) fun p hp => h p (by simp [hp])
  rw [List.map_cons, dmE, upA, dm_key]
  by_cases h1 : y = x ∧ e = d
  ·obtain ⟨rfl, rfl⟩ := h1
   exact ⟨(y, e) :: L, by simp [dmE], fun p hp => .inl hp⟩
  ·have : (decide (((T.idxOf x : Nat) : Int) = (T.idxOf y : Nat)) && decide ((d : Int) = (e : Nat))) = false := by
    rw [Bool.and_eq_false_iff]
    simp only [decide_eq_false_iff_not]
    by_cases h2 : y = x
    ·subst h2; exact .inr fun h3 => h1 ⟨rfl, by omega⟩
    ·exact .inl fun h3 => h2 (idx_inj (h (y, e) (by simp)) hx (by omega))
   rw [this]
   simp only [h4]
   refine ⟨(y, e) :: L', by simp [dmE], fun p hp => ?_⟩
   rcases List.mem_cons.1 hp with rfl | hp
   ·exact .inl (by simp)
   ·rcases h5 p hp with h6 | h6
    ·exact .inl (by simp [h6])
    ·exact .inr h6
theorem DM.grow {T m : List Tm} {sc sc' : Bool} {es : List (AV × AV)} (h : DM fr var ve T sc es) (hs : sc = true → sc' = true) : DM fr var ve (T ++ m) sc' es := by
 obtain ⟨L, rfl, h2⟩ := h
 refine ⟨L, List.map_congr_left fun p hp => ?_, fun p hp => ?_⟩
 ·obtain ⟨h3, h4, _⟩ := h2 p hp
  rw [dmE, dmE, idx_pre h3, idx_pre h4]
 ·obtain ⟨h3, h4, h5⟩ := h2 p hp
  exact ⟨List.mem_append_left _ h3, List.mem_append_left _ h4, fun h => hs (h5 h)⟩
end
end Go.Proofs.Eng
namespace Go.Proofs.Eng
open Go Go.Proofs
set_option maxRecDepth 100000
set_option maxHeartbeats 16000000
section
variable {fr : Int} {var : Int → Nat → Tm} {ve : Int → Nat → Bool}
theorem mv_pos {x : Tm} {d : Nat} (h : (x.fv : Int) ≤ fr + d) : x.mv fr var d = x ∧ x.me fr ve d = false := by
 cases x
 exact ⟨by rw [Tm.mv, if_pos h], by rw [Tm.me, if_pos h]⟩
theorem mv_var {k i : Int} {n : ByteArray} {ls : List Lv} {kids : List Tm} {d : Nat} (h : ¬ ((Tm.mk k i n ls kids).fv : Int) ≤ fr + d) (hk : k = 0) : (Tm.mk k i n ls kids).mv fr var d = var i d ∧ (Tm.mk k i n ls kids).me fr ve d = ve i d :=
 ⟨by rw [Tm.mv, if_neg h, if_pos hk], by rw [Tm.me, if_neg h, if_pos hk]⟩
theorem mv_neg {k i : Int} {n : ByteArray} {ls : List Lv} {kids : List Tm} {d : Nat} (h : ¬ ((Tm.mk k i n ls kids).fv : Int) ≤ fr + d) (hk : k ≠ 0) : (Tm.mk k i n ls kids).mv fr var d = .mk k i n ls (mvL fr var d k 0 kids) ∧ (Tm.mk k i n ls kids).me fr ve d = meL fr ve d k 0 kids :=
 ⟨by rw [Tm.mv, if_neg h, if_neg hk], by rw [Tm.me, if_neg h, if_neg hk]⟩
theorem mvL_take {d : Nat} {k : Int} {l : List Tm} {j : Nat} {x : Tm} (h : l[j]? = some x) : mvL fr var d k 0 (l.take (j + 1)) = mvL fr var d k 0 (l.take j) ++ [x.mv fr var (d + (binderG k j).toNat)] ∧ meL fr ve d k 0 (l.take (j + 1)) = (meL fr ve d k 0 (l.take j) || x.me fr ve (d + (binderG k j).toNat)) := by
 have hlt := (List.getElem?_eq_some_iff.1 h).1
 have e : l.take (j + 1) = l.take j ++ [x] := by rw [List.take_add_one, h]; rfl
 rw [e, mvL_snoc, meL_snoc, List.length_take, Nat.min_eq_left (by omega), Nat.zero_add]
 exact ⟨rfl, rfl⟩
theorem mvL_tk {d : Nat} {k : Int} : ∀ {l : List Tm} {i j : Nat}, mvL fr var d k i (l.take j) = (mvL fr var d k i l).take j
 | [], i, j => by rw [List.take_nil, mvL, List.take_nil]
 | x :: l, i, 0 => by rw [List.take_zero, List.take_zero, mvL]
 | x :: l, i, j + 1 => by rw [List.take_succ_cons, mvL, mvL, List.take_succ_cons, mvL_tk]
theorem enterL_one (T l : List Tm) (x : Tm) : enterL T (l ++ [x]) = Tm.enter (enterL T l) x := by
 rw [enterL_split, enterL, enterL]
theorem ids_step {a : List Int} {v : Int} {n j : Nat} (ha : a.length = j) (hj : j < n) : (ints (a ++ List.replicate (n - j) 0)).take j ++ [AV.v (.int .i64 v)] ++ (ints (a ++ List.replicate (n - j) 0)).drop (j + 1) = ints (a ++ [v] ++ List.replicate (n - (j + 1)) 0) := by
 have e : n - j = n - (j + 1) + 1 := by omega
 rw [e, List.replicate_succ]
 subst ha
 simp [ints]
 rw [List.drop_append, List.drop_eq_nil_of_le (by simp), List.length_map, show a.length + 1 - a.length = 1 from by omega]; rfl
theorem flat_rep (w : Nat) : flat (List.replicate w (AV.v (.int .i64 0))) = ints (List.replicate w 0) := by
 induction w with
 | zero => rfl
 | succ w ih => rw [List.replicate_succ, flat_cons, ih]; rfl
def Par (bi : Nat) (idx : Nat) (d : Nat) (fr : Int) (dm : Nat) (f : FuncId) (caps : List AV) (E : Env) : Prop := E 0 = .ptr bi 0 ∧ E 1 = .int (idx : Nat) ∧ E 2 = .int (d : Nat) ∧ E 3 = .int fr ∧ E 4 = .mp dm ∧ E 5 = .fn f caps
structure MvP (fr : Int) (var : Int → Nat → Tm) (ve : Int → Nat → Bool) (bi mi dm : Nat) (P : Nat → Prop) (J : Bool → List AObj → List Tm → Prop) (sc : Bool) (T : List Tm) (H : List AObj) (V : List Nat) (es : List (AV × AV)) : Prop where
 bs : BS bi mi sc T H V
 gt : GT T
 map : H[dm]? = some (.map es)
 dm : DM fr var ve T sc es
 j : J sc H T
theorem VOk.japp {bi mi dm base : Nat} {P : Nat → Prop} {J : Bool → List AObj → List Tm → Prop} {f : FuncId} {caps : List AV} (hV : VOk fr var ve bi mi dm base P J f caps) {sc : Bool} {H : List AObj} {T : List Tm} (h : J sc H T) (G : List AObj) : J sc (H ++ G) T := by
 have := hV.stab (m := []) h id (H' := H ++ G) (fun k fz c _ _ h => app_get_of h G) (fun k es _ _ h => app_get_of h G)
 simpa using this
theorem MvP.app {bi mi dm base : Nat} {P : Nat → Prop} {J : Bool → List AObj → List Tm → Prop} {f : FuncId} {caps : List AV} (hV : VOk fr var ve bi mi dm base P J f caps) {sc : Bool} {T : List Tm} {H : List AObj} {V : List Nat} {es : List (AV × AV)} (h : MvP fr var ve bi mi dm P J sc T H V es) (G : List AObj) : MvP fr var ve bi mi dm P J sc T (H ++ G) V es := ⟨h.bs.app G, h.gt, app_get_of h.map G, h.dm, hV.japp h.j G⟩
theorem moved_sh {bi mi dm base : Nat} {P : Nat → Prop} {J : Bool → List AObj → List Tm → Prop} {f : FuncId} {caps : List AV} (hV : VOk fr var ve bi mi dm base P J f caps) (hf0 : 0 ≤ fr) (hf1 : fr ≤ 4294967294) (x : Tm) : ∀ {sc : Bool} {T : List Tm} {H : List AObj} {V : List Nat} {d : Nat} {es : List (AV × AV)}, MvP fr var ve bi mi dm P J sc T H V es → x ∈ T → base ≤ H.length → d + x.dp ≤ 1000000 → ((x.mv fr var d).enter T).length ≤ 65536 →
  Sh md pfs 53 [.ptr bi 0, .int (T.idxOf x : Nat), .int (d : Nat), .int fr, .mp dm, .fn f caps] ⟨H, V⟩ (fun v s => v = .int (((x.mv fr var d).enter T).idxOf (x.mv fr var d) : Nat) ∧ ∃ H' V' es', s = ⟨H', V'⟩ ∧ MvP fr var ve bi mi dm P J (sc || x.me fr ve d) ((x.mv fr var d).enter T) H' V' es' ∧ StpP bi P H V H' V') fun _ _ => False := by
 induction x using Tm.ind with
 | h k i nm ls kids ih =>
 intro sc T H V d es hM hx hbase hd hl
 generalize hX : Tm.mk k i nm ls kids = x at *
 obtain ⟨hne, al, tn, tf, es0, b1, b2, b3, b4, b5, b6, b7⟩ := hM.bs
 obtain ⟨lb, lm⟩ := hM.bs.bi_lt
 have hG := hM.gt
 have hln := b3.len
 rw [nodes_len] at hln
 have hix := List.idxOf_lt_length_of_mem hx
 have hfr := frs_get hx
 have hfa := ints_all (frs T)
 have w30 : IntKind.i64.wrap (fr + (d : Nat)) = fr + (d : Nat) := wrap_in (by unfold in64; omega)
 have hrx := hG.right x hx
 have hkx := (hG.good.all x hx).2
 refine sh_of pf53_is (Nat.le_of_ble_eq_true rfl) ?_
 simp only [pf53]
 refine seqE (fun E H' V' => H = H' ∧ V = V' ∧ Par bi (T.idxOf x) d fr dm f caps E) ?_ ?_
 ·simp only [↓wpre, wall, simprocAttr]; exact EQ_in ⟨rfl, rfl, rfl, rfl, rfl, rfl, rfl, rfl⟩
 rintro E _ _ ⟨rfl, rfl, e0, e1, e2, e3, e4, e5⟩
 by_cases hfv : (x.fv : Int) ≤ fr + d
 ·have dA : decide (((x.fv : Nat) : Int) ≤ fr + (d : Nat)) = true := by simp only [decide_eq_true_eq]; exact hfv
  obtain ⟨m1, m2⟩ := mv_pos (var := var) (ve := ve) hfv
  rw [m1, m2, enter_mem hx, Bool.or_false]
  simp only [↓wpre, wall, simprocAttr, e0, e1, e2, e3, e4, e5, b1, hfr, hfa, w30, dA]
  exact ⟨_, _, es, rfl, hM, .refl _, VK.same V rfl, fun _ _ _ _ h => h, fun _ _ _ h => h, fun Q hQ => hQ.same rfl fun _ h => .inl h⟩
 have dA : decide (((x.fv : Nat) : Int) ≤ fr + (d : Nat)) = false := by simp only [decide_eq_false_iff_not]; exact hfv
 refine seqE (fun E H' V' => H = H' ∧ V = V' ∧ Par bi (T.idxOf x) d fr dm f caps E) ?_ ?_
 ·simp only [↓wpre, wall, simprocAttr, e0, e1, e2, e3, e4, e5, b1, hfr, hfa, w30, dA]; exact EQ_in ⟨rfl, rfl, e0, e1, e2, e3, e4, e5⟩
 clear e0 e1 e2 e3 e4 e5 E
 rintro E _ _ ⟨rfl, rfl, e0, e1, e2, e3, e4, e5⟩
 refine seqE (fun E H' V' => H' = H ++ [AObj.cells false [AV.int (T.idxOf x : Nat), AV.int (d : Nat)]] ∧ V = V' ∧ Par bi (T.idxOf x) d fr dm f caps E ∧ E 13 = .ptr H.length 0) ?_ ?_
 ·simp only [↓wpre, wall, simprocAttr, List.length_append, List.append_assoc, app_get_len, app_get_add, app_set_len, app_set_add, e0, e1, e2, e3, e4, e5]; exact EQ_in ⟨rfl, rfl, ⟨e0, e1, e2, e3, e4, e5⟩, rfl⟩
 clear e0 e1 e2 e3 e4 e5 E
 rintro E _ _ ⟨rfl, rfl, ⟨e0, e1, e2, e3, e4, e5⟩, e13⟩
 obtain ⟨L, eL, hL⟩ := hM.dm
 have hlk := look_dm (fr := fr) (var := var) (d := d) hx (L := L) fun p hp => (hL p hp).1
 rw [← eL] at hlk
 have hmd := app_get_of hM.map [AObj.cells false [AV.int (T.idxOf x : Nat), AV.int (d : Nat)]]
 by_cases hin : (x, d) ∈ L
 ·rw [if_pos hin] at hlk
  obtain ⟨_, q2, q3⟩ := hL _ hin
  have hsc : (sc || x.me fr ve d) = sc := by
   cases hme : x.me fr ve d
   ·rw [Bool.or_false]
   ·rw [q3 hme]; rfl
  rw [enter_mem q2, hsc]
  simp only [↓wpre, wall, simprocAttr, List.length_append, List.append_assoc, app_get_len, app_get_add, app_set_len, app_set_add, e0, e1, e2, e3, e4, e5, e13, hmd, hlk, gOK]
  exact ⟨_, _, es, rfl, ⟨hM.bs.app _, hG, app_get_of hM.map _, hM.dm, hV.japp hM.j _⟩, .app V lb _⟩
 rw [if_neg hin] at hlk
 refine seqE (fun E H' V' => H' = H ++ [AObj.cells false [AV.int (T.idxOf x : Nat), AV.int (d : Nat)]] ∧ V = V' ∧ Par bi (T.idxOf x) d fr dm f caps E ∧ E 13 = .ptr H.length 0) ?_ ?_
 ·simp only [↓wpre, wall, simprocAttr, List.length_append, List.append_assoc, app_get_len, app_get_add, app_set_len, app_set_add, e0, e1, e2, e3, e4, e5, e13, hmd, hlk, gOK]; exact EQ_in ⟨rfl, rfl, ⟨e0, e1, e2, e3, e4, e5⟩, e13⟩
 clear e0 e1 e2 e3 e4 e5 e13 E
 rintro E _ _ ⟨rfl, rfl, ⟨e0, e1, e2, e3, e4, e5⟩, e13⟩
 obtain ⟨n, c, n0, n1, n2, n3, n4⟩ := ndh_get b3 (i := T.idxOf x) (by omega)
 have hnx : n = ndOf T x := by
  rw [nodesOf, List.getElem?_map, List.getElem?_eq_getElem hix, List.getElem_idxOf] at n0
  exact (Option.some.inj n0).symm
 have hall := ndh_all b3
 obtain ⟨t1, las, kv, hcc, r1, r2, r3, r4, r5, r6, r7, r8, r9⟩ := n4
 simp only [AV.agg.injEq] at hcc
 subst hcc
 have hb1' := app_get_of b1 [AObj.cells false [AV.int (T.idxOf x : Nat), AV.int (d : Nat)]]
 have hone := kids_one r9
 have hcl : kv.cells = [kv] := by cases kv <;> first | rfl | simp [oneCell] at hone
 refine seqE (fun E H' V' => H' = H ++ [AObj.cells false [AV.int (T.idxOf x : Nat), AV.int (d : Nat)], AObj.cells false [AV.int n.k, AV.int n.i, AV.str n.n, AV.sl las t1, kv]] ∧ V = V' ∧ Par bi (T.idxOf x) d fr dm f caps E ∧ E 13 = .ptr H.length 0 ∧ E 16 = .ptr (H.length + 1) 0) ?_ ?_
 ·simp only [↓wpre, wall, simprocAttr, List.length_append, List.append_assoc, app_get_len, app_get_add, app_set_len, app_set_add, e0, e1, e2, e3, e4, e5, e13, hb1', n1, n3, hall, hone, List.length_append]; exact EQ_in ⟨rfl, rfl, ⟨e0, e1, e2, e3, e4, e5⟩, e13, rfl⟩
 clear e0 e1 e2 e3 e4 e5 e13 E
 rintro E _ _ ⟨rfl, rfl, ⟨e0, e1, e2, e3, e4, e5⟩, e13, e16⟩
 refine seqE (fun E H' V' => H' = H ++ [AObj.cells false [AV.int (T.idxOf x : Nat), AV.int (d : Nat)], AObj.cells false [AV.int n.k, AV.int n.i, AV.str n.n, AV.sl las t1, kv]] ∧ V = V' ∧ Par bi (T.idxOf x) d fr dm f caps E ∧ E 13 = .ptr H.length 0 ∧ E 16 = .ptr (H.length + 1) 0) ?_ ?_
 ·simp only [↓wpre, wall, simprocAttr]; exact EQ_in ⟨rfl, rfl, ⟨e0, e1, e2, e3, e4, e5⟩, e13, e16⟩
 clear e0 e1 e2 e3 e4 e5 e13 e16 E
 rintro E _ _ ⟨rfl, rfl, ⟨e0, e1, e2, e3, e4, e5⟩, e13, e16⟩
 refine seqE (fun E H' V' => ∃ es', MvP fr var ve bi mi dm P J (sc || x.me fr ve d) ((x.mv fr var d).enter T) H' V' es' ∧ StpP bi P H V H' V' ∧ H'[H.length]? = some (.cells false [.int (T.idxOf x : Nat), .int (d : Nat)]) ∧ E 4 = .mp dm ∧ E 13 = .ptr H.length 0 ∧ E 17 = .int (((x.mv fr var d).enter T).idxOf (x.mv fr var d) : Nat)) ?_ ?_
 ·have hM1 := hM.app hV [AObj.cells false [AV.int (T.idxOf x : Nat), AV.int (d : Nat)], AObj.cells false [AV.int n.k, AV.int n.i, AV.str n.n, AV.sl las t1, kv]]
  have hS1 : StpP bi P H V (H ++ [AObj.cells false [AV.int (T.idxOf x : Nat), AV.int (d : Nat)], AObj.cells false [AV.int n.k, AV.int n.i, AV.str n.n, AV.sl las t1, kv]]) V := .app V lb _
  have hpl : (H ++ [AObj.cells false [AV.int (T.idxOf x : Nat), AV.int (d : Nat)], AObj.cells false [AV.int n.k, AV.int n.i, AV.str n.n, AV.sl las t1, kv]])[H.length]? = some (.cells false [.int (T.idxOf x : Nat), .int (d : Nat)]) := by simp
  have hnl : (H ++ [AObj.cells false [AV.int (T.idxOf x : Nat), AV.int (d : Nat)], AObj.cells false [AV.int n.k, AV.int n.i, AV.str n.n, AV.sl las t1, kv]])[H.length + 1]? = some (.cells false [.int n.k, .int n.i, .str n.n, .sl las t1, kv]) := by simp
  have hr9 : KidsH (H ++ [AObj.cells false [AV.int (T.idxOf x : Nat), AV.int (d : Nat)], AObj.cells false [AV.int n.k, AV.int n.i, AV.str n.n, AV.sl las t1, kv]]) n.kids kv := r9.mono (.app _ _)
  have hbi1 : (H ++ [AObj.cells false [AV.int (T.idxOf x : Nat), AV.int (d : Nat)], AObj.cells false [AV.int n.k, AV.int n.i, AV.str n.n, AV.sl las t1, kv]])[bi]? = H[bi]? := List.getElem?_append_left lb
  have hll : (H ++ [AObj.cells false [AV.int (T.idxOf x : Nat), AV.int (d : Nat)], AObj.cells false [AV.int n.k, AV.int n.i, AV.str n.n, AV.sl las t1, kv]]).length = H.length + 2 := by simp
  generalize H ++ [AObj.cells false [AV.int (T.idxOf x : Nat), AV.int (d : Nat)], AObj.cells false [AV.int n.k, AV.int n.i, AV.str n.n, AV.sl las t1, kv]] = H1 at *
  have hfx := formed_facts (n := n) (by rw [hnx, formed_ndOf]; exact hrx)
  by_cases hk0 : n.k = 0
  ·have q0 : (n.k == 0) = true := by simp [hk0]
   have hnk : n.k = k := by rw [hnx, ← hX]; rfl
   have hni : n.i = i := by rw [hnx, ← hX]; rfl
   have hkd : kids = [] := by
    have h1 := (right_facts hrx).1.kids
    rw [← hX] at h1
    simp only [Tm.k, Tm.kids] at h1
    rw [show k = 0 from by omega, show kidsN 0 = 0 from by decide] at h1
    exact List.length_eq_zero_iff.1 (by omega)
   have hxf : (x.fv : Int) = i + 1 := by
    rw [← hX, fv_mk, hkd]
    simp only [List.map_nil, fvF]
    rw [fv0, if_pos (by omega)]; omega
   have hmm := mv_var (var := var) (ve := ve) (k := k) (i := i) (n := nm) (ls := ls) (kids := kids) (d := d) (by rw [hX]; exact hfv) (by omega)
   rw [hX] at hmm
   obtain ⟨m1, m2⟩ := hmm
   rw [m1] at hl
   rw [m1, m2]
   obtain ⟨H2, V2, hB2, hS2, hJ2, hc⟩ := hV.call (d := d) hM1.bs hG hM1.j (by omega) (i := n.i) (by omega) (by omega) (by omega) (by omega) (by rw [hni]; exact hl)
   rw [hni] at hB2 hJ2
   have hc' : ∀ K KP, CW (run md pfs) md false ⟨H1, V⟩ f (.int n.i :: .int (d : Nat) :: caps) K KP () = K (.int (((var i d).enter T).idxOf (var i d) : Nat)) ⟨H2, V2⟩ := fun K KP => by rw [← hni]; exact hc K KP
   have hrm : ∀ y ∈ (var i d).subs, y.right = true := hV.right i d
   obtain ⟨hG2, ⟨m3, hm3⟩, _⟩ := enter_pre hG hrm
   simp only [↓wpre, wall, simprocAttr, e0, e1, e2, e3, e4, e5, e13, e16, hnl, q0, hc']
   refine EQ_in ⟨es, ⟨hB2, hG2, hS2.maps _ _ (.inr rfl) hM1.map, ?_, hJ2⟩, hS1.trans (hS2.mono fun k h => .inl h), hS2.cells _ _ _ (by omega) hpl, e4, e13, rfl⟩
   rw [hm3]
   exact hM.dm.grow fun h => by rw [h]; rfl
  ·have q0 : (n.k == 0) = false := by simp [hk0]
   have hnk : n.k = k := by rw [hnx, ← hX]; rfl
   have hmm := mv_neg (var := var) (ve := ve) (k := k) (i := i) (n := nm) (ls := ls) (kids := kids) (d := d) (by rw [hX]; exact hfv) (by omega)
   rw [hX] at hmm
   obtain ⟨m1, m2⟩ := hmm
   rw [m1, m2]
   rw [m1] at hl
   have hkl : n.kids.length = kids.length := by rw [hnx, ← hX]; simp [ndOf, Tm.kids]
   have hkx' : ∀ y ∈ kids, y ∈ T := by rw [← hX] at hkx; exact hkx
   have hmx : 0 ≤ (n.kids.length : Int) ∧ (n.kids.length : Int) ≤ 1073741824 := by omega
   refine seqE (fun E H' V' => H1 = H' ∧ V = V' ∧ Par bi (T.idxOf x) d fr dm f caps E ∧ E 13 = .ptr H.length 0 ∧ E 16 = .ptr (H.length + 1) 0 ∧ E 53 = .bool false) ?_ ?_
   ·simp only [↓wpre, wall, simprocAttr, e16, hnl, q0]; exact EQ_in ⟨rfl, rfl, ⟨e0, e1, e2, e3, e4, e5⟩, e13, e16, rfl⟩
   clear e0 e1 e2 e3 e4 e5 e13 e16 E
   rintro E _ _ ⟨rfl, rfl, ⟨e0, e1, e2, e3, e4, e5⟩, e13, e16, e53⟩
   rw [W_false (by rw [evX_t (by decide), e53])]
   have hflr : flat (List.replicate n.kids.length (AV.v (.int .i64 0))) = ints (List.replicate n.kids.length 0) := flat_rep _
   refine seqE (fun E H' V' => H' = H1 ++ [AObj.cells false (ints (List.replicate n.kids.length 0))] ∧ V = V' ∧ Par bi (T.idxOf x) d fr dm f caps E ∧ E 13 = .ptr H.length 0 ∧ E 16 = .ptr (H.length + 1) 0 ∧ E 18 = .bs (H.length + 2) 0 n.kids.length 1 false) ?_ ?_
   ·rcases hr9 with ⟨tk, rfl⟩ | ⟨q, fz, rfl, hq⟩
    ·simp only [↓wpre, wall, simprocAttr, List.length_append, List.append_assoc, app_get_len, app_get_add, app_set_len, app_set_add, e16, hnl, ints_len, hmx, Int.toNat_natCast, hflr, hll]; exact EQ_in ⟨rfl, rfl, ⟨e0, e1, e2, e3, e4, e5⟩, e13, e16, rfl⟩
    ·simp only [↓wpre, wall, simprocAttr, List.length_append, List.append_assoc, app_get_len, app_get_add, app_set_len, app_set_add, e16, hnl, hmx, Int.toNat_natCast, hflr, hll]; exact EQ_in ⟨rfl, rfl, ⟨e0, e1, e2, e3, e4, e5⟩, e13, e16, rfl⟩
   clear e0 e1 e2 e3 e4 e5 e13 e16 e53 E
   rintro E _ _ ⟨rfl, rfl, ⟨e0, e1, e2, e3, e4, e5⟩, e13, e16, e18⟩
   have hM2 := hM1.app hV [AObj.cells false (ints (List.replicate n.kids.length 0))]
   have hS2 := hS1.trans (.app V (by omega) [AObj.cells false (ints (List.replicate n.kids.length 0))])
   have hpl2 := app_get_of hpl [AObj.cells false (ints (List.replicate n.kids.length 0))]
   have hnl2 := app_get_of hnl [AObj.cells false (ints (List.replicate n.kids.length 0))]
   have hil2 : (H1 ++ [AObj.cells false (ints (List.replicate n.kids.length 0))])[H.length + 2]? = some (.cells false (ints (List.replicate n.kids.length 0))) := by rw [← hll]; simp
   have hr92 := hr9.mono (.app H1 [AObj.cells false (ints (List.replicate n.kids.length 0))])
   have hbi2 : (H1 ++ [AObj.cells false (ints (List.replicate n.kids.length 0))])[bi]? = H[bi]? := by rw [List.getElem?_append_left (by omega)]; exact hbi1
   have hl2 : (H1 ++ [AObj.cells false (ints (List.replicate n.kids.length 0))]).length = H.length + 3 := by rw [List.length_append, hll]; rfl
   generalize H1 ++ [AObj.cells false (ints (List.replicate n.kids.length 0))] = H2 at *
   refine seqE (fun E H' V' => ∃ es', MvP fr var ve bi mi dm P J (sc || meL fr ve d k 0 kids) (enterL T (mvL fr var d k 0 kids)) H' V' es' ∧ StpP bi P H V H' V' ∧ H'[H.length]? = some (.cells false [.int (T.idxOf x : Nat), .int (d : Nat)]) ∧ H'[H.length + 1]? = some (.cells false [.int n.k, .int n.i, .str n.n, .sl las t1, kv]) ∧ H'[H.length + 2]? = some (.cells false (ints ((mvL fr var d k 0 kids).map fun y => (((enterL T (mvL fr var d k 0 kids)).idxOf y : Nat) : Int)))) ∧ Par bi (T.idxOf x) d fr dm f caps E ∧ E 13 = .ptr H.length 0 ∧ E 16 = .ptr (H.length + 1) 0 ∧ E 18 = .bs (H.length + 2) 0 n.kids.length 1 false) ?_ ?_
   ·have hS0 : StpP bi P H V H2 V := hS2
    have hmk : ∀ y ∈ subsL (mvL fr var d k 0 kids), y.right = true := fun y hy => by
     have h1 : ∀ y ∈ (x.mv fr var d).subs, y.right = true := mv_right (var := var) hV.right d fun y hy => hG.right y (hG.good.subs x hx y hy)
     rw [m1] at h1
     exact h1 y (by rw [Tm.subs]; simp [hy])
    have hlE : (enterL T (mvL fr var d k 0 kids)).length ≤ 65536 := by
     rw [enter_eq hG.good] at hl
     obtain ⟨m, hm⟩ := addT_pre (enterL T (mvL fr var d k 0 kids)) (.mk k i nm ls (mvL fr var d k 0 kids))
     have := congrArg List.length hm
     rw [List.length_append] at this; omega
    have hbk0 : BK bi (fun q => q ≠ H.length + 2) H2 := hM.bs.bk.same hbi2 fun q hq => by omega
    refine seqE (fun E H' V' => H2 = H' ∧ V = V' ∧ Par bi (T.idxOf x) d fr dm f caps E ∧ E 13 = .ptr H.length 0 ∧ E 16 = .ptr (H.length + 1) 0 ∧ E 18 = .bs (H.length + 2) 0 n.kids.length 1 false ∧ E 64 = kv ∧ E 65 = .int (n.kids.length : Nat) ∧ E 66 = .int (0 : Nat)) ?_ ?_
    ·rcases hr92 with ⟨tk, rfl⟩ | ⟨q, fz, rfl, hq⟩
     ·simp only [↓wpre, wall, simprocAttr, e16, hnl2, ints_len]; exact EQ_in ⟨rfl, rfl, ⟨e0, e1, e2, e3, e4, e5⟩, e13, e16, e18, rfl, rfl, rfl⟩
     ·simp only [↓wpre, wall, simprocAttr, e16, hnl2]; exact EQ_in ⟨rfl, rfl, ⟨e0, e1, e2, e3, e4, e5⟩, e13, e16, e18, rfl, rfl, rfl⟩
    clear e0 e1 e2 e3 e4 e5 e13 e16 e18 E
    rintro E _ _ ⟨rfl, rfl, ⟨e0, e1, e2, e3, e4, e5⟩, e13, e16, e18, e64, e65, e66⟩
    rw [W_block]
    have hTj : ∀ j, ∃ m, enterL T (mvL fr var d k 0 (kids.take j)) = T ++ m := fun j => (enter_preL hG fun y hy => hmk y (by
     rw [mvL_tk] at hy
     obtain ⟨z, hz, hyz⟩ := mem_subsL.1 hy
     exact mem_subsL.2 ⟨z, List.mem_of_mem_take hz, hyz⟩)).2.1
    refine W_loopE (fun j => n.kids.length - j) (fun j E H' V' => ∃ es', MvP fr var ve bi mi dm P J (sc || meL fr ve d k 0 (kids.take j)) (enterL T (mvL fr var d k 0 (kids.take j))) H' V' es' ∧ StpP bi P H V H' V' ∧ BK bi (fun q => q ≠ H.length + 2) H' ∧ H'[H.length]? = some (.cells false [.int (T.idxOf x : Nat), .int (d : Nat)]) ∧ H'[H.length + 1]? = some (.cells false [.int n.k, .int n.i, .str n.n, .sl las t1, kv]) ∧ H'[H.length + 2]? = some (.cells false (ints (((mvL fr var d k 0 (kids.take j)).map fun y => (((enterL T (mvL fr var d k 0 (kids.take j))).idxOf y : Nat) : Int)) ++ List.replicate (n.kids.length - j) 0))) ∧ Par bi (T.idxOf x) d fr dm f caps E ∧ E 13 = .ptr H.length 0 ∧ E 16 = .ptr (H.length + 1) 0 ∧ E 18 = .bs (H.length + 2) 0 n.kids.length 1 false ∧ E 64 = kv ∧ E 65 = .int (n.kids.length : Nat) ∧ E 66 = .int (j : Nat) ∧ j ≤ n.kids.length) ?_ 0 ⟨es, ?_, hS2, hbk0, hpl2, hnl2, ?_, ⟨e0, e1, e2, e3, e4, e5⟩, e13, e16, e18, e64, e65, e66, Nat.zero_le _⟩
    rotate_left
    ·rw [List.take_zero, mvL, enterL, meL, Bool.or_false]; exact hM2
    ·rw [List.take_zero, mvL, List.map_nil, List.nil_append, Nat.sub_zero]; exact hil2
    clear e0 e1 e2 e3 e4 e5 e13 e16 e18 e64 e65 e66 E
    rintro j E H3 V3 ⟨es3, hM3, hS3, hbk3, hp3, hn3, hi3, ⟨e0, e1, e2, e3, e4, e5⟩, e13, e16, e18, e64, e65, e66, hj⟩
    rcases Nat.lt_or_ge j n.kids.length with hlt | hge
    ·have hdec : decide ((j : Int) < n.kids.length) = true := by simpa using hlt
     have hltI : (j : Int) < n.kids.length := by omega
     obtain ⟨y0, d0, d1, d2⟩ := ints_get hlt
     have hy : kids[j]? = some (kids[j]'(by omega)) := List.getElem?_eq_getElem _
     generalize kids[j]'(by omega) = y at hy
     have hym := List.mem_of_getElem? hy
     have hyT : y ∈ T := hkx' y hym
     have hx0 : y0 = (T.idxOf y : Nat) := by
      have : n.kids[j]? = some ((T.idxOf y : Nat) : Int) := by rw [hnx, ← hX]; simp [ndOf, Tm.kids, hy]
      rw [this] at d0
      exact (Option.some.inj d0).symm
     subst hx0
     obtain ⟨_, rfl, c78⟩ := (binder_ret n.k j).call rfl (by simp [pvs_cons, pvs_nil, pv_v])
     have hb01 := binder_01 n.k j
     have hb02 := binder_01 k j
     obtain ⟨mj, hmj⟩ := hTj j
     have hyT3 : y ∈ enterL T (mvL fr var d k 0 (kids.take j)) := by rw [hmj]; exact List.mem_append_left _ hyT
     have hdp : d + (binderG k j).toNat + y.dp ≤ 1000000 := by
      have h1 := (tdp_split hy).2
      rw [← hX, Tm.dp] at hd
      omega
     obtain ⟨mv1, mv2⟩ := mvL_take (fr := fr) (var := var) (ve := ve) (d := d) (k := k) hy
     have hen : enterL T (mvL fr var d k 0 (kids.take (j + 1))) = Tm.enter (enterL T (mvL fr var d k 0 (kids.take j))) (y.mv fr var (d + (binderG k j).toNat)) := by rw [mv1, enterL_one]
     have hlj : (Tm.enter (enterL T (mvL fr var d k 0 (kids.take j))) (y.mv fr var (d + (binderG k j).toNat))).length ≤ 65536 := by
      rw [← hen, mvL_tk]
      obtain ⟨_, ⟨m, hm⟩, _⟩ := enterL_at hG hmk (j + 1)
      have := congrArg List.length hm
      rw [List.length_append] at this; omega
     have w80 : IntKind.i64.wrap ((d : Nat) + binderG n.k j) = ((d + (binderG k j).toNat : Nat) : Int) := by rw [hnk] at hb01 ⊢; rw [wrap_in (by unfold in64; omega)]; omega
     obtain ⟨_, _, ⟨rfl, H4, V4, es4, rfl, hM4, hS4⟩, c53⟩ := (ih y hym hM3 hyT3 (Nat.le_trans hbase hS3.fr.1) hdp hlj).callRet rfl
     have hiy : (enterL T (mvL fr var d k 0 (kids.take j))).idxOf y = T.idxOf y := by rw [hmj, idx_pre hyT]
     rw [hiy] at c53
     have hP4 := hS3.trans hS4
     have hp4 := hS4.cells _ _ _ (by omega) hp3
     have hn4 := hS4.cells _ _ _ (by omega) hn3
     have hi4 := hS4.cells _ _ _ (by omega) hi3
     have hkj3 := r9.mono hS3.fr
     rw [← hen] at hM4 c53
     rw [Bool.or_assoc, ← mv2] at hM4
     have ldm := lt_of_get hM.map
     have lq3 := lt_of_get hi3
     have hbk4 : BK bi (fun q => q ≠ H.length + 2) H4 := (hS4.bk _ hbk3).same rfl fun q hq => hq.elim id fun hq => by omega
     have hJ4 : ∀ o, J (sc || meL fr ve d k 0 (kids.take (j + 1))) (H4.set (H.length + 2) o) (enterL T (mvL fr var d k 0 (kids.take (j + 1)))) := fun o => by
      have := hV.stab (m := []) (H' := H4.set (H.length + 2) o) hM4.j id (fun q fz c q1 _ h => by rw [List.getElem?_set, if_neg (by omega)]; exact h) (fun q es _ _ h => by
       have : H.length + 2 ≠ q := by rintro rfl; rw [hi4] at h; cases h
       rw [List.getElem?_set, if_neg this]; exact h)
      simpa using this
     have hmid : ((mvL fr var d k 0 (kids.take (j + 1))).map fun y => (((enterL T (mvL fr var d k 0 (kids.take (j + 1)))).idxOf y : Nat) : Int)) = ((mvL fr var d k 0 (kids.take j)).map fun y => (((enterL T (mvL fr var d k 0 (kids.take j))).idxOf y : Nat) : Int)) ++ [(((enterL T (mvL fr var d k 0 (kids.take (j + 1)))).idxOf (y.mv fr var (d + (binderG k j).toNat)) : Nat) : Int)] := by
      have hmj1 : ∀ z ∈ (y.mv fr var (d + (binderG k j).toNat)).subs, z.right = true := fun z hz => hmk z (mem_subsL.2 ⟨_, List.mem_of_getElem? (by simpa using mvL_get (fr := fr) (var := var) (d := d) (k := k) (j := 0) hy), hz⟩)
      obtain ⟨_, ⟨m, hm⟩, _⟩ := enter_pre hM3.gt hmj1
      rw [← hen] at hm
      conv => lhs; arg 2; rw [mv1]
      rw [List.map_append, List.map_cons, List.map_nil]
      congr 1
      rw [hm]
      refine idx_map_pre fun z hz => ?_
      have h3 := (enterL_at hG hmk j).2.2
      rw [← mvL_tk] at h3
      exact h3 z hz
     have hset := ids_step (v := (((enterL T (mvL fr var d k 0 (kids.take (j + 1)))).idxOf (y.mv fr var (d + (binderG k j).toNat)) : Nat) : Int)) (n := n.kids.length) (a := (mvL fr var d k 0 (kids.take j)).map fun y => (((enterL T (mvL fr var d k 0 (kids.take j))).idxOf y : Nat) : Int)) (j := j) (by rw [List.length_map, mvL_len, List.length_take]; omega) hlt
     rw [← hmid] at hset
     rcases hkj3 with ⟨tk, rfl⟩ | ⟨q, fz, rfl, hq3⟩
     ·simp only [↓wpre, wall, simprocAttr, e0, e1, e2, e3, e4, e5, e16, e18, e64, e65, e66, hdec, d2, ints_all, hn3, c78, w80, c53, hltI, hi4, Nat.zero_add, Nat.mul_one]
      have hjl : j + 1 ≤ (ints (((mvL fr var d k 0 (kids.take j)).map fun y => (((enterL T (mvL fr var d k 0 (kids.take j))).idxOf y : Nat) : Int)) ++ List.replicate (n.kids.length - j) 0)).length := by rw [ints_len, List.length_append, List.length_map, mvL_len, List.length_take, List.length_replicate]; omega
      refine ⟨hjl, EQ_in ⟨j + 1, by omega, es4, ⟨hM4.bs.setQ hbk4 (by omega) (by omega) _, hM4.gt, by rw [List.getElem?_set, if_neg (by omega)]; exact hM4.map, hM4.dm, hJ4 _⟩, hP4.setN (by omega) lb _, hbk4.same (by rw [List.getElem?_set, if_neg (by omega)]) fun _ h => h, by rw [List.getElem?_set, if_neg (by omega)]; exact hp4, by rw [List.getElem?_set, if_neg (by omega)]; exact hn4, by rw [List.getElem?_set, if_pos rfl, if_pos (lt_of_get hi4)]; exact congrArg (fun l => some (AObj.cells false l)) hset, ⟨e0, e1, e2, e3, e4, e5⟩, e13, e16, e18, e64, e65, next_ixv (by omega), by omega⟩⟩
     ·have hdr : ((ints n.kids).drop j).head? = some (.int (T.idxOf y : Nat)) := by rw [List.head?_drop]; exact d2
      simp only [↓wpre, wall, simprocAttr, e0, e1, e2, e3, e4, e5, e16, e18, e64, e65, e66, hdec, hq3, ints_all, hn3, c78, w80, c53, hltI, hi4, Nat.zero_add, Nat.mul_one, hdr]
      have hjl : j + 1 ≤ (ints (((mvL fr var d k 0 (kids.take j)).map fun y => (((enterL T (mvL fr var d k 0 (kids.take j))).idxOf y : Nat) : Int)) ++ List.replicate (n.kids.length - j) 0)).length := by rw [ints_len, List.length_append, List.length_map, mvL_len, List.length_take, List.length_replicate]; omega
      refine ⟨hjl, EQ_in ⟨j + 1, by omega, es4, ⟨hM4.bs.setQ hbk4 (by omega) (by omega) _, hM4.gt, by rw [List.getElem?_set, if_neg (by omega)]; exact hM4.map, hM4.dm, hJ4 _⟩, hP4.setN (by omega) lb _, hbk4.same (by rw [List.getElem?_set, if_neg (by omega)]) fun _ h => h, by rw [List.getElem?_set, if_neg (by omega)]; exact hp4, by rw [List.getElem?_set, if_neg (by omega)]; exact hn4, by rw [List.getElem?_set, if_pos rfl, if_pos (lt_of_get hi4)]; exact congrArg (fun l => some (AObj.cells false l)) hset, ⟨e0, e1, e2, e3, e4, e5⟩, e13, e16, e18, e64, e65, next_ixv (by omega), by omega⟩⟩
    ·have hdec : decide ((j : Int) < n.kids.length) = false := by simpa using hge
     rw [List.take_of_length_le (by omega)] at hM3 hi3
     rw [show n.kids.length - j = 0 from by omega, List.replicate_zero, List.append_nil] at hi3
     simp only [↓wpre, wall, simprocAttr, e65, e66, hdec]
     exact EQ_in ⟨es3, hM3, hS3, hp3, hn3, hi3, ⟨e0, e1, e2, e3, e4, e5⟩, e13, e16, e18⟩
   clear e0 e1 e2 e3 e4 e5 e13 e16 e18 E
   rintro E H3 V3 ⟨es3, hM3, hS3, hp3, hn3, hi3, ⟨e0, e1, e2, e3, e4, e5⟩, e13, e16, e18⟩
   have hlm : (mvL fr var d k 0 kids).length = kids.length := mvL_len
   obtain ⟨hGk, ⟨mk0, hmk0⟩, hkk⟩ := enter_preL (l := mvL fr var d k 0 kids) hG fun y hy => by
    have h1 : ∀ y ∈ (x.mv fr var d).subs, y.right = true := mv_right (var := var) hV.right d fun y hy => hG.right y (hG.good.subs x hx y hy)
    rw [m1] at h1
    exact h1 y (by rw [Tm.subs]; simp [hy])
   have hr0 : (Tm.mk k i nm ls (mvL fr var d k 0 kids)).right = true := by rw [right_len hlm, hX]; exact hrx
   have hin : ∀ y ∈ mvL fr var d k 0 kids, y ∈ enterL T (mvL fr var d k 0 kids) := fun y hy => (hkk y).2 (.inr (mem_subsL.2 ⟨y, hy, subs_self y⟩))
   rw [enter_eq hG.good] at hl ⊢
   have hnk1 : n.i = i := by rw [hnx, ← hX]; rfl
   have hnk2 : n.n = nm := by rw [hnx, ← hX]; rfl
   have hnk3 : n.ls = ls := by rw [hnx, ← hX]; rfl
   have hlq3 := lt_of_get hi3
   have ldm := lt_of_get hM.map
   have hS5 := hS3.setN (q := H.length + 1) (by omega) lb (.cells false [.int n.k, .int n.i, .str n.n, .sl las t1, .bs (H.length + 2) 0 n.kids.length 1 false])
   have hB5 := hM3.bs.keep (H' := H3.set (H.length + 1) (.cells false [.int n.k, .int n.i, .str n.n, .sl las t1, .bs (H.length + 2) 0 n.kids.length 1 false])) (V' := V3) (by rw [List.getElem?_set, if_neg (by omega)]) (by rw [List.getElem?_set, if_neg (by omega)]) (fri_set hn3 node_noints) fun _ _ _ h => h
   have hn5 : (H3.set (H.length + 1) (.cells false [.int n.k, .int n.i, .str n.n, .sl las t1, .bs (H.length + 2) 0 n.kids.length 1 false]))[H.length + 1]? = some (.cells false [.int n.k, .int n.i, .str n.n, .sl las t1, .bs (H.length + 2) 0 n.kids.length 1 false]) := by rw [List.getElem?_set, if_pos rfl, if_pos (by omega)]
   have hg5 : ∀ q, q ≠ H.length + 1 → (H3.set (H.length + 1) (AObj.cells false [.int n.k, .int n.i, .str n.n, .sl las t1, .bs (H.length + 2) 0 n.kids.length 1 false]))[q]? = H3[q]? := fun q hq => by rw [List.getElem?_set, if_neg (Ne.symm hq)]
   have hi5 := hi3
   rw [← hg5 _ (by omega)] at hi5
   have hL5 : (H3.set (H.length + 1) (AObj.cells false [.int n.k, .int n.i, .str n.n, .sl las t1, .bs (H.length + 2) 0 n.kids.length 1 false])).length = H3.length := List.length_set
   have hnd : NdH (H3.set (H.length + 1) (.cells false [.int n.k, .int n.i, .str n.n, .sl las t1, .bs (H.length + 2) 0 n.kids.length 1 false])) (ndOf (enterL T (mvL fr var d k 0 kids)) (.mk k i nm ls (mvL fr var d k 0 kids))) (.agg [.int n.k, .int n.i, .str n.n, .sl las t1, .bs (H.length + 2) 0 n.kids.length 1 false]) := by
    refine ⟨t1, las, .bs (H.length + 2) 0 n.kids.length 1 false, ?_, r1, by show in64 k; rw [← hnk]; exact r2, by show in64 i; rw [← hnk1]; exact r3, by show nm.size ≤ _; rw [← hnk2]; exact r4, r5, ?_, by show LIs Lv.Is ls las; rw [← hnk3]; exact r7, ?_, .inr ⟨H.length + 2, false, ?_, hi5⟩⟩
    ·show _ = AV.agg [.int k, .int i, .str nm, _, _]
     rw [hnk, hnk1, hnk2]
    ·show ((mvL fr var d k 0 kids).map _).length ≤ _
     rw [List.length_map, hlm, ← hkl]; exact r6
    ·intro z hz
     obtain ⟨y, hy, rfl⟩ := List.mem_map.1 hz
     have := List.idxOf_lt_length_of_mem (hin y hy)
     unfold in64
     obtain ⟨m, hm⟩ := addT_pre (enterL T (mvL fr var d k 0 kids)) (.mk k i nm ls (mvL fr var d k 0 kids))
     have := congrArg List.length hm
     rw [List.length_append] at this; omega
    ·show _ = AV.bs _ _ ((mvL fr var d k 0 kids).map _).length _ _
     rw [List.length_map, hlm, hkl]
   have hAK : ∀ q, AKid (.agg [.int n.k, .int n.i, .str n.n, .sl las t1, .bs (H.length + 2) 0 n.kids.length 1 false]) q → q = H.length + 2 := by
    rintro q ⟨_, _, _, _, _, e, _, _, _, _, rfl⟩
    simp only [AV.agg.injEq, List.cons.injEq, AV.bs.injEq] at e
    exact e.2.2.2.2.1.1.symm
   obtain ⟨_, _, ⟨rfl, H6, V6, rfl, hB6, hF6, hV6, hK6, hQ6⟩, c73⟩ := (badd_sh hB5 hGk hr0 hin hnd hl).callRet rfl
   simp only [↓wpre, wall, simprocAttr, e0, e16, e18, hn3, hn5, c73]
   have hK : ∀ q, q < H.length → q ≠ bi → q ≠ mi → H6[q]? = H3[q]? := fun q h1 h2 h3 => by
    rw [hK6 q (by omega) h2 h3 fun h => by have := hAK q h; omega]
    exact hg5 q (by omega)
   obtain ⟨m6, hm6⟩ := addT_pre (enterL T (mvL fr var d k 0 kids)) (.mk k i nm ls (mvL fr var d k 0 kids))
   refine EQ_in ⟨es3, ⟨hB6, addT_good hGk hr0 hin, by rw [hK dm ldm hV.nb hV.nm]; exact hM3.map, ?_, ?_⟩, ⟨hS5.fr.trans hF6, hS5.vk.trans hV6, fun q fz c h1 h2 => ?_, fun q es h1 h2 => ?_, fun Q hQ => hQ6 _ (hS5.bk Q hQ) fun q hq => .inr (by have := hAK q hq; omega)⟩, ?_, e4, e13, rfl⟩
   ·rw [hm6]; exact hM3.dm.grow fun h => h
   ·rw [hm6]
    refine hV.stab hM3.j id (fun q fz c h1 h2 h3 => ?_) fun q es h1 h2 h3 => ?_
    ·rw [hK q (by omega) h2 (fun e => by subst e; obtain ⟨_, _, _, _, _, _, c2, _⟩ := hM3.bs; rw [c2] at h3; cases h3)]; exact h3
    ·have hb : q ≠ bi := fun e => by subst e; obtain ⟨_, _, _, _, _, c1, _⟩ := hM3.bs; rw [c1] at h3; cases h3
     have h4 : q ≠ H.length + 1 := fun e => by subst e; rw [hn3] at h3; cases h3
     have h5 : q ≠ H.length + 2 := fun e => by subst e; rw [hi3] at h3; cases h3
     rw [hK6 q (by rw [hL5]; exact lt_of_get h3) hb h1 fun h => h5 (hAK q h), hg5 q h4]; exact h3
   ·have hq := lt_of_get h2
    rw [hK q hq h1 (fun e => by subst e; rw [b2] at h2; cases h2)]
    exact hS3.cells q fz c h1 h2
   ·have hq := lt_of_get h2
    rw [hK q hq (fun e => by subst e; rw [b1] at h2; cases h2) (fun e => hV.pm (e ▸ h1))]
    exact hS3.maps q es h1 h2
   ·rw [hK6 H.length (by omega) (by omega) (by omega) fun h => by have := hAK _ h; omega, hg5 _ (by omega)]; exact hp3
 clear e0 e1 e2 e3 e4 e5 e13 e16 E
 rintro E H2 V2 ⟨es2, hM2, hS2, hp2, e4, e13, e17⟩
 obtain ⟨L2, eL2, hL2⟩ := hM2.dm
 obtain ⟨m2, hm2⟩ : ∃ m, (x.mv fr var d).enter T = T ++ m := by
  have hrm : ∀ y ∈ (x.mv fr var d).subs, y.right = true := mv_right (var := var) hV.right d fun y hy => hG.right y (hG.good.subs x hx y hy)
  exact (enter_pre hG hrm).2.1
 have hx2 : x ∈ (x.mv fr var d).enter T := by rw [hm2]; exact List.mem_append_left _ hx
 have hi2 : ((x.mv fr var d).enter T).idxOf x = T.idxOf x := by rw [hm2]; exact idx_pre hx
 have hmv2 : x.mv fr var d ∈ (x.mv fr var d).enter T := by
  have hrm : ∀ y ∈ (x.mv fr var d).subs, y.right = true := mv_right (var := var) hV.right d fun y hy => hG.right y (hG.good.subs x hx y hy)
  exact ((enter_pre hG hrm).2.2 _).2 (.inr (subs_self _))
 obtain ⟨L3, hup, hL3⟩ := up_dm (fr := fr) (var := var) (d := d) hx2 (L := L2) fun p hp => (hL2 p hp).1
 rw [← eL2, hi2] at hup
 have hmd2 := hM2.map
 have ldm := lt_of_get hmd2
 simp only [↓wpre, wall, simprocAttr, e4, e13, e17, hp2, hmd2, hup, gOK]
 have hFm : FrI H2 (H2.set dm (.map (L3.map (dmE fr var ((x.mv fr var d).enter T))))) := fri_set hmd2 fun fz ks h => by cases h
 have hbs := hM2.bs
 refine ⟨_, _, _, rfl, ⟨hbs.keep (by rw [List.getElem?_set, if_neg hV.nb]) (by rw [List.getElem?_set, if_neg hV.nm]) hFm fun _ _ _ h => h, hM2.gt, by rw [List.getElem?_set, if_pos rfl, if_pos ldm], ⟨L3, rfl, fun p hp => ?_⟩, ?_⟩, hS2.trans ⟨hFm, VK.same V2 (by rw [List.getElem?_set, if_neg hV.nb]), fun q fz c q1 q2 => ?_, fun q es q1 q2 => ?_, fun Q hQ => hQ.same (by rw [List.getElem?_set, if_neg hV.nb]) fun _ h => .inl h⟩⟩
 ·rcases hL3 p hp with h | rfl
  ·exact hL2 p h
  ·exact ⟨hx2, hmv2, fun h => by rw [show x.me fr ve d = true from h, Bool.or_true]⟩
 ·have := hV.stab (m := []) (H' := H2.set dm (.map (L3.map (dmE fr var ((x.mv fr var d).enter T))))) hM2.j id (fun q fz c _ _ h => by
   have : dm ≠ q := by rintro rfl; rw [hmd2] at h; cases h
   rw [List.getElem?_set, if_neg this]; exact h) (fun q es _ q2 h => by rw [List.getElem?_set, if_neg (Ne.symm q2)]; exact h)
  simpa using this
 ·have : dm ≠ q := by rintro rfl; rw [hmd2] at q2; cases q2
  rw [List.getElem?_set, if_neg this]; exact q2
 ·have : dm ≠ q := by rintro rfl; exact hV.pd q1
  rw [List.getElem?_set, if_neg this]; exact q2
end
end Go.Proofs.Eng
