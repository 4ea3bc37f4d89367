/- Sizes of encodings. No conditions beyond those in the theorems. -/
import Derived.Test.YtjiheebhmokfbaaDoorC2
set_option linter.all false
set_option linter.deprecated false
set_option linter.unnecessarySimpa false
set_option linter.unusedVariables false
set_option linter.unusedSimpArgs false
set_option linter.defProp false
namespace Go.Proofs.Eng
open Go Go.Proofs
set_option maxRecDepth 100000
set_option maxHeartbeats 16000000
theorem BS.ow_lt {bi mi : Nat} {sc : Bool} {T : List Tm} {H : List AObj} {V : List Nat} (h : BS bi mi sc T H V) {i : Nat} (ho : OwB bi H i) : i < V.length := by
 obtain ⟨_, al, tn, tf, es, b1, _, _, _, b5, b6, _⟩ := h
 obtain ⟨_, _, _, _, _, _, _, v, e1, e2⟩ := ho
 rw [b1] at e1
 simp only [Option.some.injEq, AObj.cells.injEq, List.cons.injEq, AV.sl.injEq, true_and, and_true] at e1
 obtain ⟨⟨_, rfl⟩, _, ⟨_, rfl⟩, _⟩ := e1
 rcases e2 with e2 | e2
 ·exact b5.lt e2
 ·exact b6.lt e2
theorem BS.keep {bi mi : Nat} {sc : Bool} {T : List Tm} {H H' : List AObj} {V V' : List Nat} (h : BS bi mi sc T H V) (h1 : H'[bi]? = H[bi]?) (h2 : H'[mi]? = H[mi]?) (hf : FrI H H') (hv : ∀ i v, OwB bi H i → V[i]? = some v → V'[i]? = some v) : BS bi mi sc T H' V' := by
 obtain ⟨hne, al, tn, tf, es, b1, b2, b3, b4, b5, b6, b7⟩ := h
 refine ⟨hne, al, tn, tf, es, by rw [h1]; exact b1, by rw [h2]; exact b2, b3.mono2 fun x a hx => hx.mono hf, b4, ?_, ?_, b7⟩
 ·rcases b5 with h | ⟨h3, i, v, rfl, h4⟩
  ·exact .inl h
  ·exact .inr ⟨h3, i, v, rfl, hv i v ⟨_, _, _, _, _, _, _, v, b1, .inl rfl⟩ h4⟩
 ·rcases b6 with h | ⟨h3, i, v, rfl, h4⟩
  ·exact .inl h
  ·exact .inr ⟨h3, i, v, rfl, hv i v ⟨_, _, _, _, _, _, _, v, b1, .inr rfl⟩ h4⟩
theorem BS.bi_lt {bi mi : Nat} {sc : Bool} {T : List Tm} {H : List AObj} {V : List Nat} (h : BS bi mi sc T H V) : bi < H.length ∧ mi < H.length := by
 obtain ⟨_, _, _, _, _, b1, b2, _⟩ := h
 exact ⟨lt_of_get b1, lt_of_get b2⟩
theorem BS.app {bi mi : Nat} {sc : Bool} {T : List Tm} {H : List AObj} {V : List Nat} (h : BS bi mi sc T H V) (G : List AObj) : BS bi mi sc T (H ++ G) V := by
 obtain ⟨l1, l2⟩ := h.bi_lt
 exact h.keep (List.getElem?_append_left l1) (List.getElem?_append_left l2) (.app _ _) fun _ _ _ h => h
theorem GT.take {T : List Tm} (h : GT T) (j : Nat) : GT (T.take j) := ⟨Good.cut (m := T.drop j) (by rw [List.take_append_drop]; exact h.good), fun t ht => h.right t (List.mem_of_mem_take ht)⟩
theorem idx_map_pre {T m : List Tm} {l : List Tm} (h : ∀ x ∈ l, x ∈ T) : (l.map fun x => (((T ++ m).idxOf x : Nat) : Int)) = l.map fun x => ((T.idxOf x : Nat) : Int) := List.map_congr_left fun x hx => by rw [idx_pre (h x hx)]
theorem fri_set {H : List AObj} {k : Nat} {o o' : AObj} (h : H[k]? = some o) (ho : ∀ (fz : Bool) (ks : List Int), o ≠ AObj.cells fz (ints ks)) : FrI H (H.set k o') := by
 refine ⟨by rw [List.length_set]; exact Nat.le_refl _, fun q fz ks hq => ⟨fz, ?_⟩⟩
 have : k ≠ q := by rintro rfl; rw [h] at hq; exact ho fz ks (Option.some.inj hq)
 rw [List.getElem?_set, if_neg this]; exact hq
theorem node_noints {fz : Bool} {k i : Int} {nm : ByteArray} {x y : AV} (fz' : Bool) (ks : List Int) : AObj.cells fz [.int k, .int i, .str nm, x, y] ≠ AObj.cells fz' (ints ks) := by
 intro h
 simp only [AObj.cells.injEq] at h
 have := congrArg (fun l => l[2]?) h.2
 simp only [ints, List.getElem?_map] at this
 cases hk : ks[2]? with
 | none => rw [hk] at this; simp at this
 | some z => rw [hk] at this; simp at this
theorem eqA_ints (l : List Int) (t : Tl) : eqAV (.sl (ints l) t) (.sl (ints l) t) = true := by
 have : ∀ l : List Int, eqAVs (ints l) (ints l) = true := by
  intro l
  induction l with
  | nil => rw [ints, List.map_nil, eqAVs]
  | cons x l ih => simp only [ints] at ih ⊢; rw [List.map_cons, eqAVs, ih, eqAV]; simp [eqV]
 rw [eqAV, this]; simp
theorem owb_app {bi : Nat} {H : List AObj} (h : bi < H.length) (G : List AObj) (i : Nat) : OwB bi (H ++ G) i ↔ OwB bi H i := by
 unfold OwB; rw [List.getElem?_append_left h]
theorem owb_eq {bi : Nat} {H H' : List AObj} (h : H'[bi]? = H[bi]?) (i : Nat) : OwB bi H' i ↔ OwB bi H i := by
 unfold OwB; rw [h]
structure Stp (bi mi : Nat) (H : List AObj) (V : List Nat) (H' : List AObj) (V' : List Nat) : Prop where
 fr : FrI H H'
 vk : VK bi H V H' V'
 keep : ∀ k, k < H.length → k ≠ bi → k ≠ mi → H'[k]? = H[k]?
theorem Stp.trans {bi mi : Nat} {A B C : List AObj} {V V' V'' : List Nat} (h : Stp bi mi A V B V') (k : Stp bi mi B V' C V'') : Stp bi mi A V C V'' :=
 ⟨h.fr.trans k.fr, h.vk.trans k.vk, fun i h1 h2 h3 => (k.keep i (Nat.lt_of_lt_of_le h1 h.fr.1) h2 h3).trans (h.keep i h1 h2 h3)⟩
theorem Stp.app {bi mi : Nat} {sc : Bool} {T : List Tm} {H : List AObj} {V : List Nat} (h : BS bi mi sc T H V) (G : List AObj) : Stp bi mi H V (H ++ G) V :=
 ⟨.app _ _, VK.same V (List.getElem?_append_left h.bi_lt.1), fun k h1 _ _ => List.getElem?_append_left h1⟩
theorem Stp.get {bi mi : Nat} {A B : List AObj} {V V' : List Nat} (h : Stp bi mi A V B V') {k : Nat} {o : AObj} (hk : A[k]? = some o) (h1 : k ≠ bi) (h2 : k ≠ mi) : B[k]? = some o := by rw [h.keep k (lt_of_get hk) h1 h2]; exact hk
theorem badd_call {bi mi : Nat} {sc : Bool} {T : List Tm} {H : List AObj} {V : List Nat} (hB : BS bi mi sc T H V) (hG : GT T) {t : Tm} (hr : t.right = true) (hk : ∀ x ∈ t.kids, x ∈ T) {a : AV} (hn : NdH H (ndOf T t) a) (hl : (addT T t).length ≤ 65536) (hak : ∀ k, AKid a k → H.length ≤ k) :
  ∃ H' V', BS bi mi sc (addT T t) H' V' ∧ Stp bi mi H V H' V' ∧ (∀ Q, BK bi Q H → (∀ k, AKid a k → Q k) → BK bi Q H') ∧ ∀ K KP, CW (run md pfs) md false ⟨H, V⟩ 73 [.ptr bi 0, a] K KP () = K (.int ((addT T t).idxOf t : Nat)) ⟨H', V'⟩ := by
 obtain ⟨v, _, ⟨rfl, H', V', rfl, h1, h2, h3, h4, hbk⟩, h5⟩ := (badd_sh hB hG hr hk hn hl).callRet rfl
 exact ⟨H', V', h1, ⟨h2, h3, fun k k1 k2 k3 => h4 k k1 k2 k3 fun h => by have := hak k h; omega⟩, hbk, h5⟩
theorem Nd.Is.noKid {n : Nd} {a : AV} (h : n.Is a) (k : Nat) : ¬ AKid a k := by
 obtain ⟨t1, t2, las, rfl, _⟩ := h
 rintro ⟨c0, c1, c2, c3, kv, e, o, len, es, ag, rfl⟩
 simp at e
theorem enterL_app : ∀ (l : List Tm) (T : List Tm) (x : Tm), enterL T (l ++ [x]) = Tm.enter (enterL T l) x
 | [], T, x => by rw [List.nil_append, enterL, enterL, enterL]
 | y :: l, T, x => by rw [List.cons_append, enterL, enterL_app l, enterL]
theorem enterL_take {T : List Tm} {l : List Tm} {j : Nat} {x : Tm} (h : l[j]? = some x) : enterL T (l.take (j + 1)) = Tm.enter (enterL T (l.take j)) x := by
 rw [List.take_add_one, h]
 exact enterL_app _ _ _
theorem term_sh {bi mi : Nat} {sc : Bool} (t : Tm) : ∀ {T : List Tm} {H : List AObj} {V : List Nat} {a : AV}, BS bi mi sc T H V → GT T → t.Is a → (∀ x ∈ t.subs, x.right = true) → (t.enter T).length ≤ 65536 →
  Sh md pfs 44 [.ptr bi 0, a] ⟨H, V⟩ (fun v s => v = .int ((t.enter T).idxOf t : Nat) ∧ ∃ H' V', s = ⟨H', V'⟩ ∧ BS bi mi sc (t.enter T) H' V' ∧ Stp bi mi H V H' V') fun _ _ => False := by
 induction t using Tm.ind with
 | h k i nm ls kids ih =>
 intro T H V a hB hG hI hr hl
 rw [enter_eq hG.good] at hl ⊢
 obtain ⟨t1, t2, las, kas, rfl, g1, g2, g3, g4, g5, g6, g7, g8, g9⟩ := hI.opn
 have hkl := g9.len
 have hall := g9.all tmAgg
 have hrk : ∀ x ∈ subsL kids, x.right = true := fun x hx => hr x (by rw [Tm.subs]; simp [hx])
 have hr0 : (Tm.mk k i nm ls kids).right = true := hr _ (subs_self _)
 obtain ⟨m0, hm0⟩ := addT_pre (enterL T kids) (.mk k i nm ls kids)
 have hlE : (enterL T kids).length ≤ 65536 := by have := congrArg List.length hm0; rw [List.length_append] at this; omega
 have hkT : ∀ j, GT (enterL T (kids.take j)) ∧ (∃ m, enterL T kids = enterL T (kids.take j) ++ m) ∧ ∀ x ∈ kids.take j, x ∈ enterL T (kids.take j) := fun j => by
  have h1 : ∀ x ∈ subsL (kids.take j), x.right = true := fun x hx => by
   obtain ⟨y, hy, hxy⟩ := mem_subsL.1 hx
   exact hrk x (mem_subsL.2 ⟨y, List.mem_of_mem_take hy, hxy⟩)
  obtain ⟨a1, _, a3⟩ := enter_preL (l := kids.take j) hG h1
  refine ⟨a1, ?_, fun x hx => (a3 x).2 (.inr (mem_subsL.2 ⟨x, hx, subs_self x⟩))⟩
  have h2 : ∀ x ∈ subsL (kids.drop j), x.right = true := fun x hx => by
   obtain ⟨y, hy, hxy⟩ := mem_subsL.1 hx
   exact hrk x (mem_subsL.2 ⟨y, List.mem_of_mem_drop hy, hxy⟩)
  obtain ⟨_, b2, _⟩ := enter_preL (l := kids.drop j) a1 h2
  have e : ∀ (l m : List Tm) (T : List Tm), enterL T (l ++ m) = enterL (enterL T l) m := by
   intro l
   induction l with
   | nil => intro m T; rw [List.nil_append]; conv => rhs; rw [show enterL T [] = T from by rw [enterL]]
   | cons x l ih => intro m T; rw [List.cons_append, enterL, ih, enterL]
  rw [← e, List.take_append_drop] at b2
  exact b2
 obtain ⟨lb, lm⟩ := hB.bi_lt
 refine sh_of pf44_is (Nat.le_of_ble_eq_true rfl) ?_
 simp only [pf44]
 refine seqE (fun E H' V' => H' = H ++ [.cells false [.int k, .int i, .str nm, .sl las t1, .sl kas t2]] ∧ V = V' ∧ E 0 = .ptr bi 0 ∧ E 3 = .ptr H.length 0) ?_ ?_
 ·simp only [↓wpre, wall, simprocAttr, List.length_append, List.append_assoc, app_get_len, app_get_add, app_set_len, app_set_add]; exact EQ_in ⟨rfl, rfl, rfl, rfl⟩
 rintro E _ _ ⟨rfl, rfl, e0, e3⟩
 refine seqE (fun E H' V' => H' = H ++ [.cells false [.int k, .int i, .str nm, .sl las t1, .sl kas t2], .cells false [.int k, .int i, .str nm, .sl las t1, .sl [] .nil]] ∧ V = V' ∧ E 0 = .ptr bi 0 ∧ E 3 = .ptr H.length 0 ∧ E 5 = .ptr (H.length + 1) 0) ?_ ?_
 ·simp only [↓wpre, wall, simprocAttr, List.length_append, List.append_assoc, app_get_len, app_get_add, app_set_len, app_set_add, e0, e3, List.length_append]; exact EQ_in ⟨rfl, rfl, e0, e3, rfl⟩
 clear e0 e3 E
 rintro E _ _ ⟨rfl, rfl, e0, e3, e5⟩
 refine seqE (fun E H' V' => BS bi mi sc (enterL T kids) H' V' ∧ Stp bi mi H V H' V' ∧ E 0 = .ptr bi 0 ∧ E 5 = .ptr (H.length + 1) 0 ∧ ∃ tk, H'[H.length + 1]? = some (.cells false [.int k, .int i, .str nm, .sl las t1, .sl (ints (kids.map fun x => (((enterL T kids).idxOf x : Nat) : Int))) tk])) ?_ ?_
 ·refine seqE (fun E H' V' => H' = H ++ [.cells false [.int k, .int i, .str nm, .sl las t1, .sl kas t2], .cells false [.int k, .int i, .str nm, .sl las t1, .sl [] .nil]] ∧ V = V' ∧ E 0 = .ptr bi 0 ∧ E 5 = .ptr (H.length + 1) 0 ∧ E 18 = .sl kas t2 ∧ E 19 = .int kas.length ∧ E 20 = .int (0 : Nat)) ?_ ?_
  ·simp only [↓wpre, wall, simprocAttr, List.length_append, List.append_assoc, app_get_len, app_get_add, app_set_len, app_set_add, e0, e3, e5]; exact EQ_in ⟨rfl, rfl, e0, e5, rfl, rfl, rfl⟩
  clear e0 e3 e5 E
  rintro E _ _ ⟨rfl, rfl, e0, e5, e18, e19, e20⟩
  rw [W_block]
  refine W_loopE (fun j => kas.length - j) (fun j E H' V' => BS bi mi sc (enterL T (kids.take j)) H' V' ∧ Stp bi mi H V H' V' ∧ E 0 = .ptr bi 0 ∧ E 5 = .ptr (H.length + 1) 0 ∧ E 18 = .sl kas t2 ∧ E 19 = .int kas.length ∧ E 20 = .int (j : Nat) ∧ j ≤ kas.length ∧ ∃ tk, H'[H.length + 1]? = some (.cells false [.int k, .int i, .str nm, .sl las t1, .sl (ints ((kids.take j).map fun x => (((enterL T (kids.take j)).idxOf x : Nat) : Int))) tk]) ∧ App V' (ints ((kids.take j).map fun x => (((enterL T (kids.take j)).idxOf x : Nat) : Int))) tk ∧ ∀ i v, tk = .tl i v → V.length ≤ i ∧ ¬ OwB bi H' i) ?_ 0 ⟨by rw [List.take_zero, enterL]; exact hB.app _, .app hB _, e0, e5, e18, e19, e20, Nat.zero_le _, .nil, by simp [ints], app_start _, fun i v h => by cases h⟩
  clear e0 e5 e18 e19 e20 E
  rintro j E H1 V1 ⟨hB1, hS1, e0, e5, e18, e19, e20, hj, tk, hn1, hA1, ho1⟩
  obtain ⟨lb1, lm1⟩ := hB1.bi_lt
  have hln1 := lt_of_get hn1
  obtain ⟨hGj, ⟨mj, hmj⟩, hkj⟩ := hkT j
  rcases Nat.lt_or_ge j kas.length with hlt | hge
  ·have hdec : decide ((j : Int) < kas.length) = true := by simpa using hlt
   obtain ⟨x, c, d0, d1, d3, d4, d5, d6, d7, d8⟩ := g9.get tmAgg hlt
   have hrx : ∀ y ∈ x.subs, y.right = true := fun y hy => hrk y (mem_subsL.2 ⟨x, d3, hy⟩)
   have hen : enterL T (kids.take (j + 1)) = Tm.enter (enterL T (kids.take j)) x := enterL_take d0
   obtain ⟨hGj1, ⟨mj1, hmj1⟩, hkj1⟩ := hkT (j + 1)
   have hlx : (Tm.enter (enterL T (kids.take j)) x).length ≤ 65536 := by rw [← hen]; have := congrArg List.length hmj1; rw [List.length_append] at this; omega
   obtain ⟨_, _, ⟨rfl, H2, V2, rfl, hB2, hS2⟩, c44⟩ := (ih x d3 (hB1.app [.cells false c]) hGj d8 hrx hlx).callRet rfl
   rw [← hen] at hB2 c44
   have hn2 := hS2.get (app_get_of hn1 [.cells false c]) (by omega) (by omega)
   have hn1' := app_get_of hn1 [.cells false c]
   have hS12 := (hS1.trans (.app hB1 [.cells false c])).trans hS2
   have htk2 : ∀ i v, tk = .tl i v → ¬ OwB bi H2 i := fun i v e h => by
    rcases hS2.vk.2.2 i h with h1 | h1
    ·exact (ho1 i v e).2 ((owb_app lb1 _ i).1 h1)
    ·have := hA1.lt e; omega
   have hA2 := hA1.vk hS2.vk fun i v e h => (ho1 i v e).2 ((owb_app lb1 _ i).1 h)
   obtain ⟨tk', V3, f1, f2, f3⟩ := app_many (es := 1) (xs := [.int ((enterL T (kids.take (j + 1))).idxOf x : Nat)]) hA2 (by rw [ints_len, List.length_map, List.length_take]; show min j kids.length + 1 ≤ 1073741824; have := kidsN_range (k := k) (by have := (right_facts hr0).1.kids; simp only [Tm.k, Tm.kids] at this; omega); have := (right_facts hr0).1.kids; simp only [Tm.k, Tm.kids] at this; have : kidsN k ≤ 3 := by { unfold kidsN; repeat' split; all_goals omega }; omega) (ints_all _) rfl
   obtain ⟨_, ⟨m2, hm2⟩, _⟩ := enter_pre (t := x) hGj hrx
   rw [← hen] at hm2
   have hks : ints ((kids.take j).map fun x => (((enterL T (kids.take j)).idxOf x : Nat) : Int)) ++ [AV.int ((enterL T (kids.take (j + 1))).idxOf x : Nat)] = ints ((kids.take (j + 1)).map fun x => (((enterL T (kids.take (j + 1))).idxOf x : Nat) : Int)) := by
    have e1 : kids.take (j + 1) = kids.take j ++ [x] := by rw [List.take_add_one, d0]; rfl
    have e2 : ((kids.take j).map fun x => (((enterL T (kids.take (j + 1))).idxOf x : Nat) : Int)) = (kids.take j).map fun x => (((enterL T (kids.take j)).idxOf x : Nat) : Int) := by rw [hm2]; exact idx_map_pre hkj
    rw [← e2]
    conv => rhs; rw [show (kids.take (j + 1)).map (fun x => (((enterL T (kids.take (j + 1))).idxOf x : Nat) : Int)) = (kids.take j ++ [x]).map (fun x => (((enterL T (kids.take (j + 1))).idxOf x : Nat) : Int)) from by rw [← e1]]
    simp [ints]
   rw [hks] at f1 f2
   simp only [↓wpre, wall, simprocAttr, List.length_append, List.append_assoc, app_get_len, app_get_add, app_set_len, app_set_add, e0, e5, e18, e19, e20, hdec, d4, d5, d6, d7, hall, hn1', c44, hn2, eqA_ints, f1]
   have hF3 : FrI H2 (H2.set (H.length + 1) (.cells false [.int k, .int i, .str nm, .sl las t1, .sl (ints ((kids.take (j + 1)).map fun x => (((enterL T (kids.take (j + 1))).idxOf x : Nat) : Int))) tk'])) := fri_set hn2 node_noints
   have hb3 : (H2.set (H.length + 1) (AObj.cells false [.int k, .int i, .str nm, .sl las t1, .sl (ints ((kids.take (j + 1)).map fun x => (((enterL T (kids.take (j + 1))).idxOf x : Nat) : Int))) tk']))[bi]? = H2[bi]? := by rw [List.getElem?_set, if_neg (by omega)]
   have hm3 : (H2.set (H.length + 1) (AObj.cells false [.int k, .int i, .str nm, .sl las t1, .sl (ints ((kids.take (j + 1)).map fun x => (((enterL T (kids.take (j + 1))).idxOf x : Nat) : Int))) tk']))[mi]? = H2[mi]? := by rw [List.getElem?_set, if_neg (by omega)]
   have hB3 := hB2.keep (V' := V3) hb3 hm3 hF3 fun i v h1 h2 => f3.2.1 i v h2 fun ver e => htk2 i ver e h1
   refine EQ_in ⟨j + 1, by omega, hB3, ⟨hS12.fr.trans hF3, ⟨Nat.le_trans hS12.vk.1 f3.1, fun i v h1 h2 => f3.2.1 i v (hS12.vk.2.1 i v h1 h2) fun ver e => ?_, fun i h => hS12.vk.2.2 i ((owb_eq hb3 i).1 h)⟩, fun q q1 q2 q3 => ?_⟩, e0, e5, e18, e19, next_ixv (by omega), by omega, tk', ?_, f2, fun i v e => ?_⟩
   ·have := (List.getElem?_eq_some_iff.1 h1).1
    have := (ho1 i ver e).1
    omega
   ·rw [List.getElem?_set, if_neg (by omega)]
    exact hS12.keep q q1 q2 q3
   ·rw [List.getElem?_set, if_pos rfl, if_pos (lt_of_get hn2)]
   ·rcases f3.2.2 i v e with ⟨v0, h⟩ | h
    ·exact ⟨(ho1 i v0 h).1, fun h2 => htk2 i v0 h ((owb_eq hb3 i).1 h2)⟩
    ·exact ⟨Nat.le_trans (Nat.le_trans hS12.vk.1 (Nat.le_refl _)) h, fun h2 => by
      have := hB2.ow_lt ((owb_eq hb3 i).1 h2); omega⟩
  ·have hdec : decide ((j : Int) < kas.length) = false := by simpa using hge
   rw [List.take_of_length_le (by omega)] at hB1 hn1
   simp only [↓wpre, wall, simprocAttr, e19, e20, hdec]
   exact EQ_in ⟨hB1, hS1, e0, e5, tk, hn1⟩
 clear e0 e3 e5 E
 rintro E H1 V1 ⟨hB1, hS1, e0, e5, tk, hn1⟩
 obtain ⟨hGk, _, hkk⟩ := hkT kids.length
 rw [List.take_length] at hGk hkk
 have hni : ∀ x ∈ (kids.map fun x => (((enterL T kids).idxOf x : Nat) : Int)), in64 x := fun x hx => by
  obtain ⟨y, hy, rfl⟩ := List.mem_map.1 hx
  have := List.idxOf_lt_length_of_mem (hkk y hy)
  unfold in64; omega
 have hnd : NdH H1 (ndOf (enterL T kids) (.mk k i nm ls kids)) (.agg [.int k, .int i, .str nm, .sl las t1, .sl (ints (kids.map fun x => (((enterL T kids).idxOf x : Nat) : Int))) tk]) :=
  ⟨t1, las, _, rfl, g1, g3, g4, g5, g6, by show (kids.map _).length ≤ _; rw [List.length_map, ← hkl]; exact g7, g8, hni, .inl ⟨tk, rfl⟩⟩
 obtain ⟨H2, V2, hB2, hS2, _, c73⟩ := badd_call hB1 hGk hr0 hkk hnd hl (fun q hq => by
  obtain ⟨c0, c1, c2, c3, kv, e, o, len, es, ag, rfl⟩ := hq
  simp at e)
 simp only [↓wpre, wall, simprocAttr, e0, e5, hn1, c73]
 exact ⟨_, _, rfl, hB2, hS1.trans hS2⟩
theorem good_at {T : List Tm} (h : GT T) {j : Nat} {t : Tm} (ht : T[j]? = some t) : (∀ x ∈ t.kids, x ∈ T.take j) ∧ t ∉ T.take j ∧ T.take (j + 1) = T.take j ++ [t] := by
 have hlt := (List.getElem?_eq_some_iff.1 ht).1
 have e1 : T.take (j + 1) = T.take j ++ [t] := by rw [List.take_add_one, ht]; rfl
 have hg := (h.take (j + 1)).good
 rw [e1] at hg
 refine ⟨Good.next (m := []) hg, fun hm => ?_, e1⟩
 have := hg.nodup
 rw [List.nodup_append] at this
 exact this.2.2 t hm t (by simp) rfl
theorem begin_rw {T : List Tm} (hG : GT T) (hl : T.length ≤ 65536) {g : AV} (h : GIs (nodesOf T) g) {H : List AObj} {V : List Nat} : Rw 42 [g] ⟨H, V⟩ fun v s => ∃ (bi mi : Nat) (H' : List AObj) (V' : List Nat), v = .ptr bi 0 ∧ s = ⟨H', V'⟩ ∧ BS bi mi false T H' V' ∧ H.length ≤ bi ∧ H.length ≤ mi ∧ FrI H H' ∧ (∀ k, k < H.length → H'[k]? = H[k]?) ∧ V.length ≤ V'.length ∧ ∀ (i v : Nat), V[i]? = some v → V'[i]? = some v := by
 obtain ⟨al, t, rfl, ht, hal, hL⟩ := h
 have hln := hL.len
 rw [nodes_len] at hln
 have hall := hL.all ndAgg
 refine rw_of pf42_is (Nat.le_of_ble_eq_true rfl) ?_
 simp only [pf42, ↓wpre, wall, simprocAttr, List.length_append, List.append_assoc, app_get_len, app_get_add, app_set_len, app_set_add]
 have hB0 : BS (H.length + 2) (H.length + 1) false [] (H ++ [.cells false [.sl al t], .map [], .cells false [.sl [] .nil, .mp (H.length + 1), .sl [] .nil, .bool false, .bool false]]) V := by
  refine ⟨by omega, [], .nil, .nil, [], by simp [frs, ints], by simp, trivial, mapT_nil, app_start _, app_start _, fun i v v' h => by cases h⟩
 refine W_loopE (fun j => al.length - j) (fun j E H1 V1 => BS (H.length + 2) (H.length + 1) false (T.take j) H1 V1 ∧ Stp (H.length + 2) (H.length + 1) (H ++ [.cells false [.sl al t], .map [], .cells false [.sl [] .nil, .mp (H.length + 1), .sl [] .nil, .bool false, .bool false]]) V H1 V1 ∧ E 3 = .ptr (H.length + 2) 0 ∧ E 10 = .sl al t ∧ E 11 = .int al.length ∧ E 12 = .int (j : Nat) ∧ j ≤ al.length) ?_ 0 ⟨by simpa using hB0, ⟨.refl _, VK.same V rfl, fun _ _ _ _ => rfl⟩, rfl, rfl, rfl, rfl, Nat.zero_le _⟩
 rintro j E H1 V1 ⟨hB, hS, e3, e10, e11, e12, hj⟩
 rcases Nat.lt_or_ge j al.length with hlt | hge
 ·have hdec : decide ((j : Int) < al.length) = true := by simpa using hlt
  obtain ⟨n, c, d0, d1, d3, d4, d5, d6, d7, d8⟩ := hL.get ndAgg hlt
  obtain ⟨x, hx⟩ : ∃ x, T[j]? = some x := ⟨T[j]'(by omega), List.getElem?_eq_getElem _⟩
  have hnx : n = ndOf T x := by
   rw [nodesOf, List.getElem?_map, hx] at d0
   exact (Option.some.inj d0).symm
  obtain ⟨hk, hnm, htk⟩ := good_at hG hx
  have hxT : x ∈ T := List.mem_of_getElem? hx
  have hnj : n = ndOf (T.take j) x := by
   rw [hnx]
   conv => lhs; rw [← List.take_append_drop j T]
   exact ndOf_app hk _
  have ha : addT (T.take j) x = T.take (j + 1) := by rw [addT, if_neg hnm, htk]
  have hB' := hB.app [.cells false c]
  rw [hnj] at d8
  obtain ⟨H2, V2, hB2, hS2, _, c73⟩ := badd_call hB' (hG.take j) (hG.right x hxT) hk (NdH.of d8 _) (by rw [ha, List.length_take]; omega) fun k hk => absurd hk (d8.noKid k)
  rw [ha] at hB2 c73
  simp only [↓wpre, wall, simprocAttr, List.length_append, List.append_assoc, app_get_len, app_get_add, app_set_len, app_set_add, e3, e10, e11, e12, hdec, d4, d5, d6, d7, hall, c73]
  exact EQ_in ⟨j + 1, by omega, hB2, (hS.trans (.app hB _)).trans hS2, e3, e10, e11, next_ixv (by omega), by omega⟩
 ·have hdec : decide ((j : Int) < al.length) = false := by simpa using hge
  rw [List.take_of_length_le (by omega)] at hB
  simp only [↓wpre, wall, simprocAttr, e3, e10, e11, e12, hdec, AQ_ret, AQ_normal, AQ_exit]
  refine ⟨_, _, _, _, rfl, rfl, hB, by omega, by omega, (FrI.app _ _).trans hS.fr, fun k hk => ?_, hS.vk.1, fun i v h => hS.vk.2.1 i v h fun ⟨_, _, _, _, _, _, _, w, e1, e2⟩ => ?_⟩
  ·rw [hS.keep k (by simp; omega) (by omega) (by omega), List.getElem?_append_left hk]
  ·have e3 : (H ++ [AObj.cells false [AV.sl al t], .map [], .cells false [.sl [] .nil, .mp (H.length + 1), .sl [] .nil, .bool false, .bool false]])[H.length + 2]? = some (.cells false [.sl [] .nil, .mp (H.length + 1), .sl [] .nil, .bool false, .bool false]) := by simp
   rw [e3] at e1
   simp only [Option.some.injEq, AObj.cells.injEq, List.cons.injEq, AV.sl.injEq, true_and, and_true] at e1
   obtain ⟨⟨_, rfl⟩, _, ⟨_, rfl⟩, _⟩ := e1
   rcases e2 with e2 | e2 <;> cases e2
def GRes (N : List Nd) (id e : Int) (v : AV) : Prop := ∃ ga, v = .tup [ga, .int id, .int e] ∧ GIs N ga
theorem nds_pure (m : Nat) {H : List AObj} {V : List Nat} : ∀ {N : List Nd} {al : List AV}, LIs (NdH H) N al → ∃ al', LIs Nd.Is N al' ∧ mapO (atCells (purify (m + 3) ⟨H, V⟩)) al = some al'
 | [], [], _ => ⟨[], trivial, rfl⟩
 | n :: N, a :: al, h => by
  simp only [LIs] at h
  obtain ⟨al', h1, h2⟩ := nds_pure m (V := V) h.2
  obtain ⟨t1, las, kv, rfl, q2, q3, q4, q5, q6, q7, q8, q9, q10⟩ := h.1
  have hps : pureAV (.sl las t1) = true := by rw [pv_sl, q2, lvsPure q8]; rfl
  have key : ∃ t2, t2.pure = true ∧ purify (m + 3) ⟨H, V⟩ kv = some (.sl (ints n.kids) t2) := by
   rcases q10 with ⟨t, rfl⟩ | ⟨q, fz, rfl, hq⟩
   ·cases ht2 : t.pure
    ·refine ⟨t.stripR (m + 2) ⟨H, V⟩, by cases t <;> simp only [Tl.stripR] <;> (try split) <;> first | rfl | exact absurd ht2 (by simp [Tl.pure]), ?_⟩
     rw [pz_sl, mapO_at (ints_pure _)]; rfl
    ·exact ⟨t, ht2, purify_pure (by rw [pv_sl, ht2, ints_pure]; rfl)⟩
   ·refine ⟨.al, rfl, ?_⟩
    rw [pz_bs, elems_ints (s := ⟨H, V⟩) hq]
    simp [mapO_at (ints_pure _)]
  obtain ⟨t2, k1, k2⟩ := key
  refine ⟨.agg [.int n.k, .int n.i, .str n.n, .sl las t1, .sl (ints n.kids) t2] :: al', ⟨⟨t1, t2, las, rfl, q2, k1, q3, q4, q5, q6, q7, q8, q9⟩, h1⟩, ?_⟩
  simp only [mapO, atCells, purify_pure (n := m + 2) pv_v, purify_pure (n := m + 2) hps, k2, Option.map_some, h2]
 | [], _ :: _, h => by simp [LIs] at h
 | _ :: _, [], h => by simp [LIs] at h
def KeepN (H H' : List AObj) : Prop := H.length ≤ H'.length ∧ ∀ (k : Nat) (o : AObj), H[k]? = some o → (∀ (fz : Bool) (ks : List Int), o ≠ AObj.cells fz (ints ks)) → H'[k]? = some o
theorem KeepN.refl (H : List AObj) : KeepN H H := ⟨Nat.le_refl _, fun _ _ h _ => h⟩
theorem KeepN.trans {A B C : List AObj} (h : KeepN A B) (k : KeepN B C) : KeepN A C := ⟨Nat.le_trans h.1 k.1, fun i o h1 h2 => k.2 i o (h.2 i o h1 h2) h2⟩
theorem KeepN.app (H G : List AObj) : KeepN H (H ++ G) := ⟨by simp, fun k o h _ => app_get_of h G⟩
theorem kid_frz (m : Nat) {H : List AObj} {V : List Nat} {ks : List Int} {kv : AV} (h : KidsH H ks kv) : ∃ H', frz (m + 1) ⟨H, V⟩ kv = ⟨H', V⟩ ∧ KeepN H H' ∧ FrI H H' := by
 rcases h with ⟨t, rfl⟩ | ⟨q, fz, rfl, hq⟩
 ·exact ⟨H, fr_sl (ints_pure _), .refl _, .refl _⟩
 ·refine ⟨H.set q (.cells true (ints ks)), ?_, ⟨by rw [List.length_set]; exact Nat.le_refl _, fun k o h1 h2 => ?_⟩, frzK_fr (.inr ⟨q, fz, rfl, hq⟩)⟩
  ·rw [fr_bs, elems_ints (s := ⟨H, V⟩) hq, Option.getD_some, fz_cells hq, ints_foldl]
  ·have : q ≠ k := by rintro rfl; rw [hq] at h1; exact h2 fz ks (Option.some.inj h1).symm
   rw [List.getElem?_set, if_neg this]; exact h1
theorem nds_frz (m : Nat) {V : List Nat} : ∀ {N : List Nd} {al : List AV} {H : List AObj}, LIs (NdH H) N al → ∃ H', (flat al).foldl (frz (m + 1)) ⟨H, V⟩ = ⟨H', V⟩ ∧ KeepN H H' ∧ FrI H H'
 | [], [], H, _ => ⟨H, rfl, .refl _, .refl _⟩
 | n :: N, a :: al, H, h => by
  simp only [LIs] at h
  obtain ⟨t1, las, kv, rfl, q2, q3, q4, q5, q6, q7, q8, q9, q10⟩ := h.1
  have hps : pureAV (.sl las t1) = true := by rw [pv_sl, q2, lvsPure q8]; rfl
  obtain ⟨H1, e1, e2, e3⟩ := kid_frz m (V := V) q10
  obtain ⟨H2, f1, f2, f3⟩ := nds_frz m (V := V) (h.2.mono2 fun x a hx => hx.mono e3)
  refine ⟨H2, ?_, e2.trans f2, e3.trans f3⟩
  rw [flat_cons, cells_agg]
  simp only [List.cons_append, List.nil_append, List.foldl_cons, fr_pure pv_v, fr_pure hps, e1, f1]
 | [], _ :: _, _, h => by simp [LIs] at h
 | _ :: _, [], _, h => by simp [LIs] at h
theorem res_frz {H : List AObj} {V : List Nat} {N : List Nd} {al : List AV} {tn : Tl} (h : LIs (NdH H) N al) (x y : Value) : ∃ H', frz 20 ⟨H, V⟩ (.tup [.agg [.sl al tn], .v x, .v y]) = ⟨H', V⟩ ∧ KeepN H H' := by
 rw [fr_tup]
 split
 ·exact ⟨H, rfl, .refl _⟩
 ·simp only [List.foldl_cons, List.foldl_nil]
  have : ∃ H', frz 19 ⟨H, V⟩ (.agg [.sl al tn]) = ⟨H', V⟩ ∧ KeepN H H' := by
   rw [fr_agg]
   split
   ·exact ⟨H, rfl, .refl _⟩
   ·simp only [List.foldl_cons, List.foldl_nil]
    rw [frz]
    split
    ·exact ⟨H, rfl, .refl _⟩
    ·obtain ⟨H', e1, e2, _⟩ := nds_frz 16 (V := V) h
     exact ⟨H', e1, e2⟩
  obtain ⟨H', e1, e2⟩ := this
  exact ⟨H', by rw [e1, fr_pure pv_v, fr_pure pv_v], e2⟩
theorem result_sh {bi mi : Nat} {sc : Bool} {T : List Tm} {H : List AObj} {V : List Nat} (hB : BS bi mi sc T H V) (hl : T.length ≤ 65536) (id : Int) :
  Sh md pfs 43 [.ptr bi 0, .int id] ⟨H, V⟩ (fun v s => (if sc = true then GRes [] 0 24 v else GRes (nodesOf T) id 0 v) ∧ ∃ H' V', s = ⟨H', V'⟩ ∧ KeepN H H') fun _ _ => False := by
 have hln0 := hB
 obtain ⟨hne, al, tn, tf, es, b1, b2, b3, b4, b5, b6, b7⟩ := hB
 have hln := b3.len
 rw [nodes_len] at hln
 have b1' := app_get_of b1 [AObj.cells false [AV.sl [] .nil]]
 refine sh_of pf43_is (Nat.le_of_ble_eq_true rfl) ?_
 cases sc
 ·have b3' := b3.mono2 fun x a hx => hx.mono (FrI.app H [AObj.cells false [AV.sl al tn]])
  obtain ⟨al', h1, h2⟩ := nds_pure 14 (V := V) b3'
  have hla := h1.len
  have e2 : purify 19 ⟨H ++ [AObj.cells false [AV.sl al tn]], V⟩ (.agg [.sl al tn]) = some (.agg [.sl al' (tn.stripR 17 ⟨H ++ [AObj.cells false [AV.sl al tn]], V⟩)]) := by
   rw [pz_agg]; simp only [mapO, pz_sl, h2, Option.map_some]
  have hst : (tn.stripR 17 ⟨H ++ [AObj.cells false [AV.sl al tn]], V⟩).pure = true := by
   cases tn <;> simp [Tl.stripR, Tl.pure]
  obtain ⟨H', f1, f2⟩ := res_frz (V := V) (tn := tn) b3' (.int .i64 id) (.int .i64 0)
  simp only [↓wpre, wall, simprocAttr] at f1
  simp only [pf43, ↓wpre, wall, simprocAttr, List.length_append, List.append_assoc, app_get_len, app_get_add, app_set_len, app_set_add, b1', e2]
  exact ⟨⟨_, rfl, al', _, rfl, hst, by rw [hla, nodes_len]; unfold lenB; omega, h1⟩, H', V, f1, (KeepN.app _ _).trans f2⟩
 ·simp only [pf43, ↓wpre, wall, simprocAttr, List.length_append, List.append_assoc, app_get_len, app_get_add, app_set_len, app_set_add, b1']
  exact ⟨⟨_, rfl, [], .nil, rfl, rfl, Nat.zero_le _, trivial⟩, _, _, rfl, KeepN.app _ _⟩
abbrev entB : Nat := 268435456
def tabX (m : Nat) (txt : List UInt8) (tt : Tl) : AObj := .cells false [.mp m, .sl (bytes txt) tt]
def EnterP (x m : Nat) (H : List AObj) (T : List Nat) (tt : Tl) (tab : List (List UInt8)) (e : Tm) (v : AV) (s' : ASt) : Prop :=
 ∃ tt' es' T' G, v = .int ((e.ent tab).1 : Nat) ∧ s' = ⟨(H.set x (tabX m (e.ent tab).2.flatten tt')).set m (.map es') ++ G, T'⟩ ∧ MapT es' (e.ent tab).2 ∧ App T' (bytes (e.ent tab).2.flatten) tt' ∧ Oth T tt T' tt'
theorem bytes_str (l : List UInt8) : ({ data := l.toArray } : ByteArray) = strOf l := rfl
def kl37 : PC := match pf72.body with | .seq _ (.seq _ (.seq _ (.seq (.seq _ (.block _ l)) _))) => l | _ => .skip
def rest37 : PC := match pf72.body with | .seq _ (.seq _ (.seq _ (.seq _ r))) => r | _ => .skip
theorem set_app {α : Type} {B Z : List α} {i : Nat} {y x : α} (h : B[i]? = some y) : (B ++ Z).set i x = B.set i x ++ Z := List.set_append_left _ _ (List.getElem?_eq_some_iff.1 h).1
theorem enter_sh (x m : Nat) (hxm : x ≠ m) (e : Tm) : ∀ {tab : List (List UInt8)} {es : List (AV × AV)} {tt : Tl} {a : AV} {H : List AObj} {T : List Nat}, e.Is a → e.allR = true → (e.ent tab).2.flatten.length ≤ entB → (e.ent tab).2.length ≤ entB →
  H[x]? = some (tabX m tab.flatten tt) → H[m]? = some (.map es) → MapT es tab → App T (bytes tab.flatten) tt →
  Sh md pfs 72 [.ptr x 0, a] ⟨H, T⟩ (EnterP x m H T tt tab e) fun _ _ => False := by
 induction e using Tm.ind with
 | h k i n ls kids ih =>
 intro tab es tt a H T h har hB1 hB2 hx hm hes hA
 have har' := har
 rw [Tm.allR, Bool.and_eq_true] at har'
 have hr := har'.1
 have hkR := (allRL_iff kids).1 har'.2
 obtain ⟨hf, hv, hl8, hn6, hi⟩ := right_facts hr
 obtain ⟨nl, rfl⟩ : ∃ nl, n = strOf nl := ⟨n.toList, (of_str n).symm⟩
 obtain ⟨t1, t2, las, kas, rfl, g1, g2, g3, g4, g5, g6, g7, g8, g9⟩ := h.opn
 have hl1 := g8.len
 have hl2 := g9.len
 obtain ⟨_, hrk, r3, r4, r5, r6, r7, r8⟩ := (right_iff k i (strOf nl) ls kids).1 hr
 obtain ⟨hk0, hk12⟩ := kidsN_range (k := k) (by omega)
 obtain ⟨kn, rfl⟩ : ∃ kn : Nat, k = kn := ⟨k.toNat, by omega⟩
 have hall := g8.all lvAgg
 have hallk := g9.all tmAgg
 generalize hW : encN kn ++ ((Tm.mk kn i (strOf nl) ls kids).pay ++ (entL tab kids).1.flatMap encN) = wd
 have hW' : encN (kn : Int).toNat ++ ((Tm.mk kn i (strOf nl) ls kids).pay ++ (entL tab kids).1.flatMap encN) = wd := hW
 have hent : Tm.ent tab (.mk kn i (strOf nl) ls kids) = if wd ∈ (entL tab kids).2 then ((entL tab kids).2.idxOf wd, (entL tab kids).2) else ((entL tab kids).2.length, (entL tab kids).2 ++ [wd]) := by rw [Tm.ent, hW']
 have hmem : wd ∈ (Tm.ent tab (.mk kn i (strOf nl) ls kids)).2 := by
  rw [hent]; split
  ·assumption
  ·simp
 have hwl : wd.length ≤ entB := Nat.le_trans (flatten_mem hmem) hB1
 have hwlen : wd.length = (encN kn).length + ((Tm.mk kn i (strOf nl) ls kids).pay.length + ((entL tab kids).1.flatMap encN).length) := by rw [← hW]; simp only [List.length_append]
 have hpreL : ∃ mm, (Tm.ent tab (.mk kn i (strOf nl) ls kids)).2 = (entL tab kids).2 ++ mm := by
  rw [hent]; split
  ·exact ⟨[], by simp⟩
  ·exact ⟨[wd], rfl⟩
 have hLB : (entL tab kids).2.flatten.length ≤ entB ∧ (entL tab kids).2.length ≤ entB := by
  obtain ⟨mm, hmm⟩ := hpreL
  rw [hmm] at hB1 hB2
  rw [List.flatten_append, List.length_append] at hB1
  rw [List.length_append] at hB2
  omega
 have hx' := hx
 unfold tabX at hx'
 obtain ⟨_, _, ⟨tb1, T1, rfl, rfl, a1, o1⟩, k1⟩ := (appendNumber_rw (l := []) (n := kn) (H := H ++ [.cells false [.int kn, .int i, .str (strOf nl), .sl las t1, .sl kas t2]]) (T := T) (by unfold bigN; omega) (by unfold capB; simp) (app_start T)).call rfl
 rw [List.nil_append] at a1 k1
 rw [show bytes [] = [] from rfl] at k1
 have w1 := (Two.start hA).b a1 o1
 have hkn9 := encN_big (n := kn) (by unfold bigN; omega)
 have hcx : AObj.cells false [.int kn, .int i, .str (strOf nl), .sl las t1, .sl kas t2] = AObj.cells false [.int kn, .int i, .str (strOf nl), .sl las t1, .sl kas t2] := rfl
 let KEnd : Env → List AObj → List Nat → Prop := fun E H' T' => ∃ B Z tb tt' es', H' = B ++ Z ∧ E 0 = .ptr x 0 ∧ E 5 = .sl (bytes wd) tb ∧ BaseOK B H x m (tabX m (entL tab kids).2.flatten tt') (.map es') ∧ MapT es' (entL tab kids).2 ∧ Two T tt T' wd tb (entL tab kids).2.flatten tt'
 have loopK : ∀ (Q : AExit → St → Prop) (E : Env) (b0 : List UInt8) (tb : Tl) (T1 : List Nat) (G : List AObj), E 0 = .ptr x 0 → E 3 = .ptr H.length 0 → E 5 = .sl (bytes b0) tb → E 60 = .sl kas t2 → E 61 = .int kas.length → E 62 = .int 0 → Two T tt T1 b0 tb tab.flatten tt → b0 = encN kn ++ (Tm.mk kn i (strOf nl) ls kids).pay →
   (∀ E H' T', KEnd E H' T' → Q (.exit 3) ⟨tmE 106 E, [], ⟨H', T'⟩⟩) → W (run md pfs) md kl37 ⟨tmE 106 E, [], ⟨H ++ (.cells false [.int kn, .int i, .str (strOf nl), .sl las t1, .sl kas t2] :: G), T1⟩⟩ Q () := by
  intro Q E b0 tb T1 G e0 e3 e5 e60 e61 e62 htwo hb0 hQ
  simp only [kl37, pf72]
  refine W_loopE (fun j => kas.length - j) (fun j E H' T' => ∃ B Z b tb tt' es', H' = B ++ Z ∧ E 0 = .ptr x 0 ∧ E 5 = .sl (bytes b) tb ∧ E 60 = .sl kas t2 ∧ E 61 = .int kas.length ∧ E 62 = .int (j : Nat) ∧ j ≤ kas.length ∧ BaseOK B H x m (tabX m (entL tab (kids.take j)).2.flatten tt') (.map es') ∧ MapT es' (entL tab (kids.take j)).2 ∧ Two T tt T' b tb (entL tab (kids.take j)).2.flatten tt' ∧ b = encN kn ++ ((Tm.mk kn i (strOf nl) ls kids).pay ++ (entL tab (kids.take j)).1.flatMap encN)) ?_ 0 ⟨H, _, b0, tb, tt, es, rfl, e0, e5, e60, e61, e62, Nat.zero_le _, by rw [List.take_zero, entL]; exact BaseOK.start hx hm, by rw [List.take_zero, entL]; exact hes, by rw [List.take_zero, entL]; exact htwo, by rw [List.take_zero, entL, hb0]; simp⟩
  clear e0 e3 e5 e60 e61 e62 htwo hb0 E b0 tb T1 G
  rintro j E H' T' ⟨B, Z, b, tb, tt', es', rfl, e0, e5, e60, e61, e62, hj, hB, hM, h2, hb⟩
  rcases Nat.lt_or_ge j kas.length with hlt | hge
  ·have hdec : decide ((j : Int) < kas.length) = true := by simpa using hlt
   obtain ⟨y, c, d0, d1, d3, d4, d5, d6, d7, d8⟩ := g9.get tmAgg hlt
   have htk := entL_take (tab := tab) d0
   obtain ⟨mm, hmm⟩ := entL_pre_take (tab := tab) (l := kids) (j + 1)
   have hyB : (y.ent (entL tab (kids.take j)).2).2.flatten.length ≤ entB ∧ (y.ent (entL tab (kids.take j)).2).2.length ≤ entB := by
    rw [htk] at hmm
    rw [hmm] at hLB
    rw [List.flatten_append, List.length_append, List.length_append] at hLB
    simp only at hLB
    omega
   have hpos := ent_lt y (entL tab (kids.take j)).2
   obtain ⟨_, _, ⟨tt2, es2, T2, G2, rfl, rfl, q1, q2, q3⟩, cv⟩ := (ih y d3 (H := B ++ (Z ++ [.cells false c])) (T := T') d8 (hkR y d3) hyB.1 hyB.2 (app_get_of hB.2.1 _) (app_get_of hB.2.2.1 _) hM h2.appt).callRet rfl
   have hsx : (B ++ (Z ++ [AObj.cells false c])).set x (tabX m (y.ent (entL tab (kids.take j)).2).2.flatten tt2) = B.set x (tabX m (y.ent (entL tab (kids.take j)).2).2.flatten tt2) ++ (Z ++ [AObj.cells false c]) := set_app hB.2.1
   have hsm : (B.set x (tabX m (y.ent (entL tab (kids.take j)).2).2.flatten tt2) ++ (Z ++ [AObj.cells false c])).set m (.map es2) = (B.set x (tabX m (y.ent (entL tab (kids.take j)).2).2.flatten tt2)).set m (.map es2) ++ (Z ++ [AObj.cells false c]) := set_app (y := .map es') (by rw [List.getElem?_set_ne hxm]; exact hB.2.2.1)
   rw [hsx, hsm, List.append_assoc] at cv
   have hB' := hB.step hxm (tabX m (y.ent (entL tab (kids.take j)).2).2.flatten tt2) (.map es2)
   generalize hBn : (B.set x (tabX m (y.ent (entL tab (kids.take j)).2).2.flatten tt2)).set m (.map es2) = B' at cv hB'
   generalize hZn : Z ++ [AObj.cells false c] ++ G2 = Z' at cv
   have h3 := h2.t q2 q3
   generalize hpn : (y.ent (entL tab (kids.take j)).2).1 = pos at cv hpos
   have hbl : b.length + 9 ≤ capB := by
    have e1 : b.length = (encN kn).length + ((Tm.mk kn i (strOf nl) ls kids).pay.length + ((entL tab (kids.take j)).1.flatMap encN).length) := by rw [hb]; simp only [List.length_append]
    obtain ⟨pm, hpm⟩ := entL_pos_take (tab := tab) (l := kids) j
    rw [hpm, List.flatMap_append, List.length_append] at hwlen
    unfold capB; unfold entB at hwl; omega
   obtain ⟨_, _, ⟨tb3, T3, rfl, rfl, a3, o3⟩, k3⟩ := (appendNumber_rw (n := pos) (H := B' ++ Z') (T := T2) (by unfold bigN; have := hyB.2; unfold entB at this; omega) hbl h3.appb).call rfl
   have hnb : b ++ encN pos = encN kn ++ ((Tm.mk kn i (strOf nl) ls kids).pay ++ (entL tab (kids.take (j + 1))).1.flatMap encN) := by
    rw [htk, hb, ← hpn]; simp only [List.flatMap_append, List.flatMap_cons, List.flatMap_nil, List.append_nil, List.append_assoc]
   generalize hbn : b ++ encN pos = b' at a3 k3 hnb
   simp only [↓wpre, wall, simprocAttr, List.length_append, List.append_assoc, app_get_len, app_get_add, app_set_len, app_set_add, e0, e5, e60, e61, e62, hdec, d4, d5, d6, d7, hallk, cv, k3]
   exact EQ_in ⟨j + 1, by omega, B', Z', b', tb3, tt2, es2, rfl, e0, rfl, e60, e61, next_ixv (by unfold lenB at *; omega), by omega, by rw [htk]; exact hB', by rw [htk]; exact q1, by rw [htk]; exact h3.b a3 o3, hnb⟩
  ·have hdec : decide ((j : Int) < kas.length) = false := by simpa using hge
   rw [List.take_of_length_le (by omega)] at hB hM h2 hb
   simp only [↓wpre, wall, simprocAttr, List.length_append, List.append_assoc, app_get_len, app_get_add, app_set_len, app_set_add, e0, e5, e60, e61, e62, hdec]
   exact hQ _ _ _ ⟨B, Z, tb, tt', es', rfl, e0, by rw [← hW, ← hb]; exact e5, hB, hM, by rw [← hW, ← hb]; exact h2⟩
 have endK : ∀ E H' T', KEnd E H' T' → W (run md pfs) md rest37 ⟨tmE 106 E, [], ⟨H', T'⟩⟩ (SQ [.t 4] (EnterP x m H T tt tab (.mk kn i (strOf nl) ls kids)) fun _ _ => False) () := by
  rintro E H' T' ⟨B, Z, tb, tt', es', rfl, e0, e5, hB, hM, h2⟩
  have hgx : ∀ Z, (B ++ Z)[x]? = some (.cells false [.mp m, .sl (bytes (entL tab kids).2.flatten) tt']) := fun Z => app_get_of hB.2.1 Z
  have hgm : ∀ Z, (B ++ Z)[m]? = some (.map es') := fun Z => app_get_of hB.2.2.1 Z
  have hlk := hM.2 wd
  have hko : ∀ z, keyOK true (.str z) = true := fun _ => rfl
  by_cases hw : wd ∈ (entL tab kids).2
  ·rw [if_pos hw] at hlk
   simp only [rest37, pf72, ↓wpre, wall, simprocAttr, e0, e5, hgx, hgm, elemsA_sl, bytesA_bytes, bytes_str, hlk, hko]
   refine ⟨tt', es', T', Z, ?_, ?_, ?_, ?_, h2.oth⟩
   ·rw [hent, if_pos hw]
   ·rw [hent, if_pos hw]; simp only; rw [← hB.eq]
   ·rw [hent, if_pos hw]; exact hM
   ·rw [hent, if_pos hw]; exact h2.appt
  ·rw [if_neg hw] at hlk
   obtain ⟨u1, u2⟩ := mapT_add hM hw
   have hsm : (B ++ Z).set m (.map (es' ++ [(AV.str (strOf wd), AV.int ↑es'.length)])) = B.set m (.map (es' ++ [(AV.str (strOf wd), AV.int ↑es'.length)])) ++ Z := set_app hB.2.2.1
   have hBm : (B.set m (.map (es' ++ [(AV.str (strOf wd), AV.int ↑es'.length)])))[x]? = some (.cells false [.mp m, .sl (bytes (entL tab kids).2.flatten) tt']) := by rw [List.getElem?_set_ne (Ne.symm hxm)]; exact hB.2.1
   have hgx2 : ∀ Z, (B.set m (.map (es' ++ [(AV.str (strOf wd), AV.int ↑es'.length)])) ++ Z)[x]? = some (.cells false [.mp m, .sl (bytes (entL tab kids).2.flatten) tt']) := fun Z => app_get_of hBm Z
   have hnew : Tm.ent tab (.mk kn i (strOf nl) ls kids) = ((entL tab kids).2.length, (entL tab kids).2 ++ [wd]) := by rw [hent, if_neg hw]
   have hfl : ((entL tab kids).2 ++ [wd]).flatten = (entL tab kids).2.flatten ++ wd := by simp
   have hfB : (entL tab kids).2.flatten.length + wd.length ≤ entB := by rw [hnew, hfl, List.length_append] at hB1; exact hB1
   obtain ⟨t9, T9, f1, f2, f3⟩ := app_many (es := 1) (xs := bytes wd) h2.appt (by rw [bytes_len, bytes_len]; unfold capB; unfold entB at hfB; omega) (bytes_all _) (bytes_all2 _)
   rw [← bytes_app, ← hfl] at f1 f2
   have hsx : ∀ X', (B.set m (.map (es' ++ [(AV.str (strOf wd), AV.int ↑es'.length)])) ++ Z).set x X' = (B.set m (.map (es' ++ [(AV.str (strOf wd), AV.int ↑es'.length)]))).set x X' ++ Z := fun X' => set_app hBm
   generalize hes2 : es' ++ [(AV.str (strOf wd), AV.int ↑es'.length)] = es2 at u1 u2 hsm hBm hgx2 hsx
   generalize hBn : B.set m (.map es2) = B2 at hsm hgx2 hsx hBm
   simp only [rest37, pf72, ↓wpre, wall, simprocAttr, e0, e5, hgx, hgm, elemsA_sl, bytesA_bytes, bytes_str, hlk, hko, u1, hsm, hgx2, srcA_sl, f1, hsx]
   refine ⟨t9, es2, T9, Z, ?_, ?_, ?_, ?_, h2.oth.trans f3⟩
   ·rw [hnew, hM.1]
   ·rw [hnew, ← hB.2.2.2, ← hBn, List.set_comm _ _ hxm]; rfl
   ·rw [hnew]; exact u2
   ·rw [hnew]; exact f2
 have hcapw : (encN kn).length + (Tm.mk kn i (strOf nl) ls kids).pay.length + 9 ≤ capB := by unfold capB; unfold entB at hwl; omega
 refine sh_of pf72_is (Nat.le_of_ble_eq_true rfl) ?_
 by_cases h0 : kn = 0
 ·have hii := r7 (by omega)
  have hpay : (Tm.mk kn i (strOf nl) ls kids).pay = encN i.toNat := by
   show (if (kn : Int) = 0 ∨ (kn : Int) = 12 then encN i.toNat else if (kn : Int) = 2 then encL (ls.headD ⟨0, []⟩) else if (kn : Int) = 3 then encN (strOf nl).size ++ ((strOf nl).toList ++ (encN ls.length ++ ls.flatMap encL)) else []) = _
   rw [if_pos (by omega)]
  rw [hpay] at hcapw
  obtain ⟨_, _, ⟨tb2, T2, rfl, rfl, a2, o2⟩, k2⟩ := (appendNumber_rw (n := i.toNat) (H := H ++ [.cells false [.int kn, .int i, .str (strOf nl), .sl las t1, .sl kas t2]]) (T := T1) (by unfold bigN; omega) (by have := encN_pos i.toNat; omega) a1).call rfl
  rw [show ((i.toNat : Nat) : Int) = i by omega] at k2
  have q0 : ((kn : Int) == 0) = true := by simp; omega
  simp only [pf72, ↓wpre, wall, simprocAttr, List.length_append, List.append_assoc, app_get_len, app_get_add, app_set_len, app_set_add, q0, k1, k2]
  exact loopK _ _ _ tb2 _ [] rfl rfl rfl rfl rfl rfl (w1.b a2 o2) (by rw [hpay]) (fun E H' T' hk => by
   simp only [BQ_e, LQ_n]
   exact endK E H' T' hk)
 by_cases h12 : kn = 12
 ·have hii := r7 (by omega)
  have hpay : (Tm.mk kn i (strOf nl) ls kids).pay = encN i.toNat := by
   show (if (kn : Int) = 0 ∨ (kn : Int) = 12 then encN i.toNat else if (kn : Int) = 2 then encL (ls.headD ⟨0, []⟩) else if (kn : Int) = 3 then encN (strOf nl).size ++ ((strOf nl).toList ++ (encN ls.length ++ ls.flatMap encL)) else []) = _
   rw [if_pos (by omega)]
  rw [hpay] at hcapw
  obtain ⟨_, _, ⟨tb2, T2, rfl, rfl, a2, o2⟩, k2⟩ := (appendNumber_rw (n := i.toNat) (H := H ++ [.cells false [.int kn, .int i, .str (strOf nl), .sl las t1, .sl kas t2]]) (T := T1) (by unfold bigN; omega) (by have := encN_pos i.toNat; omega) a1).call rfl
  rw [show ((i.toNat : Nat) : Int) = i by omega] at k2
  have q0 : ((kn : Int) == 0) = false := by simp only [beq_eq_false_iff_ne, ne_eq]; omega
  have q12 : ((kn : Int) == 12) = true := by simp; omega
  simp only [pf72, ↓wpre, wall, simprocAttr, List.length_append, List.append_assoc, app_get_len, app_get_add, app_set_len, app_set_add, q0, q12, k1, k2]
  exact loopK _ _ _ tb2 _ [] rfl rfl rfl rfl rfl rfl (w1.b a2 o2) (by rw [hpay]) (fun E H' T' hk => by
   simp only [BQ_e, LQ_n]
   exact endK E H' T' hk)
 by_cases h2 : kn = 2
 ·have hls := r3 (by omega)
  obtain ⟨lv, rfl⟩ : ∃ lv, ls = [lv] := by
   match ls, hls with
   | [lv], _ => exact ⟨lv, rfl⟩
  have hpay : (Tm.mk kn i (strOf nl) [lv] kids).pay = encL lv := by
   show (if (kn : Int) = 0 ∨ (kn : Int) = 12 then encN i.toNat else if (kn : Int) = 2 then encL lv else _) = _
   rw [if_neg (by omega), if_pos (by omega)]
  rw [hpay] at hcapw
  obtain ⟨x2, c, d0, d1, d3, d4, d5, d6, d7, d8⟩ := g8.get lvAgg (i := 0) (by rw [hl1]; exact Nat.zero_lt_one)
  have hx2 : lv = x2 := Option.some.inj d0
  subst hx2
  obtain ⟨_, _, ⟨tb2, T2, G2, rfl, rfl, a2, o2⟩, k2⟩ := (appendLevel_rw (H := H ++ [.cells false [.int kn, .int i, .str (strOf nl), .sl las t1, .sl kas t2]]) (T := T1) d8 (hv lv (List.mem_cons_self)) (by omega) a1).call rfl
  have q0 : ((kn : Int) == 0) = false := by simp only [beq_eq_false_iff_ne, ne_eq]; omega
  have q12 : ((kn : Int) == 12) = false := by simp only [beq_eq_false_iff_ne, ne_eq]; omega
  have q2 : ((kn : Int) == 2) = true := by simp; omega
  simp only [pf72, ↓wpre, wall, simprocAttr, List.length_append, List.append_assoc, app_get_len, app_get_add, app_set_len, app_set_add, q0, q12, q2, k1, k2, d4, d5, d6, hall]
  exact loopK _ _ _ tb2 _ G2 rfl rfl rfl rfl rfl rfl (w1.b a2 o2) (by rw [hpay]) (fun E H' T' hk => by
   simp only [BQ_e, LQ_n]
   exact endK E H' T' hk)
 have q0 : ((kn : Int) == 0) = false := by simp only [beq_eq_false_iff_ne, ne_eq]; omega
 have q12 : ((kn : Int) == 12) = false := by simp only [beq_eq_false_iff_ne, ne_eq]; omega
 have q2 : ((kn : Int) == 2) = false := by simp only [beq_eq_false_iff_ne, ne_eq]; omega
 by_cases h3 : kn = 3
 ·have hls := r4 (by omega)
  have hpay : (Tm.mk kn i (strOf nl) ls kids).pay = encN nl.length ++ (nl ++ (encN las.length ++ ls.flatMap encL)) := by
   show (if (kn : Int) = 0 ∨ (kn : Int) = 12 then encN i.toNat else if (kn : Int) = 2 then encL (ls.headD ⟨0, []⟩) else if (kn : Int) = 3 then encN (strOf nl).size ++ ((strOf nl).toList ++ (encN ls.length ++ ls.flatMap encL)) else []) = _
   rw [if_neg (by omega), if_neg (by omega), if_pos (by omega), strOf_size, strOf_toList, hl1]
  rw [hpay] at hcapw
  simp only [List.length_append] at hcapw
  replace hn6 : nl.length ≤ 65536 := by
   have : (strOf nl).size ≤ 65536 := hn6
   rwa [strOf_size] at this
  have hnsz : (strOf nl).size = nl.length := strOf_size nl
  have hsrc : ∀ s : ASt, srcA s (.v (.string (strOf nl))) = some (bytes nl) := fun s => by rw [srcA_str, strOf_toList]; rfl
  obtain ⟨_, _, ⟨tb2, T2, rfl, rfl, a2, o2⟩, k2⟩ := (appendNumber_rw (n := nl.length) (H := H ++ [.cells false [.int kn, .int i, .str (strOf nl), .sl las t1, .sl kas t2]]) (T := T1) (by unfold bigN; omega) (by omega) a1).call rfl
  generalize hb2 : encN kn ++ encN nl.length = b2 at a2 k2
  have hl2b : b2.length = (encN kn).length + (encN nl.length).length := by rw [← hb2, List.length_append]
  obtain ⟨tb3, T3, f1, f2, f3⟩ := app_many (es := 1) (xs := bytes nl) a2 (by rw [bytes_len, bytes_len]; omega) (bytes_all _) (bytes_all2 _)
  rw [← bytes_app] at f1 f2
  generalize hb3 : b2 ++ nl = b3 at f1 f2
  have hl3b : b3.length = b2.length + nl.length := by rw [← hb3, List.length_append]
  obtain ⟨_, _, ⟨tb4, T4, rfl, rfl, a4, o4⟩, k4⟩ := (appendNumber_rw (n := las.length) (H := H ++ [.cells false [.int kn, .int i, .str (strOf nl), .sl las t1, .sl kas t2]]) (T := T3) (by unfold bigN; omega) (by omega) f2).call rfl
  generalize hb4 : b3 ++ encN las.length = b4 at a4 k4
  have w4 := ((w1.b a2 o2).b f2 f3).b a4 o4
  have hb4e : b4 = encN kn ++ (encN nl.length ++ (nl ++ encN las.length)) := by rw [← hb4, ← hb3, ← hb2]; simp only [List.append_assoc]
  have q3 : ((kn : Int) == 3) = true := by simp; omega
  simp only [pf72, ↓wpre, wall, simprocAttr, List.length_append, List.append_assoc, app_get_len, app_get_add, app_set_len, app_set_add, q0, q12, q2, q3, k1, hnsz, k2, hsrc, f1, k4]
  refine W_loopE (fun j => las.length - j) (fun j E H' T' => ∃ G cur tb, H' = H ++ (.cells false [.int kn, .int i, .str (strOf nl), .sl las t1, .sl kas t2] :: G) ∧ E 0 = .ptr x 0 ∧ E 3 = .ptr H.length 0 ∧ E 5 = .sl (bytes cur) tb ∧ E 49 = .sl las t1 ∧ E 50 = .int las.length ∧ E 51 = .int (j : Nat) ∧ j ≤ las.length ∧ Two T tt T' cur tb tab.flatten tt ∧ cur = b4 ++ (ls.take j).flatMap encL) ?_ 0 ⟨[], _, tb4, rfl, rfl, rfl, rfl, rfl, rfl, rfl, Nat.zero_le _, w4, by simp⟩
  rintro j E H' T' ⟨G, cur, tb, rfl, e0, e3, e5, e49, e50, e51, hj, h2w, hcur⟩
  rcases Nat.lt_or_ge j las.length with hlt | hge
  ·have hdec : decide ((j : Int) < las.length) = true := by simpa using hlt
   obtain ⟨y, c, d0, d1, d3, d4, d5, d6, d7, d8⟩ := g8.get lvAgg hlt
   have hfl := flat_le (f := encL) d0
   have hcl : cur.length = b4.length + ((ls.take j).flatMap encL).length := by rw [hcur, List.length_append]
   have hb4l : b4.length = b3.length + (encN las.length).length := by rw [← hb4, List.length_append]
   obtain ⟨_, _, ⟨tb5, T5, G5, rfl, rfl, a5, o5⟩, k5⟩ := (appendLevel_rw (H := H ++ (.cells false [.int kn, .int i, .str (strOf nl), .sl las t1, .sl kas t2] :: (G ++ [.cells false c]))) (T := T') d8 (hv y d3) (by omega) h2w.appb).call rfl
   have hst : cur ++ encL y = b4 ++ (ls.take (j + 1)).flatMap encL := by rw [flat_step d0, hcur, List.append_assoc]
   generalize hnx : cur ++ encL y = nxt at a5 k5 hst
   simp only [↓wpre, wall, simprocAttr, List.length_append, List.append_assoc, app_get_len, app_get_add, app_set_len, app_set_add, e0, e3, e5, e49, e50, e51, hdec, d4, d5, d6, d7, hall, k5]
   exact EQ_in ⟨j + 1, by omega, _, _, _, rfl, e0, e3, rfl, e49, e50, next_ixv (by unfold lenB at *; omega), by omega, h2w.b a5 o5, hst⟩
  ·have hdec : decide ((j : Int) < las.length) = false := by simpa using hge
   rw [List.take_of_length_le (by omega)] at hcur
   simp only [↓wpre, wall, simprocAttr, List.length_append, List.append_assoc, app_get_len, app_get_add, app_set_len, app_set_add, e0, e3, e5, e49, e50, e51, hdec]
   exact loopK _ _ _ tb _ G e0 e3 e5 rfl rfl rfl h2w (by rw [hpay, hcur, hb4e]; simp only [List.append_assoc]) (fun E H' T' hk => by
    simp only [BQ_e, LQ_n]
    exact endK E H' T' hk)
 ·have hpay : (Tm.mk kn i (strOf nl) ls kids).pay = [] := by
   show (if (kn : Int) = 0 ∨ (kn : Int) = 12 then encN i.toNat else if (kn : Int) = 2 then encL (ls.headD ⟨0, []⟩) else if (kn : Int) = 3 then encN (strOf nl).size ++ ((strOf nl).toList ++ (encN ls.length ++ ls.flatMap encL)) else []) = _
   rw [if_neg (by omega), if_neg (by omega), if_neg (by omega)]
  have q3 : ((kn : Int) == 3) = false := by simp only [beq_eq_false_iff_ne, ne_eq]; omega
  simp only [pf72, ↓wpre, wall, simprocAttr, List.length_append, List.append_assoc, app_get_len, app_get_add, app_set_len, app_set_add, q0, q12, q2, q3, k1]
  exact loopK _ _ _ tb1 _ [] rfl rfl rfl rfl rfl rfl w1 (by rw [hpay]; simp) (fun E H' T' hk => by
   simp only [BQ_e, LQ_n]
   exact endK E H' T' hk)
theorem PutTerms_ret {l : List Tm} {al : List AV} {t : Tl} (h : LIs Tm.Is l al) (ht : t.pure = true) (hl : al.length ≤ 65536) (hs : ∀ e ∈ l, e.sz ≤ 4096 ∧ e.dp ≤ 200) (hp : allRL l = true → (putT l).length ≤ entB) (hp2 : allRL l = true → (enterL [] l).length ≤ entB) : Out md pfs 41 [.sl al t] (· = .tup [.str (strOf (putR l).1), .int (putR l).2]) fun _ => False := by
 have hl2 := h.len
 have hall := h.all tmAgg
 have d1 : decide ((al.length : Int) > 65536) = false := by simp only [decide_eq_false_iff_not]; omega
 refine out_of pf41_is (Nat.le_of_ble_eq_true rfl) ?_
 simp only [pf41, ↓wpre, wall, simprocAttr, d1]
 refine W_loopE (fun j => al.length - j) (fun j E H T => E 0 = .sl al t ∧ E 15 = .sl al t ∧ E 16 = .int al.length ∧ E 17 = .int (j : Nat) ∧ j ≤ al.length ∧ allRL (l.take j) = true) ?_ 0 ⟨rfl, rfl, rfl, rfl, Nat.zero_le _, by simp [allRL]⟩
 rintro j E H T ⟨e0, e15, e16, e17, hj, har⟩
 rcases Nat.lt_or_ge j al.length with hlt | hge
 ·have hdec : decide ((j : Int) < al.length) = true := by simpa using hlt
  obtain ⟨x, c, d0, d2, d3, d4, d5, d6, d7, d8⟩ := h.get tmAgg hlt
  obtain ⟨_, rfl, c1⟩ := (encodable_ret d8 (hs x d3).1 (hs x d3).2).call rfl (by simp [pvs_cons, pvs_nil, tmPure _ d8])
  cases hx : x.allR
  ·have he : encErr x = 3 := by simp [encErr, hx]
   rw [he] at c1
   have n3 : ((3 : Int) != 0) = true := rfl
   simp only [↓wpre, wall, simprocAttr, List.length_append, List.append_assoc, app_get_len, app_get_add, app_set_len, app_set_add, e0, e15, e16, e17, hdec, d4, d5, d6, d7, hall, c1, n3]
   have : putR l = ([], 3) := by
    rw [putR, if_neg]
    intro ha
    have := (allRL_iff l).1 ha x d3
    rw [hx] at this; cases this
   rw [this]; rfl
  ·have he : encErr x = 0 := by simp [encErr, hx]
   rw [he] at c1
   have n3 : ((0 : Int) != 0) = false := rfl
   simp only [↓wpre, wall, simprocAttr, List.length_append, List.append_assoc, app_get_len, app_get_add, app_set_len, app_set_add, e0, e15, e16, e17, hdec, d4, d5, d6, d7, hall, c1, n3]
   exact EQ_in ⟨j + 1, by omega, e0, e15, e16, next_ixv (by unfold lenB; omega), by omega, allRL_take har d0 hx⟩
 ·have hdec : decide ((j : Int) < al.length) = false := by simpa using hge
  rw [List.take_of_length_le (by omega)] at har
  have hR : putR l = (putT l, 0) := by rw [putR, if_pos har]
  obtain ⟨ok, hent⟩ := table_ok har
  have hp := hp har
  have hp2 := hp2 har
  have hPP : putP l = putT l := put_eq fun x hx => (right_facts (allRL_subs har x hx)).1
  have hPl : (putP l).length = (encN (entL [] l).2.length).length + ((entL [] l).2.flatten.length + ((encN l.length).length + ((entL [] l).1.flatMap encN).length)) := by unfold putP; simp only [List.length_append]
  rw [hPP] at hPl
  have hLlen : (entL [] l).2.length ≤ entB := by rw [hent]; simp only [textT, List.length_map]; exact hp2
  rw [hR]
  simp only [↓wpre, wall, simprocAttr, List.length_append, List.append_assoc, app_get_len, app_get_add, app_set_len, app_set_add, e0, e15, e16, e17, hdec]
  refine W_loopE (fun j => al.length - j) (fun j E H' T' => ∃ B Z b tb tt' es', H' = B ++ Z ∧ E 0 = .sl al t ∧ E 7 = .ptr (H.length + 1) 0 ∧ E 8 = .sl (bytes b) tb ∧ E 30 = .sl al t ∧ E 31 = .int al.length ∧ E 32 = .int (j : Nat) ∧ j ≤ al.length ∧ BaseOK B (H ++ [.map [], tabX H.length [] .nil]) (H.length + 1) H.length (tabX H.length (entL [] (l.take j)).2.flatten tt') (.map es') ∧ MapT es' (entL [] (l.take j)).2 ∧ Two T .nil T' b tb (entL [] (l.take j)).2.flatten tt' ∧ b = (entL [] (l.take j)).1.flatMap encN) ?_ 0 ⟨H ++ [.map [], tabX H.length [] .nil], [], [], .nil, .nil, [], by simp [tabX, bytes], e0, rfl, rfl, rfl, rfl, rfl, Nat.zero_le _, by rw [List.take_zero, entL]; exact BaseOK.start (by rw [List.getElem?_append_right (by omega)]; simp [tabX]) (by rw [List.getElem?_append_right (by omega)]; simp), by rw [List.take_zero, entL]; exact mapT_nil, by rw [List.take_zero, entL]; exact Two.start (app_start T), by rw [List.take_zero, entL]; rfl⟩
  clear e0 e15 e16 e17 hj hge hdec E j
  rintro j E H' T' ⟨B, Z, b, tb, tt', es', rfl, e0, e7, e8, e30, e31, e32, hj, hB, hM, h2, hb⟩
  have hxm : H.length + 1 ≠ H.length := by omega
  rcases Nat.lt_or_ge j al.length with hlt | hge
  ·have hdec : decide ((j : Int) < al.length) = true := by simpa using hlt
   obtain ⟨y, c, d0, d2, d3, d4, d5, d6, d7, d8⟩ := h.get tmAgg hlt
   have htk := entL_take (tab := []) d0
   obtain ⟨mm, hmm⟩ := entL_pre_take (tab := []) (l := l) (j + 1)
   have hyB : (y.ent (entL [] (l.take j)).2).2.flatten.length ≤ entB ∧ (y.ent (entL [] (l.take j)).2).2.length ≤ entB := by
    rw [htk] at hmm
    rw [hmm] at hLlen hPl
    rw [List.flatten_append] at hPl
    rw [List.length_append] at hLlen
    simp only [List.length_append] at hLlen hPl
    omega
   have hpos := ent_lt y (entL [] (l.take j)).2
   obtain ⟨_, _, ⟨tt2, es2, T2, G2, rfl, rfl, q1, q2, q3⟩, cv⟩ := (enter_sh (H.length + 1) H.length hxm y (H := B ++ (Z ++ [.cells false c])) (T := T') d8 ((allRL_iff l).1 har y d3) hyB.1 hyB.2 (app_get_of hB.2.1 _) (app_get_of hB.2.2.1 _) hM h2.appt).callRet rfl
   have hsx : (B ++ (Z ++ [AObj.cells false c])).set (H.length + 1) (tabX H.length (y.ent (entL [] (l.take j)).2).2.flatten tt2) = B.set (H.length + 1) (tabX H.length (y.ent (entL [] (l.take j)).2).2.flatten tt2) ++ (Z ++ [AObj.cells false c]) := set_app hB.2.1
   have hsm : (B.set (H.length + 1) (tabX H.length (y.ent (entL [] (l.take j)).2).2.flatten tt2) ++ (Z ++ [AObj.cells false c])).set H.length (.map es2) = (B.set (H.length + 1) (tabX H.length (y.ent (entL [] (l.take j)).2).2.flatten tt2)).set H.length (.map es2) ++ (Z ++ [AObj.cells false c]) := set_app (y := .map es') (by rw [List.getElem?_set_ne hxm]; exact hB.2.2.1)
   rw [hsx, hsm, List.append_assoc] at cv
   have hB' := hB.step hxm (tabX H.length (y.ent (entL [] (l.take j)).2).2.flatten tt2) (.map es2)
   generalize hBn : (B.set (H.length + 1) (tabX H.length (y.ent (entL [] (l.take j)).2).2.flatten tt2)).set H.length (.map es2) = B' at cv hB'
   generalize hZn : Z ++ [AObj.cells false c] ++ G2 = Z' at cv
   have h3 := h2.t q2 q3
   generalize hpn : (y.ent (entL [] (l.take j)).2).1 = pos at cv hpos
   have hbl : b.length + 9 ≤ capB := by
    obtain ⟨pm, hpm⟩ := entL_pos_take (tab := []) (l := l) j
    rw [hpm, List.flatMap_append, List.length_append] at hPl
    rw [hb]
    unfold capB; unfold entB at hp; omega
   obtain ⟨_, _, ⟨tb3, T3, rfl, rfl, a3, o3⟩, k3⟩ := (appendNumber_rw (n := pos) (H := B' ++ Z') (T := T2) (by unfold bigN; have := hyB.2; unfold entB at this; omega) hbl h3.appb).call rfl
   have hnb : b ++ encN pos = (entL [] (l.take (j + 1))).1.flatMap encN := by
    rw [htk, hb, ← hpn]; simp only [List.flatMap_append, List.flatMap_cons, List.flatMap_nil, List.append_nil]
   generalize hbn : b ++ encN pos = b' at a3 k3 hnb
   simp only [↓wpre, wall, simprocAttr, List.length_append, List.append_assoc, app_get_len, app_get_add, app_set_len, app_set_add, e0, e7, e8, e30, e31, e32, hdec, d4, d5, d6, d7, hall, cv, k3]
   exact EQ_in ⟨j + 1, by omega, B', Z', b', tb3, tt2, es2, rfl, e0, e7, rfl, e30, e31, next_ixv (by unfold lenB at *; omega), by omega, by rw [htk]; exact hB', by rw [htk]; exact q1, by rw [htk]; exact h3.b a3 o3, hnb⟩
  ·have hdec : decide ((j : Int) < al.length) = false := by simpa using hge
   rw [List.take_of_length_le (by omega)] at hB hM h2 hb
   have hgx : ∀ Z, (B ++ Z)[H.length + 1]? = some (.cells false [.mp H.length, .sl (bytes (entL [] l).2.flatten) tt']) := fun Z => app_get_of hB.2.1 Z
   have hgm : ∀ Z, (B ++ Z)[H.length]? = some (.map es') := fun Z => app_get_of hB.2.2.1 Z
   have hesl := hM.1
   obtain ⟨_, _, ⟨u1, T1, rfl, rfl, a1, o1⟩, k1⟩ := (appendNumber_rw (l := []) (n := es'.length) (H := B ++ Z) (T := T') (by unfold bigN; unfold entB at hLlen; omega) (by unfold capB; simp) (app_start T')).call rfl
   rw [List.nil_append] at a1 k1
   rw [show bytes [] = [] from rfl] at k1
   have hn9 := encN_big (n := es'.length) (by unfold bigN; unfold entB at hLlen; omega)
   obtain ⟨u2, T2, f1, f2, f3⟩ := app_many (es := 1) (xs := bytes (entL [] l).2.flatten) a1 (by rw [bytes_len, bytes_len]; unfold capB; unfold entB at hp; omega) (bytes_all _) (bytes_all2 _)
   rw [← bytes_app] at f1 f2
   generalize hc1 : encN es'.length ++ (entL [] l).2.flatten = x1 at f1 f2
   have hx1 : x1.length = (encN es'.length).length + (entL [] l).2.flatten.length := by rw [← hc1, List.length_append]
   obtain ⟨_, _, ⟨u3, T3, rfl, rfl, a3, o3⟩, k3⟩ := (appendNumber_rw (n := al.length) (H := B ++ Z) (T := T2) (by unfold bigN; omega) (by unfold capB; unfold entB at hp; omega) f2).call rfl
   generalize hc2 : x1 ++ encN al.length = x2 at a3 k3
   have hx2 : x2.length = x1.length + (encN al.length).length := by rw [← hc2, List.length_append]
   have ha9 := encN_big (n := al.length) (by unfold bigN; omega)
   have hbl : b.length = ((entL [] l).1.flatMap encN).length := by rw [hb]
   obtain ⟨u4, T4, f4, f5, f6⟩ := app_many (es := 1) (xs := bytes b) a3 (by rw [bytes_len, bytes_len]; unfold capB; unfold entB at hp; omega) (bytes_all _) (bytes_all2 _)
   rw [← bytes_app] at f4 f5
   simp only [↓wpre, wall, simprocAttr, List.length_append, List.append_assoc, app_get_len, app_get_add, app_set_len, app_set_add, e0, e7, e8, e30, e31, e32, hdec, hgx, hgm, k1, srcA_sl, f1, k3, f4, elemsA_sl, bytesA_bytes, bytes_str]
   rw [← hPP, ← hc2, ← hc1, hb, hesl]
   unfold putP
   rw [hl2]
   simp only [List.append_assoc]
theorem flat_bound2 {α : Type} {f : α → List UInt8} {N : Nat} : ∀ {l : List α}, (∀ x ∈ l, (f x).length ≤ N) → (l.flatMap f).length ≤ N * l.length
 | [], _ => by simp
 | x :: l, h => by
  have h1 := h x (by simp)
  have h2 := flat_bound2 (l := l) fun y hy => h y (by simp [hy])
  rw [List.flatMap_cons, List.length_append, List.length_cons, Nat.mul_add]; omega
theorem enterL_len_of {l : List Tm} (ih : ∀ t ∈ l, ∀ T, (Tm.enter T t).length ≤ T.length + t.sz) : ∀ T, (enterL T l).length ≤ T.length + tszL l := by
 induction l with
 | nil => intro T; rw [enterL, tszL]; omega
 | cons t l ihl =>
  intro T
  have h1 := ih t (by simp) T
  have h2 := ihl (fun u hu => ih u (by simp [hu])) (Tm.enter T t)
  rw [enterL, tszL]; omega
theorem enter_size1 (t : Tm) : ∀ T, (Tm.enter T t).length ≤ T.length + t.sz := by
 induction t using Tm.ind with
 | h k i n ls kids ih =>
  intro T
  have h1 := enterL_len_of ih T
  rw [Tm.enter, Tm.sz]
  split
  ·omega
  ·split
   ·omega
   ·rw [List.length_append, List.length_singleton]; omega
theorem enterL_size (l T : List Tm) : (enterL T l).length ≤ T.length + tszL l := enterL_len_of (fun t _ => enter_size1 t) T
theorem slim_subs (t : Tm) : t.slim → ∀ x ∈ t.subs, x.slim := by
 induction t using Tm.ind with
 | h k i n ls kids ih =>
  intro h x hx
  rw [Tm.subs] at hx
  rcases List.mem_cons.1 hx with rfl | hx
  ·exact h
  ·obtain ⟨y, hy, hxy⟩ := mem_subsL.1 hx
   rw [Tm.slim, slimL_iff] at h
   exact ih y hy (h.2.2.2.2 y hy) x hxy
theorem encL_len {l : Lv} (hv : validB l = true) (h10 : l.vs.length ≤ 10) : (encL l).length ≤ 198 := by
 obtain ⟨c, hc, hc2, hvl, hvs⟩ := valid_nat hv
 have h1 := encN_big (n := c) (by unfold bigN; omega)
 have h2 := encN_big (n := l.vs.length) (by unfold bigN; omega)
 have h3 := flat_bound2 (f := encV) (N := 18) (l := l.vs) fun v hx => by
  obtain ⟨a, b, rfl, ha, hb⟩ := hvs v hx
  rw [encV_nat, List.length_append]
  have := encN_big (n := a) (by unfold bigN; omega)
  have := encN_big (n := b) (by unfold bigN; omega)
  omega
 have : encL l = encN c ++ (encN l.vs.length ++ l.vs.flatMap encV) := by unfold encL; rw [hc]; rfl
 rw [this, List.length_append, List.length_append]; omega
theorem entry_len {t : Tm} {pos : Tm → Nat} (hr : t.right = true) (hs : t.slim) (hp : ∀ x ∈ t.kids, pos x < bigN) : (entryT pos t).length ≤ 2300 := by
 obtain ⟨hf, hv, hl8, hn6, hi⟩ := right_facts hr
 obtain ⟨k, i, n, ls, kids⟩ := t
 obtain ⟨_, hrk, r3, r4, r5, r6, r7, r8⟩ := (right_iff k i n ls kids).1 hr
 obtain ⟨hk0, hk12⟩ := kidsN_range (k := k) (by omega)
 rw [Tm.slim, slimL_iff] at hs
 obtain ⟨s1, s2, s3, s4, _⟩ := hs
 have h1 := encN_big (n := k.toNat) (by unfold bigN; omega)
 have h2 := flat_bound2 (f := fun x => encN (pos x)) (N := 9) (l := kids) fun x hx => encN_big (hp x hx)
 have h3 : (Tm.mk k i n ls kids).pay.length ≤ 2198 := by
  show (if k = 0 ∨ k = 12 then encN i.toNat else if k = 2 then encL (ls.headD ⟨0, []⟩) else if k = 3 then encN n.size ++ (n.toList ++ (encN ls.length ++ ls.flatMap encL)) else []).length ≤ 2198
  split
  ·rename_i h0
   have := r7 h0
   have := encN_big (n := i.toNat) (by unfold bigN; omega)
   omega
  ·split
   ·rename_i h2
    have hls := r3 h2
    obtain ⟨lv, rfl⟩ : ∃ lv, ls = [lv] := by
     match ls, hls with
     | [lv], _ => exact ⟨lv, rfl⟩
    have := encL_len (hv lv (List.mem_cons_self)) (s3 lv (List.mem_cons_self))
    show (encL lv).length ≤ _
    omega
   ·split
    ·have a1 := encN_big (n := n.size) (by unfold bigN; omega)
     have a2 := encN_big (n := ls.length) (by unfold bigN; omega)
     have a3 := flat_bound2 (f := encL) (N := 198) (l := ls) fun x hx => encL_len (hv x hx) (s3 x hx)
     simp only [List.length_append, toList_len]; omega
    ·simp
 show (encN k.toNat ++ ((Tm.mk k i n ls kids).pay ++ kids.flatMap fun x => encN (pos x))).length ≤ 2300
 rw [List.length_append, List.length_append]; omega
theorem few_sizes {l : List Tm} (h : FewP l) : (∀ e ∈ l, e.sz ≤ 4096 ∧ e.dp ≤ 200) ∧ (allRL l = true → (putT l).length ≤ 500000) ∧ (enterL [] l).length ≤ 200 := by
 obtain ⟨h1, h2, h3⟩ := h
 have hE := enterL_size l []
 rw [List.length_nil] at hE
 refine ⟨fun e he => ?_, fun har => ?_, by omega⟩
 ·have := tsz_kid he
  have := dp_sz e
  omega
 ·obtain ⟨ok, _⟩ := table_ok har
  have a1 := encN_big (n := (enterL [] l).length) (by unfold bigN; omega)
  have a2 := encN_big (n := l.length) (by unfold bigN; omega)
  have a3 := flat_bound2 (f := entryT fun x => (enterL [] l).idxOf x) (N := 2300) (l := enterL [] l) fun x hx => by
   have hx2 : x ∈ subsL l := by
    rcases (ok.mem x).1 hx with h | h
    ·cases h
    ·exact h
   obtain ⟨y, hy, hxy⟩ := mem_subsL.1 hx2
   refine entry_len (allRL_subs har x hx2) (slim_subs y (h3 y hy) x hxy) fun z hz => ?_
   have := List.idxOf_lt_length_of_mem ((ok.good.all x hx).2 z hz)
   unfold bigN; omega
  have a4 := flat_bound2 (f := fun t => encN ((enterL [] l).idxOf t)) (N := 9) (l := l) fun x hx => encN_big (by
   have hxm : x ∈ enterL [] l := (ok.mem x).2 (.inr (mem_subsL.2 ⟨x, hx, subs_self x⟩))
   have := List.idxOf_lt_length_of_mem hxm
   unfold bigN; omega)
  have hflat : (textT (enterL [] l)).flatten = (enterL [] l).flatMap (entryT fun x => (enterL [] l).idxOf x) := by unfold textT; rw [List.flatMap_def]
  unfold putT
  rw [hflat]
  simp only [List.length_append]
  omega
end Go.Proofs.Eng
