/- The program enters a term. No conditions beyond those in the theorems. -/
import Derived.Test.YtjiheebhmokfbaaDoorC2
import Derived.Test.YtjiheebhmokfbaaDoorT11
set_option linter.all false
set_option linter.deprecated false
set_option linter.unnecessarySimpa false
set_option linter.unusedVariables false
set_option linter.unusedSimpArgs false
set_option linter.defProp false
namespace Go.Proofs.Eng
open Go Go.Proofs
set_option maxRecDepth 100000
set_option maxHeartbeats 16000000
theorem BS.keep {bi mi : Nat} {sc : Bool} {T : List Tm} {H H' : List AObj} {V V' : List Nat} (h : BS bi mi sc T H V) (h1 : H'[bi]? = H[bi]?) (h2 : H'[mi]? = H[mi]?) (hf : FrI H H') (hv : ∀ i v, OwB bi H i → V[i]? = some v → V'[i]? = some v) : BS bi mi sc T H' V' := by
 obtain ⟨hne, al, tn, tf, es, b1, b2, b3, b4, b5, b6, b7⟩ := h
 refine ⟨hne, al, tn, tf, es, by rw [h1]; exact b1, by rw [h2]; exact b2, b3.mono2 fun x a hx => hx.mono hf, b4, ?_, ?_, b7⟩
 ·rcases b5 with h | ⟨h3, i, v, rfl, h4⟩
  ·exact .inl h
  ·exact .inr ⟨h3, i, v, rfl, hv i v ⟨_, _, _, _, _, _, _, v, b1, .inl rfl⟩ h4⟩
 ·rcases b6 with h | ⟨h3, i, v, rfl, h4⟩
  ·exact .inl h
  ·exact .inr ⟨h3, i, v, rfl, hv i v ⟨_, _, _, _, _, _, _, v, b1, .inr rfl⟩ h4⟩
theorem BS.bi_lt {bi mi : Nat} {sc : Bool} {T : List Tm} {H : List AObj} {V : List Nat} (h : BS bi mi sc T H V) : bi < H.length ∧ mi < H.length := by
 obtain ⟨_, _, _, _, _, b1, b2, _⟩ := h
 exact ⟨lt_of_get b1, lt_of_get b2⟩
theorem BS.app {bi mi : Nat} {sc : Bool} {T : List Tm} {H : List AObj} {V : List Nat} (h : BS bi mi sc T H V) (G : List AObj) : BS bi mi sc T (H ++ G) V := by
 obtain ⟨l1, l2⟩ := h.bi_lt
 exact h.keep (List.getElem?_append_left l1) (List.getElem?_append_left l2) (.app _ _) fun _ _ _ h => h
theorem GT.take {T : List Tm} (h : GT T) (j : Nat) : GT (T.take j) := ⟨Good.cut (m := T.drop j) (by rw [List.take_append_drop]; exact h.good), fun t ht => h.right t (List.mem_of_mem_take ht)⟩
theorem idx_map_pre {T m : List Tm} {l : List Tm} (h : ∀ x ∈ l, x ∈ T) : (l.map fun x => (((T ++ m).idxOf x : Nat) : Int)) = l.map fun x => ((T.idxOf x : Nat) : Int) := List.map_congr_left fun x hx => by rw [idx_pre (h x hx)]
theorem fri_set {H : List AObj} {k : Nat} {o o' : AObj} (h : H[k]? = some o) (ho : ∀ (fz : Bool) (ks : List Int), o ≠ AObj.cells fz (ints ks)) : FrI H (H.set k o') := by
 refine ⟨by rw [List.length_set]; exact Nat.le_refl _, fun q fz ks hq => ⟨fz, ?_⟩⟩
 have : k ≠ q := by rintro rfl; rw [h] at hq; exact ho fz ks (Option.some.inj hq)
 rw [List.getElem?_set, if_neg this]; exact hq
theorem node_noints {fz : Bool} {k i : Int} {nm : ByteArray} {x y : AV} (fz' : Bool) (ks : List Int) : AObj.cells fz [.int k, .int i, .str nm, x, y] ≠ AObj.cells fz' (ints ks) := by
 intro h
 simp only [AObj.cells.injEq] at h
 have := congrArg (fun l => l[2]?) h.2
 simp only [ints, List.getElem?_map] at this
 cases hk : ks[2]? with
 | none => rw [hk] at this; simp at this
 | some z => rw [hk] at this; simp at this
theorem owb_eq {bi : Nat} {H H' : List AObj} (h : H'[bi]? = H[bi]?) (i : Nat) : OwB bi H' i ↔ OwB bi H i := by
 unfold OwB; rw [h]
structure Stp (bi mi : Nat) (H : List AObj) (V : List Nat) (H' : List AObj) (V' : List Nat) : Prop where
 fr : FrI H H'
 vk : VK bi H V H' V'
 keep : ∀ k, k < H.length → k ≠ bi → k ≠ mi → H'[k]? = H[k]?
theorem Stp.trans {bi mi : Nat} {A B C : List AObj} {V V' V'' : List Nat} (h : Stp bi mi A V B V') (k : Stp bi mi B V' C V'') : Stp bi mi A V C V'' :=
 ⟨h.fr.trans k.fr, h.vk.trans k.vk, fun i h1 h2 h3 => (k.keep i (Nat.lt_of_lt_of_le h1 h.fr.1) h2 h3).trans (h.keep i h1 h2 h3)⟩
theorem Stp.app {bi mi : Nat} {sc : Bool} {T : List Tm} {H : List AObj} {V : List Nat} (h : BS bi mi sc T H V) (G : List AObj) : Stp bi mi H V (H ++ G) V :=
 ⟨.app _ _, VK.same V (List.getElem?_append_left h.bi_lt.1), fun k h1 _ _ => List.getElem?_append_left h1⟩
theorem Stp.get {bi mi : Nat} {A B : List AObj} {V V' : List Nat} (h : Stp bi mi A V B V') {k : Nat} {o : AObj} (hk : A[k]? = some o) (h1 : k ≠ bi) (h2 : k ≠ mi) : B[k]? = some o := by rw [h.keep k (lt_of_get hk) h1 h2]; exact hk
theorem badd_call {bi mi : Nat} {sc : Bool} {T : List Tm} {H : List AObj} {V : List Nat} (hB : BS bi mi sc T H V) (hG : GT T) {t : Tm} (hr : t.right = true) (hk : ∀ x ∈ t.kids, x ∈ T) {a : AV} (hn : NdH H (ndOf T t) a) (hl : (addT T t).length ≤ 65536) (hak : ∀ k, AKid a k → H.length ≤ k) :
  ∃ H' V', BS bi mi sc (addT T t) H' V' ∧ Stp bi mi H V H' V' ∧ (∀ Q, BK bi Q H → (∀ k, AKid a k → Q k) → BK bi Q H') ∧ ∀ K KP, CW (run md pfs) md false ⟨H, V⟩ 73 [.ptr bi 0, a] K KP () = K (.int ((addT T t).idxOf t : Nat)) ⟨H', V'⟩ := by
 obtain ⟨v, _, ⟨rfl, H', V', rfl, h1, h2, h3, h4, hbk⟩, h5⟩ := (badd_sh hB hG hr hk hn hl).callRet rfl
 exact ⟨H', V', h1, ⟨h2, h3, fun k k1 k2 k3 => h4 k k1 k2 k3 fun h => by have := hak k h; omega⟩, hbk, h5⟩
theorem Nd.Is.noKid {n : Nd} {a : AV} (h : n.Is a) (k : Nat) : ¬ AKid a k := by
 obtain ⟨t1, t2, las, rfl, _⟩ := h
 rintro ⟨c0, c1, c2, c3, kv, e, o, len, es, ag, rfl⟩
 simp at e
end Go.Proofs.Eng
namespace Go.Proofs.Eng
open Go Go.Proofs
set_option maxRecDepth 100000
set_option maxHeartbeats 16000000
theorem good_at {T : List Tm} (h : GT T) {j : Nat} {t : Tm} (ht : T[j]? = some t) : (∀ x ∈ t.kids, x ∈ T.take j) ∧ t ∉ T.take j ∧ T.take (j + 1) = T.take j ++ [t] := by
 have hlt := (List.getElem?_eq_some_iff.1 ht).1
 have e1 : T.take (j + 1) = T.take j ++ [t] := by rw [List.take_add_one, ht]; rfl
 have hg := (h.take (j + 1)).good
 rw [e1] at hg
 refine ⟨Good.next (m := []) hg, fun hm => ?_, e1⟩
 have := hg.nodup
 rw [List.nodup_append] at this
 exact this.2.2 t hm t (by simp) rfl
theorem begin_rw {T : List Tm} (hG : GT T) (hl : T.length ≤ 65536) {g : AV} (h : GIs (nodesOf T) g) {H : List AObj} {V : List Nat} : Rw 42 [g] ⟨H, V⟩ fun v s => ∃ (bi mi : Nat) (H' : List AObj) (V' : List Nat), v = .ptr bi 0 ∧ s = ⟨H', V'⟩ ∧ BS bi mi false T H' V' ∧ H.length ≤ bi ∧ H.length ≤ mi ∧ FrI H H' ∧ (∀ k, k < H.length → H'[k]? = H[k]?) ∧ V.length ≤ V'.length ∧ ∀ (i v : Nat), V[i]? = some v → V'[i]? = some v := by
 obtain ⟨al, t, rfl, ht, hal, hL⟩ := h
 have hln := hL.len
 rw [nodes_len] at hln
 have hall := hL.all ndAgg
 refine rw_of pf42_is (Nat.le_of_ble_eq_true rfl) ?_
 simp only [pf42, ↓wpre, wall, simprocAttr, List.length_append, List.append_assoc, app_get_len, app_get_add, app_set_len, app_set_add]
 have hB0 : BS (H.length + 2) (H.length + 1) false [] (H ++ [.cells false [.sl al t], .map [], .cells false [.sl [] .nil, .mp (H.length + 1), .sl [] .nil, .bool false, .bool false]]) V := by
  refine ⟨by omega, [], .nil, .nil, [], by simp [frs, ints], by simp, trivial, mapT_nil, app_start _, app_start _, fun i v v' h => by cases h⟩
 refine W_loopE (fun j => al.length - j) (fun j E H1 V1 => BS (H.length + 2) (H.length + 1) false (T.take j) H1 V1 ∧ Stp (H.length + 2) (H.length + 1) (H ++ [.cells false [.sl al t], .map [], .cells false [.sl [] .nil, .mp (H.length + 1), .sl [] .nil, .bool false, .bool false]]) V H1 V1 ∧ E 3 = .ptr (H.length + 2) 0 ∧ E 10 = .sl al t ∧ E 11 = .int al.length ∧ E 12 = .int (j : Nat) ∧ j ≤ al.length) ?_ 0 ⟨by simpa using hB0, ⟨.refl _, VK.same V rfl, fun _ _ _ _ => rfl⟩, rfl, rfl, rfl, rfl, Nat.zero_le _⟩
 rintro j E H1 V1 ⟨hB, hS, e3, e10, e11, e12, hj⟩
 rcases Nat.lt_or_ge j al.length with hlt | hge
 ·have hdec : decide ((j : Int) < al.length) = true := by simpa using hlt
  obtain ⟨n, c, d0, d1, d3, d4, d5, d6, d7, d8⟩ := hL.get ndAgg hlt
  obtain ⟨x, hx⟩ : ∃ x, T[j]? = some x := ⟨T[j]'(by omega), List.getElem?_eq_getElem _⟩
  have hnx : n = ndOf T x := by
   rw [nodesOf, List.getElem?_map, hx] at d0
   exact (Option.some.inj d0).symm
  obtain ⟨hk, hnm, htk⟩ := good_at hG hx
  have hxT : x ∈ T := List.mem_of_getElem? hx
  have hnj : n = ndOf (T.take j) x := by
   rw [hnx]
   conv => lhs; rw [← List.take_append_drop j T]
   exact ndOf_app hk _
  have ha : addT (T.take j) x = T.take (j + 1) := by rw [addT, if_neg hnm, htk]
  have hB' := hB.app [.cells false c]
  rw [hnj] at d8
  obtain ⟨H2, V2, hB2, hS2, _, c73⟩ := badd_call hB' (hG.take j) (hG.right x hxT) hk (NdH.of d8 _) (by rw [ha, List.length_take]; omega) fun k hk => absurd hk (d8.noKid k)
  rw [ha] at hB2 c73
  simp only [↓wpre, wall, simprocAttr, List.length_append, List.append_assoc, app_get_len, app_get_add, app_set_len, app_set_add, e3, e10, e11, e12, hdec, d4, d5, d6, d7, hall, c73]
  exact EQ_in ⟨j + 1, by omega, hB2, (hS.trans (.app hB _)).trans hS2, e3, e10, e11, next_ixv (by omega), by omega⟩
 ·have hdec : decide ((j : Int) < al.length) = false := by simpa using hge
  rw [List.take_of_length_le (by omega)] at hB
  simp only [↓wpre, wall, simprocAttr, e3, e10, e11, e12, hdec, AQ_ret, AQ_normal, AQ_exit]
  refine ⟨_, _, _, _, rfl, rfl, hB, by omega, by omega, (FrI.app _ _).trans hS.fr, fun k hk => ?_, hS.vk.1, fun i v h => hS.vk.2.1 i v h fun ⟨_, _, _, _, _, _, _, w, e1, e2⟩ => ?_⟩
  ·rw [hS.keep k (by simp; omega) (by omega) (by omega), List.getElem?_append_left hk]
  ·have e3 : (H ++ [AObj.cells false [AV.sl al t], .map [], .cells false [.sl [] .nil, .mp (H.length + 1), .sl [] .nil, .bool false, .bool false]])[H.length + 2]? = some (.cells false [.sl [] .nil, .mp (H.length + 1), .sl [] .nil, .bool false, .bool false]) := by simp
   rw [e3] at e1
   simp only [Option.some.injEq, AObj.cells.injEq, List.cons.injEq, AV.sl.injEq, true_and, and_true] at e1
   obtain ⟨⟨_, rfl⟩, _, ⟨_, rfl⟩, _⟩ := e1
   rcases e2 with e2 | e2 <;> cases e2
def GRes (N : List Nd) (id e : Int) (v : AV) : Prop := ∃ ga, v = .tup [ga, .int id, .int e] ∧ GIs N ga
theorem nds_pure (m : Nat) {H : List AObj} {V : List Nat} : ∀ {N : List Nd} {al : List AV}, LIs (NdH H) N al → ∃ al', LIs Nd.Is N al' ∧ mapO (atCells (purify (m + 3) ⟨H, V⟩)) al = some al'
 | [], [], _ => ⟨[], trivial, rfl⟩
 | n :: N, a :: al, h => by
  simp only [LIs] at h
  obtain ⟨al', h1, h2⟩ := nds_pure m (V := V) h.2
  obtain ⟨t1, las, kv, rfl, q2, q3, q4, q5, q6, q7, q8, q9, q10⟩ := h.1
  have hps : pureAV (.sl las t1) = true := by rw [pv_sl, q2, lvsPure q8]; rfl
  have key : ∃ t2, t2.pure = true ∧ purify (m + 3) ⟨H, V⟩ kv = some (.sl (ints n.kids) t2) := by
   rcases q10 with ⟨t, rfl⟩ | ⟨q, fz, rfl, hq⟩
   ·cases ht2 : t.pure
    ·refine ⟨t.stripR (m + 2) ⟨H, V⟩, by cases t <;> simp only [Tl.stripR] <;> (try split) <;> first | rfl | exact absurd ht2 (by simp [Tl.pure]), ?_⟩
     rw [pz_sl, mapO_at (ints_pure _)]; rfl
    ·exact ⟨t, ht2, purify_pure (by rw [pv_sl, ht2, ints_pure]; rfl)⟩
   ·refine ⟨.al, rfl, ?_⟩
    rw [pz_bs, elems_ints (s := ⟨H, V⟩) hq]
    simp [mapO_at (ints_pure _)]
  obtain ⟨t2, k1, k2⟩ := key
  refine ⟨.agg [.int n.k, .int n.i, .str n.n, .sl las t1, .sl (ints n.kids) t2] :: al', ⟨⟨t1, t2, las, rfl, q2, k1, q3, q4, q5, q6, q7, q8, q9⟩, h1⟩, ?_⟩
  simp only [mapO, atCells, purify_pure (n := m + 2) pv_v, purify_pure (n := m + 2) hps, k2, Option.map_some, h2]
 | [], _ :: _, h => by simp [LIs] at h
 | _ :: _, [], h => by simp [LIs] at h
def KeepN (H H' : List AObj) : Prop := H.length ≤ H'.length ∧ ∀ (k : Nat) (o : AObj), H[k]? = some o → (∀ (fz : Bool) (ks : List Int), o ≠ AObj.cells fz (ints ks)) → H'[k]? = some o
theorem KeepN.refl (H : List AObj) : KeepN H H := ⟨Nat.le_refl _, fun _ _ h _ => h⟩
theorem KeepN.trans {A B C : List AObj} (h : KeepN A B) (k : KeepN B C) : KeepN A C := ⟨Nat.le_trans h.1 k.1, fun i o h1 h2 => k.2 i o (h.2 i o h1 h2) h2⟩
theorem KeepN.app (H G : List AObj) : KeepN H (H ++ G) := ⟨by simp, fun k o h _ => app_get_of h G⟩
theorem kid_frz (m : Nat) {H : List AObj} {V : List Nat} {ks : List Int} {kv : AV} (h : KidsH H ks kv) : ∃ H', frz (m + 1) ⟨H, V⟩ kv = ⟨H', V⟩ ∧ KeepN H H' ∧ FrI H H' := by
 rcases h with ⟨t, rfl⟩ | ⟨q, fz, rfl, hq⟩
 ·exact ⟨H, fr_sl (ints_pure _), .refl _, .refl _⟩
 ·refine ⟨H.set q (.cells true (ints ks)), ?_, ⟨by rw [List.length_set]; exact Nat.le_refl _, fun k o h1 h2 => ?_⟩, frzK_fr (.inr ⟨q, fz, rfl, hq⟩)⟩
  ·rw [fr_bs, elems_ints (s := ⟨H, V⟩) hq, Option.getD_some, fz_cells hq, ints_foldl]
  ·have : q ≠ k := by rintro rfl; rw [hq] at h1; exact h2 fz ks (Option.some.inj h1).symm
   rw [List.getElem?_set, if_neg this]; exact h1
theorem nds_frz (m : Nat) {V : List Nat} : ∀ {N : List Nd} {al : List AV} {H : List AObj}, LIs (NdH H) N al → ∃ H', (flat al).foldl (frz (m + 1)) ⟨H, V⟩ = ⟨H', V⟩ ∧ KeepN H H' ∧ FrI H H'
 | [], [], H, _ => ⟨H, rfl, .refl _, .refl _⟩
 | n :: N, a :: al, H, h => by
  simp only [LIs] at h
  obtain ⟨t1, las, kv, rfl, q2, q3, q4, q5, q6, q7, q8, q9, q10⟩ := h.1
  have hps : pureAV (.sl las t1) = true := by rw [pv_sl, q2, lvsPure q8]; rfl
  obtain ⟨H1, e1, e2, e3⟩ := kid_frz m (V := V) q10
  obtain ⟨H2, f1, f2, f3⟩ := nds_frz m (V := V) (h.2.mono2 fun x a hx => hx.mono e3)
  refine ⟨H2, ?_, e2.trans f2, e3.trans f3⟩
  rw [flat_cons, cells_agg]
  simp only [List.cons_append, List.nil_append, List.foldl_cons, fr_pure pv_v, fr_pure hps, e1, f1]
 | [], _ :: _, _, h => by simp [LIs] at h
 | _ :: _, [], _, h => by simp [LIs] at h
theorem res_frz {H : List AObj} {V : List Nat} {N : List Nd} {al : List AV} {tn : Tl} (h : LIs (NdH H) N al) (x y : Value) : ∃ H', frz 20 ⟨H, V⟩ (.tup [.agg [.sl al tn], .v x, .v y]) = ⟨H', V⟩ ∧ KeepN H H' := by
 rw [fr_tup]
 split
 ·exact ⟨H, rfl, .refl _⟩
 ·simp only [List.foldl_cons, List.foldl_nil]
  have : ∃ H', frz 19 ⟨H, V⟩ (.agg [.sl al tn]) = ⟨H', V⟩ ∧ KeepN H H' := by
   rw [fr_agg]
   split
   ·exact ⟨H, rfl, .refl _⟩
   ·simp only [List.foldl_cons, List.foldl_nil]
    rw [frz]
    split
    ·exact ⟨H, rfl, .refl _⟩
    ·obtain ⟨H', e1, e2, _⟩ := nds_frz 16 (V := V) h
     exact ⟨H', e1, e2⟩
  obtain ⟨H', e1, e2⟩ := this
  exact ⟨H', by rw [e1, fr_pure pv_v, fr_pure pv_v], e2⟩
theorem result_sh {bi mi : Nat} {sc : Bool} {T : List Tm} {H : List AObj} {V : List Nat} (hB : BS bi mi sc T H V) (hl : T.length ≤ 65536) (id : Int) :
  Sh md pfs 43 [.ptr bi 0, .int id] ⟨H, V⟩ (fun v s => (if sc = true then GRes [] 0 24 v else GRes (nodesOf T) id 0 v) ∧ ∃ H' V', s = ⟨H', V'⟩ ∧ KeepN H H') fun _ _ => False := by
 have hln0 := hB
 obtain ⟨hne, al, tn, tf, es, b1, b2, b3, b4, b5, b6, b7⟩ := hB
 have hln := b3.len
 rw [nodes_len] at hln
 have b1' := app_get_of b1 [AObj.cells false [AV.sl [] .nil]]
 refine sh_of pf43_is (Nat.le_of_ble_eq_true rfl) ?_
 cases sc
 ·have b3' := b3.mono2 fun x a hx => hx.mono (FrI.app H [AObj.cells false [AV.sl al tn]])
  obtain ⟨al', h1, h2⟩ := nds_pure 14 (V := V) b3'
  have hla := h1.len
  have e2 : purify 19 ⟨H ++ [AObj.cells false [AV.sl al tn]], V⟩ (.agg [.sl al tn]) = some (.agg [.sl al' (tn.stripR 17 ⟨H ++ [AObj.cells false [AV.sl al tn]], V⟩)]) := by
   rw [pz_agg]; simp only [mapO, pz_sl, h2, Option.map_some]
  have hst : (tn.stripR 17 ⟨H ++ [AObj.cells false [AV.sl al tn]], V⟩).pure = true := by
   cases tn <;> simp [Tl.stripR, Tl.pure]
  obtain ⟨H', f1, f2⟩ := res_frz (V := V) (tn := tn) b3' (.int .i64 id) (.int .i64 0)
  simp only [↓wpre, wall, simprocAttr] at f1
  simp only [pf43, ↓wpre, wall, simprocAttr, List.length_append, List.append_assoc, app_get_len, app_get_add, app_set_len, app_set_add, b1', e2]
  exact ⟨⟨_, rfl, al', _, rfl, hst, by rw [hla, nodes_len]; unfold lenB; omega, h1⟩, H', V, f1, (KeepN.app _ _).trans f2⟩
 ·simp only [pf43, ↓wpre, wall, simprocAttr, List.length_append, List.append_assoc, app_get_len, app_get_add, app_set_len, app_set_add, b1']
  exact ⟨⟨_, rfl, [], .nil, rfl, rfl, Nat.zero_le _, trivial⟩, _, _, rfl, KeepN.app _ _⟩
end Go.Proofs.Eng
namespace Go.Proofs.Eng
section
variable (fr : Int) (var : Int → Nat → Tm) (ve : Int → Nat → Bool)
mutual
def Tm.mv (d : Nat) : Tm → Tm
 | .mk k i n ls kids => if ((Tm.mk k i n ls kids).fv : Int) ≤ fr + d then .mk k i n ls kids else if k = 0 then var i d else .mk k i n ls (mvL d k 0 kids)
def mvL (d : Nat) (k : Int) : Nat → List Tm → List Tm
 | _, [] => []
 | j, t :: l => t.mv (d + (binderG k j).toNat) :: mvL d k (j + 1) l
end
mutual
def Tm.me (d : Nat) : Tm → Bool
 | .mk k i n ls kids => if ((Tm.mk k i n ls kids).fv : Int) ≤ fr + d then false else if k = 0 then ve i d else meL d k 0 kids
def meL (d : Nat) (k : Int) : Nat → List Tm → Bool
 | _, [] => false
 | j, t :: l => t.me (d + (binderG k j).toNat) || meL d k (j + 1) l
end
end
section
variable {fr : Int} {var : Int → Nat → Tm} {ve : Int → Nat → Bool}
theorem mvL_get {d : Nat} {k : Int} {x : Tm} : ∀ {l : List Tm} {j i : Nat}, l[i]? = some x → (mvL fr var d k j l)[i]? = some (x.mv fr var (d + (binderG k (j + i : Nat)).toNat))
 | [], _, _, h => by simp at h
 | y :: l, j, 0, h => by simp at h; subst h; rw [mvL]; simp
 | y :: l, j, i + 1, h => by
  rw [mvL, List.getElem?_cons_succ, mvL_get (by simpa using h), show j + 1 + i = j + (i + 1) from by omega]
theorem mvL_len {d : Nat} {k : Int} : ∀ {l : List Tm} {j : Nat}, (mvL fr var d k j l).length = l.length
 | [], _ => by rw [mvL]
 | y :: l, j => by rw [mvL, List.length_cons, mvL_len, List.length_cons]
theorem mvL_snoc {d : Nat} {k : Int} {x : Tm} : ∀ {l : List Tm} {j : Nat}, mvL fr var d k j (l ++ [x]) = mvL fr var d k j l ++ [x.mv fr var (d + (binderG k (j + l.length : Nat)).toNat)]
 | [], j => by simp [mvL]
 | y :: l, j => by
  rw [List.cons_append, mvL, mvL_snoc, mvL, List.length_cons, show j + 1 + l.length = j + (l.length + 1) from by omega]; rfl
theorem meL_snoc {d : Nat} {k : Int} {x : Tm} : ∀ {l : List Tm} {j : Nat}, meL fr ve d k j (l ++ [x]) = (meL fr ve d k j l || x.me fr ve (d + (binderG k (j + l.length : Nat)).toNat))
 | [], j => by simp [meL]
 | y :: l, j => by
  rw [List.cons_append, meL, meL_snoc, meL, List.length_cons, show j + 1 + l.length = j + (l.length + 1) from by omega, Bool.or_assoc]
theorem mv_all {P : Tm → Prop} (hv : ∀ i d, ∀ y ∈ (var i d).subs, P y) (hn : ∀ k i n ls (l m : List Tm), m.length = l.length → P (.mk k i n ls l) → P (.mk k i n ls m)) (x : Tm) : ∀ d, (∀ y ∈ x.subs, P y) → ∀ y ∈ (x.mv fr var d).subs, P y := by
 induction x using Tm.ind with
 | h k i n ls kids ih =>
 intro d h y hy
 rw [Tm.mv] at hy
 split at hy
 ·exact h y hy
 split at hy
 ·exact hv i d y hy
 ·rw [Tm.subs] at hy
  rcases List.mem_cons.1 hy with rfl | hy
  ·exact hn _ _ _ _ kids _ mvL_len (h _ (subs_self _))
  ·obtain ⟨z, hz, hyz⟩ := mem_subsL.1 hy
   obtain ⟨j, hj⟩ := List.getElem?_of_mem hz
   have hjl := (List.getElem?_eq_some_iff.1 hj).1
   rw [mvL_len] at hjl
   have hx := List.getElem?_eq_getElem hjl
   have := mvL_get (fr := fr) (var := var) (d := d) (k := k) (j := 0) hx
   rw [this] at hj
   have hj := Option.some.inj hj
   subst hj
   refine ih _ (List.getElem_mem hjl) _ (fun w hw => h w ?_) y hyz
   rw [Tm.subs]
   exact List.mem_cons_of_mem _ (mem_subsL.2 ⟨_, List.getElem_mem hjl, hw⟩)
theorem mv_right (hv : ∀ i d, ∀ y ∈ (var i d).subs, y.right = true) {x : Tm} (d : Nat) (h : ∀ y ∈ x.subs, y.right = true) : ∀ y ∈ (x.mv fr var d).subs, y.right = true :=
 mv_all (P := fun y => y.right = true) hv (fun k i n ls l m hl h => by rw [right_len hl]; exact h) x d h
end
end Go.Proofs.Eng
namespace Go.Proofs.Eng
open Go Go.Proofs
set_option maxRecDepth 100000
set_option maxHeartbeats 16000000
structure StpP (bi : Nat) (P : Nat → Prop) (H : List AObj) (V : List Nat) (H' : List AObj) (V' : List Nat) : Prop where
 fr : FrI H H'
 vk : VK bi H V H' V'
 cells : ∀ (k : Nat) (fz : Bool) (c : List AV), k ≠ bi → H[k]? = some (.cells fz c) → H'[k]? = some (.cells fz c)
 maps : ∀ (k : Nat) (es : List (AV × AV)), P k → H[k]? = some (.map es) → H'[k]? = some (.map es)
 bk : ∀ Q, BK bi Q H → BK bi (fun k => Q k ∨ H.length ≤ k) H'
theorem StpP.trans {bi : Nat} {P : Nat → Prop} {A B C : List AObj} {V V' V'' : List Nat} (h : StpP bi P A V B V') (k : StpP bi P B V' C V'') : StpP bi P A V C V'' :=
 ⟨h.fr.trans k.fr, h.vk.trans k.vk, fun i fz c h1 h2 => k.cells i fz c h1 (h.cells i fz c h1 h2), fun i es h1 h2 => k.maps i es h1 (h.maps i es h1 h2), fun Q hQ => (k.bk _ (h.bk Q hQ)).same rfl fun i h1 => h1.elim id fun h1 => .inr (Nat.le_trans h.fr.1 h1)⟩
theorem StpP.mono {bi : Nat} {P P' : Nat → Prop} {A B : List AObj} {V V' : List Nat} (h : StpP bi P A V B V') (hp : ∀ k, P' k → P k) : StpP bi P' A V B V' := ⟨h.fr, h.vk, h.cells, fun k es h1 h2 => h.maps k es (hp k h1) h2, h.bk⟩
theorem StpP.app {bi : Nat} {P : Nat → Prop} {H : List AObj} (V : List Nat) (hb : bi < H.length) (G : List AObj) : StpP bi P H V (H ++ G) V := ⟨.app _ _, VK.same V (List.getElem?_append_left hb), fun _ _ _ _ h => app_get_of h G, fun _ _ _ h => app_get_of h G, fun Q hQ => hQ.same (List.getElem?_append_left hb) fun _ h => .inl h⟩
theorem StpP.setN {bi : Nat} {P : Nat → Prop} {H H' : List AObj} {V V' : List Nat} (h : StpP bi P H V H' V') {q : Nat} (hq : H.length ≤ q) (hb : bi < H.length) (o : AObj) : StpP bi P H V (H'.set q o) V' := by
 have hg : ∀ k, k < H.length → (H'.set q o)[k]? = H'[k]? := fun k hk => by rw [List.getElem?_set, if_neg (by omega)]
 have he := hg bi hb
 refine ⟨⟨by rw [List.length_set]; exact h.fr.1, fun k fz ks hk => ?_⟩, ⟨h.vk.1, h.vk.2.1, fun i ho => h.vk.2.2 i ((owb_eq he i).1 ho)⟩, fun k fz c h1 h2 => ?_, fun k es h1 h2 => ?_, fun Q hQ => (h.bk Q hQ).same he fun _ h => h⟩
 ·rw [hg k (lt_of_get hk)]; exact h.fr.2 k fz ks hk
 ·rw [hg k (lt_of_get h2)]; exact h.cells k fz c h1 h2
 ·rw [hg k (lt_of_get h2)]; exact h.maps k es h1 h2
theorem BS.bk {bi mi : Nat} {sc : Bool} {T : List Tm} {H : List AObj} {V : List Nat} (h : BS bi mi sc T H V) : BK bi (fun k => k < H.length) H := by
 obtain ⟨_, al, tn, tf, es, b1, _, b3, _⟩ := h
 intro al' tn' x y z w e a ha k ⟨c0, c1, c2, c3, kv, e1, o, len, es', ag, e2⟩
 rw [b1] at e
 simp only [Option.some.injEq, AObj.cells.injEq, List.cons.injEq, AV.sl.injEq, true_and, and_true] at e
 obtain ⟨⟨rfl, _⟩, _⟩ := e
 obtain ⟨i, hi⟩ := List.getElem?_of_mem ha
 obtain ⟨n, c, _, h2, _, _, t1, las, kv', h5, _, _, _, _, _, _, _, _, h6⟩ := ndh_get b3 (List.getElem?_eq_some_iff.1 hi).1
 rw [hi, Option.some.injEq, e1] at h2
 rw [← h2] at h5
 simp only [AV.agg.injEq, List.cons.injEq, true_and, and_true] at h5
 obtain ⟨_, _, _, _, rfl⟩ := h5
 rcases h6 with ⟨t, h6⟩ | ⟨q, fz, h6, h7⟩
 ·rw [e2] at h6; cases h6
 ·rw [e2] at h6
  simp only [AV.bs.injEq] at h6
  rw [h6.1]; exact lt_of_get h7
theorem BS.setQ {bi mi : Nat} {sc : Bool} {T : List Tm} {H : List AObj} {V : List Nat} (h : BS bi mi sc T H V) {q : Nat} (hk : BK bi (fun k => k ≠ q) H) (h1 : q ≠ bi) (h2 : q ≠ mi) (o : AObj) : BS bi mi sc T (H.set q o) V := by
 obtain ⟨hne, al, tn, tf, es, b1, b2, b3, b4⟩ := h
 refine ⟨hne, al, tn, tf, es, by rw [List.getElem?_set, if_neg h1]; exact b1, by rw [List.getElem?_set, if_neg h2]; exact b2, ?_, b4⟩
 have hq := hk _ _ _ _ _ _ b1
 clear b4 b1 b2 hk
 have key : ∀ (l : List Nd) (al : List AV), LIs (NdH H) l al → (∀ a ∈ al, ∀ k, AKid a k → k ≠ q) → LIs (NdH (H.set q o)) l al := by
  intro l
  induction l with
  | nil => intro al h _; cases al <;> simpa [LIs] using h
  | cons n l ih =>
   intro al h ha
   cases al with
   | nil => simp [LIs] at h
   | cons a al =>
    simp only [LIs] at h ⊢
    refine ⟨?_, ih al h.2 fun b hb => ha b (by simp [hb])⟩
    obtain ⟨t1, las, kv, rfl, k2, k3, k4, k5, k6, k7, k8, k9, k10⟩ := h.1
    refine ⟨t1, las, kv, rfl, k2, k3, k4, k5, k6, k7, k8, k9, ?_⟩
    rcases k10 with k10 | ⟨r, fz, rfl, k11⟩
    ·exact .inl k10
    ·have : r ≠ q := ha _ List.mem_cons_self r ⟨_, _, _, _, _, rfl, _, _, _, _, rfl⟩
     exact .inr ⟨r, fz, rfl, by rw [List.getElem?_set, if_neg (Ne.symm this)]; exact k11⟩
 exact key _ _ b3 hq
section
variable (fr : Int) (var : Int → Nat → Tm) (ve : Int → Nat → Bool)
def dmE (T : List Tm) (p : Tm × Nat) : AV × AV := (.agg [.int (T.idxOf p.1 : Nat), .int (p.2 : Nat)], .int (T.idxOf (p.1.mv fr var p.2) : Nat))
def DM (T : List Tm) (sc : Bool) (es : List (AV × AV)) : Prop := ∃ L : List (Tm × Nat), es = L.map (dmE fr var T) ∧ ∀ p ∈ L, p.1 ∈ T ∧ p.1.mv fr var p.2 ∈ T ∧ (p.1.me fr ve p.2 = true → sc = true)
structure VOk (bi mi dm base : Nat) (P : Nat → Prop) (J : Bool → List AObj → List Tm → Prop) (f : FuncId) (caps : List AV) : Prop where
 call : ∀ {sc : Bool} {T : List Tm} {H : List AObj} {V : List Nat} {i : Int} {d : Nat}, BS bi mi sc T H V → GT T → J sc H T → base ≤ H.length → 0 ≤ i → i ≤ 2147483647 → fr + d ≤ i → d ≤ 1000000 → ((var i d).enter T).length ≤ 65536 →
  ∃ H' V', BS bi mi (sc || ve i d) ((var i d).enter T) H' V' ∧ StpP bi (fun k => P k ∨ k = dm) H V H' V' ∧ J (sc || ve i d) H' ((var i d).enter T) ∧ ∀ K KP, CW (run md pfs) md false ⟨H, V⟩ f ([.int i, .int (d : Nat)] ++ caps) K KP () = K (.int (((var i d).enter T).idxOf (var i d) : Nat)) ⟨H', V'⟩
 stab : ∀ {sc sc' : Bool} {H H' : List AObj} {T m : List Tm}, J sc H T → (sc = true → sc' = true) → (∀ (k : Nat) (fz : Bool) (c : List AV), k < base → k ≠ bi → H[k]? = some (.cells fz c) → H'[k]? = some (.cells fz c)) → (∀ (k : Nat) (es : List (AV × AV)), k ≠ mi → k ≠ dm → H[k]? = some (.map es) → H'[k]? = some (.map es)) → J sc' H' (T ++ m)
 pd : ¬ P dm
 pm : ¬ P mi
 nb : dm ≠ bi
 nm : dm ≠ mi
 right : ∀ i d, ∀ y ∈ (var i d).subs, y.right = true
end
section
variable {fr : Int} {var : Int → Nat → Tm} {ve : Int → Nat → Bool}
theorem dm_key (a b c d : Int) : keyEqM (.gr [false, false]) (.agg [.int a, .int b]) (.agg [.int c, .int d]) = some (decide (a = c) && decide (b = d)) := by
 simp only [keyEqM, List.length_cons, List.length_nil, if_true, eqgA, keyOK, keyEq]
 simp
 rfl
theorem look_dm {T : List Tm} {x : Tm} {d : Nat} (hx : x ∈ T) : ∀ {L : List (Tm × Nat)}, (∀ p ∈ L, p.1 ∈ T) → lookA (.gr [false, false]) (.agg [.int (T.idxOf x : Nat), .int (d : Nat)]) (L.map (dmE fr var T)) = some (if (x, d) ∈ L then some (.int (T.idxOf (x.mv fr var d) : Nat)) else none)
 | [], _ => by simp [lookA]
 | (y, e) :: L, h => by
  have ih := look_dm (d := d) hx (L := L) fun p hp => h p (by simp [hp])
  rw [List.map_cons, dmE, lookA, dm_key]
  by_cases h1 : y = x ∧ e = d
  ·obtain ⟨rfl, rfl⟩ := h1
   simp
  ·have : (decide (((T.idxOf x : Nat) : Int) = (T.idxOf y : Nat)) && decide ((d : Int) = (e : Nat))) = false := by
    rw [Bool.and_eq_false_iff]
    simp only [decide_eq_false_iff_not]
    by_cases h2 : y = x
    ·subst h2; exact .inr fun h3 => h1 ⟨rfl, by omega⟩
    ·exact .inl fun h3 => h2 (idx_inj (h (y, e) (by simp)) hx (by omega))
   rw [this]
   simp only [ih]
   have h3 : ¬ (x, d) = (y, e) := fun h => h1 ⟨(Prod.mk.inj h).1.symm, (Prod.mk.inj h).2.symm⟩
   simp only [List.mem_cons, h3, false_or]
theorem up_dm {T : List Tm} {x : Tm} {d : Nat} (hx : x ∈ T) : ∀ {L : List (Tm × Nat)}, (∀ p ∈ L, p.1 ∈ T) → ∃ L' : List (Tm × Nat), upA (.gr [false, false]) (.agg [.int (T.idxOf x : Nat), .int (d : Nat)]) (.int (T.idxOf (x.mv fr var d) : Nat)) (L.map (dmE fr var T)) = some (L'.map (dmE fr var T)) ∧ ∀ p ∈ L', p ∈ L ∨ p = (x, d)
 | [], _ => ⟨[(x, d)], by rw [List.map_nil, upA]; rfl, by simp⟩
 | (y, e) :: L, h => by
  obtain ⟨L', h4, h5⟩ := up_dm (d := d) hx (L := L) fun p hp => h p (by simp [hp])
  rw [List.map_cons, dmE, upA, dm_key]
  by_cases h1 : y = x ∧ e = d
  ·obtain ⟨rfl, rfl⟩ := h1
   exact ⟨(y, e) :: L, by simp [dmE], fun p hp => .inl hp⟩
  ·have : (decide (((T.idxOf x : Nat) : Int) = (T.idxOf y : Nat)) && decide ((d : Int) = (e : Nat))) = false := by
    rw [Bool.and_eq_false_iff]
    simp only [decide_eq_false_iff_not]
    by_cases h2 : y = x
    ·subst h2; exact .inr fun h3 => h1 ⟨rfl, by omega⟩
    ·exact .inl fun h3 => h2 (idx_inj (h (y, e) (by simp)) hx (by omega))
   rw [this]
   simp only [h4]
   refine ⟨(y, e) :: L', by simp [dmE], fun p hp => ?_⟩
   rcases List.mem_cons.1 hp with rfl | hp
   ·exact .inl (by simp)
   ·rcases h5 p hp with h6 | h6
    ·exact .inl (by simp [h6])
    ·exact .inr h6
theorem DM.grow {T m : List Tm} {sc sc' : Bool} {es : List (AV × AV)} (h : DM fr var ve T sc es) (hs : sc = true → sc' = true) : DM fr var ve (T ++ m) sc' es := by
 obtain ⟨L, rfl, h2⟩ := h
 refine ⟨L, List.map_congr_left fun p hp => ?_, fun p hp => ?_⟩
 ·obtain ⟨h3, h4, _⟩ := h2 p hp
  rw [dmE, dmE, idx_pre h3, idx_pre h4]
 ·obtain ⟨h3, h4, h5⟩ := h2 p hp
  exact ⟨List.mem_append_left _ h3, List.mem_append_left _ h4, fun h => hs (h5 h)⟩
end
end Go.Proofs.Eng
namespace Go.Proofs.Eng
open Go Go.Proofs
set_option maxRecDepth 100000
set_option maxHeartbeats 16000000
end Go.Proofs.Eng
