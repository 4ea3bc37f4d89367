/- Sizes of encodings. No conditions beyond those in the theorems. -/
import Derived.Test.YtjiheebhmokfbaaDoorC2
set_option linter.all false
set_option linter.deprecated false
set_option linter.unnecessarySimpa false
set_option linter.unusedVariables false
set_option linter.unusedSimpArgs false
set_option linter.defProp false
namespace Go.Proofs.Eng
open Go Go.Proofs
set_option maxRecDepth 100000
set_option maxHeartbeats 16000000
theorem BS.keep {bi mi : Nat} {sc : Bool} {T : List Tm} {H H' : List AObj} {V V' : List Nat} (h : BS bi mi sc T H V) (h1 : H'[bi]? = H[bi]?) (h2 : H'[mi]? = H[mi]?) (hf : FrI H H') (hv : ∀ i v, OwB bi H i → V[i]? = some v → V'[i]? = some v) : BS bi mi sc T H' V' := by
 obtain ⟨hne, al, tn, tf, es, b1, b2, b3, b4, b5, b6, b7⟩ := h
 refine ⟨hne, al, tn, tf, es, by rw [h1]; exact b1, by rw [h2]; exact b2, b3.mono2 fun x a hx => hx.mono hf, b4, ?_, ?_, b7⟩
 ·rcases b5 with h | ⟨h3, i, v, rfl, h4⟩
  ·exact .inl h
  ·exact .inr ⟨h3, i, v, rfl, hv i v ⟨_, _, _, _, _, _, _, v, b1, .inl rfl⟩ h4⟩
 ·rcases b6 with h | ⟨h3, i, v, rfl, h4⟩
  ·exact .inl h
  ·exact .inr ⟨h3, i, v, rfl, hv i v ⟨_, _, _, _, _, _, _, v, b1, .inr rfl⟩ h4⟩
theorem BS.bi_lt {bi mi : Nat} {sc : Bool} {T : List Tm} {H : List AObj} {V : List Nat} (h : BS bi mi sc T H V) : bi < H.length ∧ mi < H.length := by
 obtain ⟨_, _, _, _, _, b1, b2, _⟩ := h
 exact ⟨lt_of_get b1, lt_of_get b2⟩
theorem BS.app {bi mi : Nat} {sc : Bool} {T : List Tm} {H : List AObj} {V : List Nat} (h : BS bi mi sc T H V) (G : List AObj) : BS bi mi sc T (H ++ G) V := by
 obtain ⟨l1, l2⟩ := h.bi_lt
 exact h.keep (List.getElem?_append_left l1) (List.getElem?_append_left l2) (.app _ _) fun _ _ _ h => h
theorem GT.take {T : List Tm} (h : GT T) (j : Nat) : GT (T.take j) := ⟨Good.cut (m := T.drop j) (by rw [List.take_append_drop]; exact h.good), fun t ht => h.right t (List.mem_of_mem_take ht)⟩
structure Stp (bi mi : Nat) (H : List AObj) (V : List Nat) (H' : List AObj) (V' : List Nat) : Prop where
 fr : FrI H H'
 vk : VK bi H V H' V'
 keep : ∀ k, k < H.length → k ≠ bi → k ≠ mi → H'[k]? = H[k]?
theorem Stp.trans {bi mi : Nat} {A B C : List AObj} {V V' V'' : List Nat} (h : Stp bi mi A V B V') (k : Stp bi mi B V' C V'') : Stp bi mi A V C V'' :=
 ⟨h.fr.trans k.fr, h.vk.trans k.vk, fun i h1 h2 h3 => (k.keep i (Nat.lt_of_lt_of_le h1 h.fr.1) h2 h3).trans (h.keep i h1 h2 h3)⟩
theorem Stp.app {bi mi : Nat} {sc : Bool} {T : List Tm} {H : List AObj} {V : List Nat} (h : BS bi mi sc T H V) (G : List AObj) : Stp bi mi H V (H ++ G) V :=
 ⟨.app _ _, VK.same V (List.getElem?_append_left h.bi_lt.1), fun k h1 _ _ => List.getElem?_append_left h1⟩
theorem Stp.get {bi mi : Nat} {A B : List AObj} {V V' : List Nat} (h : Stp bi mi A V B V') {k : Nat} {o : AObj} (hk : A[k]? = some o) (h1 : k ≠ bi) (h2 : k ≠ mi) : B[k]? = some o := by rw [h.keep k (lt_of_get hk) h1 h2]; exact hk
theorem badd_call {bi mi : Nat} {sc : Bool} {T : List Tm} {H : List AObj} {V : List Nat} (hB : BS bi mi sc T H V) (hG : GT T) {t : Tm} (hr : t.right = true) (hk : ∀ x ∈ t.kids, x ∈ T) {a : AV} (hn : NdH H (ndOf T t) a) (hl : (addT T t).length ≤ 65536) (hak : ∀ k, AKid a k → H.length ≤ k) :
  ∃ H' V', BS bi mi sc (addT T t) H' V' ∧ Stp bi mi H V H' V' ∧ (∀ Q, BK bi Q H → (∀ k, AKid a k → Q k) → BK bi Q H') ∧ ∀ K KP, CW (run md pfs) md false ⟨H, V⟩ 73 [.ptr bi 0, a] K KP () = K (.int ((addT T t).idxOf t : Nat)) ⟨H', V'⟩ := by
 obtain ⟨v, _, ⟨rfl, H', V', rfl, h1, h2, h3, h4, hbk⟩, h5⟩ := (badd_sh hB hG hr hk hn hl).callRet rfl
 exact ⟨H', V', h1, ⟨h2, h3, fun k k1 k2 k3 => h4 k k1 k2 k3 fun h => by have := hak k h; omega⟩, hbk, h5⟩
theorem Nd.Is.noKid {n : Nd} {a : AV} (h : n.Is a) (k : Nat) : ¬ AKid a k := by
 obtain ⟨t1, t2, las, rfl, _⟩ := h
 rintro ⟨c0, c1, c2, c3, kv, e, o, len, es, ag, rfl⟩
 simp at e
theorem good_at {T : List Tm} (h : GT T) {j : Nat} {t : Tm} (ht : T[j]? = some t) : (∀ x ∈ t.kids, x ∈ T.take j) ∧ t ∉ T.take j ∧ T.take (j + 1) = T.take j ++ [t] := by
 have hlt := (List.getElem?_eq_some_iff.1 ht).1
 have e1 : T.take (j + 1) = T.take j ++ [t] := by rw [List.take_add_one, ht]; rfl
 have hg := (h.take (j + 1)).good
 rw [e1] at hg
 refine ⟨Good.next (m := []) hg, fun hm => ?_, e1⟩
 have := hg.nodup
 rw [List.nodup_append] at this
 exact this.2.2 t hm t (by simp) rfl
theorem begin_rw {T : List Tm} (hG : GT T) (hl : T.length ≤ 65536) {g : AV} (h : GIs (nodesOf T) g) {H : List AObj} {V : List Nat} : Rw 42 [g] ⟨H, V⟩ fun v s => ∃ (bi mi : Nat) (H' : List AObj) (V' : List Nat), v = .ptr bi 0 ∧ s = ⟨H', V'⟩ ∧ BS bi mi false T H' V' ∧ H.length ≤ bi ∧ H.length ≤ mi ∧ FrI H H' ∧ (∀ k, k < H.length → H'[k]? = H[k]?) ∧ V.length ≤ V'.length ∧ ∀ (i v : Nat), V[i]? = some v → V'[i]? = some v := by
 obtain ⟨al, t, rfl, ht, hal, hL⟩ := h
 have hln := hL.len
 rw [nodes_len] at hln
 have hall := hL.all ndAgg
 refine rw_of pf42_is (Nat.le_of_ble_eq_true rfl) ?_
 simp only [pf42, ↓wpre, wall, simprocAttr, List.length_append, List.append_assoc, app_get_len, app_get_add, app_set_len, app_set_add]
 have hB0 : BS (H.length + 2) (H.length + 1) false [] (H ++ [.cells false [.sl al t], .map [], .cells false [.sl [] .nil, .mp (H.length + 1), .sl [] .nil, .bool false, .bool false]]) V := by
  refine ⟨by omega, [], .nil, .nil, [], by simp [frs, ints], by simp, trivial, mapT_nil, app_start _, app_start _, fun i v v' h => by cases h⟩
 refine W_loopE (fun j => al.length - j) (fun j E H1 V1 => BS (H.length + 2) (H.length + 1) false (T.take j) H1 V1 ∧ Stp (H.length + 2) (H.length + 1) (H ++ [.cells false [.sl al t], .map [], .cells false [.sl [] .nil, .mp (H.length + 1), .sl [] .nil, .bool false, .bool false]]) V H1 V1 ∧ E 3 = .ptr (H.length + 2) 0 ∧ E 10 = .sl al t ∧ E 11 = .int al.length ∧ E 12 = .int (j : Nat) ∧ j ≤ al.length) ?_ 0 ⟨by simpa using hB0, ⟨.refl _, VK.same V rfl, fun _ _ _ _ => rfl⟩, rfl, rfl, rfl, rfl, Nat.zero_le _⟩
 rintro j E H1 V1 ⟨hB, hS, e3, e10, e11, e12, hj⟩
 rcases Nat.lt_or_ge j al.length with hlt | hge
 ·have hdec : decide ((j : Int) < al.length) = true := by simpa using hlt
  obtain ⟨n, c, d0, d1, d3, d4, d5, d6, d7, d8⟩ := hL.get ndAgg hlt
  obtain ⟨x, hx⟩ : ∃ x, T[j]? = some x := ⟨T[j]'(by omega), List.getElem?_eq_getElem _⟩
  have hnx : n = ndOf T x := by
   rw [nodesOf, List.getElem?_map, hx] at d0
   exact (Option.some.inj d0).symm
  obtain ⟨hk, hnm, htk⟩ := good_at hG hx
  have hxT : x ∈ T := List.mem_of_getElem? hx
  have hnj : n = ndOf (T.take j) x := by
   rw [hnx]
   conv => lhs; rw [← List.take_append_drop j T]
   exact ndOf_app hk _
  have ha : addT (T.take j) x = T.take (j + 1) := by rw [addT, if_neg hnm, htk]
  have hB' := hB.app [.cells false c]
  rw [hnj] at d8
  obtain ⟨H2, V2, hB2, hS2, _, c73⟩ := badd_call hB' (hG.take j) (hG.right x hxT) hk (NdH.of d8 _) (by rw [ha, List.length_take]; omega) fun k hk => absurd hk (d8.noKid k)
  rw [ha] at hB2 c73
  simp only [↓wpre, wall, simprocAttr, List.length_append, List.append_assoc, app_get_len, app_get_add, app_set_len, app_set_add, e3, e10, e11, e12, hdec, d4, d5, d6, d7, hall, c73]
  exact EQ_in ⟨j + 1, by omega, hB2, (hS.trans (.app hB _)).trans hS2, e3, e10, e11, next_ixv (by omega), by omega⟩
 ·have hdec : decide ((j : Int) < al.length) = false := by simpa using hge
  rw [List.take_of_length_le (by omega)] at hB
  simp only [↓wpre, wall, simprocAttr, e3, e10, e11, e12, hdec, AQ_ret, AQ_normal, AQ_exit]
  refine ⟨_, _, _, _, rfl, rfl, hB, by omega, by omega, (FrI.app _ _).trans hS.fr, fun k hk => ?_, hS.vk.1, fun i v h => hS.vk.2.1 i v h fun ⟨_, _, _, _, _, _, _, w, e1, e2⟩ => ?_⟩
  ·rw [hS.keep k (by simp; omega) (by omega) (by omega), List.getElem?_append_left hk]
  ·have e3 : (H ++ [AObj.cells false [AV.sl al t], .map [], .cells false [.sl [] .nil, .mp (H.length + 1), .sl [] .nil, .bool false, .bool false]])[H.length + 2]? = some (.cells false [.sl [] .nil, .mp (H.length + 1), .sl [] .nil, .bool false, .bool false]) := by simp
   rw [e3] at e1
   simp only [Option.some.injEq, AObj.cells.injEq, List.cons.injEq, AV.sl.injEq, true_and, and_true] at e1
   obtain ⟨⟨_, rfl⟩, _, ⟨_, rfl⟩, _⟩ := e1
   rcases e2 with e2 | e2 <;> cases e2
def GRes (N : List Nd) (id e : Int) (v : AV) : Prop := ∃ ga, v = .tup [ga, .int id, .int e] ∧ GIs N ga
def KeepN (H H' : List AObj) : Prop := H.length ≤ H'.length ∧ ∀ (k : Nat) (o : AObj), H[k]? = some o → (∀ (fz : Bool) (ks : List Int), o ≠ AObj.cells fz (ints ks)) → H'[k]? = some o
theorem KeepN.refl (H : List AObj) : KeepN H H := ⟨Nat.le_refl _, fun _ _ h _ => h⟩
theorem KeepN.trans {A B C : List AObj} (h : KeepN A B) (k : KeepN B C) : KeepN A C := ⟨Nat.le_trans h.1 k.1, fun i o h1 h2 => k.2 i o (h.2 i o h1 h2) h2⟩
theorem KeepN.app (H G : List AObj) : KeepN H (H ++ G) := ⟨by simp, fun k o h _ => app_get_of h G⟩
end Go.Proofs.Eng
