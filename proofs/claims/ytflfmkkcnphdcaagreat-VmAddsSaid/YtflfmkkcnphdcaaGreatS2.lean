/- Checked code is safe to run: a step. No conditions beyond those in the theorems. -/
import Derived.Test.YtflfmkkcnphdcaaGreatNM
set_option linter.all false
set_option linter.deprecated false
set_option linter.unnecessarySimpa false
set_option linter.unusedVariables false
set_option linter.unusedSimpArgs false
set_option linter.defProp false
namespace Go.Proofs.Eng
open Go Go.Proofs
set_option maxRecDepth 100000
set_option maxHeartbeats 16000000
inductive Vl where
 | box
 | clo (n : Int) (e : List Vl)
 | ctor (n : Int) (nm : ByteArray) (p : List Vl)
 | pair (a b : Vl)
abbrev Fz := Nat -> Option (List AV)
def PA (F : Fz) (l : List AV) (pa : AV) : Prop := (∃ t, pa = .sl l t) \/ ∃ b, pa = .bs b 0 l.length 1 false /\ F b = some l
mutual
def VR (F : Fz) : Vl -> AV -> Prop
 | .box, a => ∃ k, a = .ptr k 0 /\ F k = some [.int 0, .int 0, .str ⟨#[]⟩, .v (.pointer none), .sl [] .nil]
 | .clo n e, a => ∃ k ea, a = .ptr k 0 /\ F k = some [.int 1, .int n, .str ⟨#[]⟩, ea, .sl [] .nil] /\ ER F e ea
 | .ctor n nm p, a => ∃ k pa l, a = .ptr k 0 /\ F k = some [.int 2, .int n, .str nm, .v (.pointer none), pa] /\ PA F l pa /\ VRs F p l
 | .pair x y, a => ∃ k ax ay t, a = .ptr k 0 /\ F k = some [.int 3, .int 0, .str ⟨#[]⟩, .v (.pointer none), .sl [ax, ay] t] /\ VR F x ax /\ VR F y ay
def ER (F : Fz) : List Vl -> AV -> Prop
 | [], a => a = .v (.pointer none)
 | v :: e, a => ∃ k av ea, a = .ptr k 0 /\ F k = some [av, ea] /\ VR F v av /\ ER F e ea
def VRs (F : Fz) : List Vl -> List AV -> Prop
 | [], l => l = []
 | v :: p, l => ∃ a l', l = a :: l' /\ VR F v a /\ VRs F p l'
end
def FLe (F F' : Fz) : Prop := ∀ k c, F k = some c -> F' k = some c
theorem FLe.trans {F F1 F2 : Fz} (h : FLe F F1) (k : FLe F1 F2) : FLe F F2 := λ i c e => k i c (h i c e)
theorem PA.mono {F F' : Fz} (h : FLe F F') {l : List AV} {pa : AV} (k : PA F l pa) : PA F' l pa := by
 rcases k with k | ⟨b, h1, h2⟩
 ·exact .inl k
 ·exact .inr ⟨b, h1, h _ _ h2⟩
mutual
theorem VR.mono {F F' : Fz} (h : FLe F F') : ∀ (v : Vl) (a : AV), VR F v a -> VR F' v a
 | .box, a, k => by
  rw [VR] at k ⊢
  obtain ⟨b, h1, h2⟩ := k
  exact ⟨b, h1, h _ _ h2⟩
 | .clo n e, a, k => by
  rw [VR] at k ⊢
  obtain ⟨b, ea, h1, h2, h3⟩ := k
  exact ⟨b, ea, h1, h _ _ h2, ER.mono h e ea h3⟩
 | .ctor n nm p, a, k => by
  rw [VR] at k ⊢
  obtain ⟨b, pa, l, h1, h2, h3, h4⟩ := k
  exact ⟨b, pa, l, h1, h _ _ h2, h3.mono h, VRs.mono h p l h4⟩
 | .pair x y, a, k => by
  rw [VR] at k ⊢
  obtain ⟨b, ax, ay, t, h1, h2, h3, h4⟩ := k
  exact ⟨b, ax, ay, t, h1, h _ _ h2, VR.mono h x ax h3, VR.mono h y ay h4⟩
theorem ER.mono {F F' : Fz} (h : FLe F F') : ∀ (e : List Vl) (a : AV), ER F e a -> ER F' e a
 | [], a, k => by rw [ER] at k ⊢; exact k
 | v :: e, a, k => by
  rw [ER] at k ⊢
  obtain ⟨b, av, ea, h1, h2, h3, h4⟩ := k
  exact ⟨b, av, ea, h1, h _ _ h2, VR.mono h v av h3, ER.mono h e ea h4⟩
theorem VRs.mono {F F' : Fz} (h : FLe F F') : ∀ (p : List Vl) (l : List AV), VRs F p l -> VRs F' p l
 | [], l, k => by rw [VRs] at k ⊢; exact k
 | v :: p, l, k => by
  rw [VRs] at k ⊢
  obtain ⟨a, l', h1, h2, h3⟩ := k
  exact ⟨a, l', h1, VR.mono h v a h2, VRs.mono h p l' h3⟩
end
theorem VRs.len {F : Fz} : ∀ {p : List Vl} {l : List AV}, VRs F p l -> l.length = p.length
 | [], l, k => by rw [VRs] at k; rw [k]; rfl
 | v :: p, l, k => by
  rw [VRs] at k
  obtain ⟨a, l', rfl, _, h⟩ := k
  rw [ak, ak, VRs.len h]
theorem VRs.app {F : Fz} : ∀ {p q : List Vl} {l m : List AV}, VRs F p l -> VRs F q m -> VRs F (p ++ q) (l ++ m)
 | [], q, l, m, h, k => by rw [VRs] at h; subst h; exact k
 | v :: p, q, l, m, h, k => by
  rw [VRs] at h
  obtain ⟨a, l', rfl, h1, h2⟩ := h
  rw [bn, bn, VRs]
  exact ⟨a, l' ++ m, rfl, h1, VRs.app h2 k⟩
theorem VRs.one {F : Fz} {v : Vl} {a : AV} (h : VR F v a) : VRs F [v] [a] := by
 rw [VRs]; exact ⟨a, [], rfl, h, by rw [VRs]⟩
theorem VRs.split {F : Fz} : ∀ {p q : List Vl} {l : List AV}, VRs F (p ++ q) l -> VRs F p (l.take p.length) /\ VRs F q (l.drop p.length)
 | [], q, l, h => ⟨by rw [VRs]; rfl, h⟩
 | v :: p, q, l, h => by
  rw [bn, VRs] at h
  obtain ⟨a, l', rfl, h1, h2⟩ := h
  obtain ⟨h3, h4⟩ := VRs.split h2
  rw [VRs]
  exact ⟨⟨a, _, rfl, h1, h3⟩, h4⟩
theorem VRs.at {F : Fz} : ∀ {p : List Vl} {l : List AV} {i : Nat} {v : Vl}, VRs F p l -> p[i]? = some v -> ∃ a, l[i]? = some a /\ VR F v a
 | [], _, _, _, _, h => by simp at h
 | v :: p, l, 0, _, h, e => by
  rw [VRs] at h
  obtain ⟨a, l', rfl, h1, _⟩ := h
  simp at e; subst e; exact ⟨a, rfl, h1⟩
 | v :: p, l, i + 1, _, h, e => by
  rw [VRs] at h
  obtain ⟨a, l', rfl, _, h2⟩ := h
  obtain ⟨b, h3, h4⟩ := VRs.at h2 (by simpa using e)
  exact ⟨b, by simpa using h3, h4⟩
structure Fr where
 bk : Nat
 at' : Nat
 env : List Vl
structure Ms where
 now : Fr
 stack : List Vl
 ia : List Fr
 steps : Nat
 halted : Bool
 err : Int
def FAs (F : Fz) : List Fr -> List AV -> Prop
 | [], l => l = []
 | f :: fs, l => ∃ ea l', l = .int (f.bk : Nat) :: .int (f.at' : Nat) :: ea :: l' /\ ER F f.env ea /\ FAs F fs l'
theorem FAs.mono {F F' : Fz} (h : FLe F F') : ∀ {fs : List Fr} {l : List AV}, FAs F fs l -> FAs F' fs l
 | [], _, k => k
 | _ :: _, _, ⟨ea, l', h1, h2, h3⟩ => ⟨ea, l', h1, ER.mono h _ _ h2, FAs.mono h h3⟩
theorem FAs.len {F : Fz} : ∀ {p : List Fr} {l : List AV}, FAs F p l -> l.length = 3 * p.length
 | [], l, k => by rw [FAs] at k; rw [k]; rfl
 | v :: p, l, ⟨ea, l', h1, _, h⟩ => by
  have := FAs.len h
  subst h1
  simp only [ak]; omega
theorem FAs.app {F : Fz} : ∀ {p q : List Fr} {l m : List AV}, FAs F p l -> FAs F q m -> FAs F (p ++ q) (l ++ m)
 | [], q, l, m, h, k => by rw [FAs] at h; subst h; exact k
 | v :: p, q, l, m, ⟨ea, l', h1, h2, h3⟩, k => by subst h1; exact ⟨ea, l' ++ m, rfl, h2, FAs.app h3 k⟩
theorem FAs.split {F : Fz} : ∀ {p q : List Fr} {l : List AV}, FAs F (p ++ q) l -> FAs F p (l.take (3 * p.length)) /\ FAs F q (l.drop (3 * p.length))
 | [], q, l, h => ⟨rfl, h⟩
 | v :: p, q, l, ⟨ea, l', h1, h2, h3⟩ => by
  subst h1
  obtain ⟨h4, h5⟩ := FAs.split h3
  rw [ak, show 3 * (p.length + 1) = 3 * p.length + 1 + 1 + 1 from by omega]
  exact ⟨⟨ea, _, rfl, h2, h4⟩, h5⟩
def uf : AV -> Option Nat
 | .bs i _ _ _ _ => some i
 | _ => none
def Own (m : Nat) (sa fa : AV) (k : Nat) : Prop := k = m \/ uf sa = some k \/ uf fa = some k
def SR (F : Fz) (H : List fp) (st : List Vl) (a : AV) : Prop := (a = .sl [] .nil /\ st = []) \/ ∃ b c, a = .bs b 0 st.length 1 false /\ H[b]? = some (.cells false c) /\ st.length <= c.length /\ VRs F st.reverse (c.take st.length)
def FR (F : Fz) (H : List fp) (fs : List Fr) (a : AV) : Prop := (a = .sl [] .nil /\ fs = []) \/ ∃ b c, a = .bs b 0 fs.length 3 true /\ H[b]? = some (.cells false c) /\ 3 * fs.length <= c.length /\ FAs F fs.reverse (c.take (3 * fs.length))
structure MR (F : Fz) (H : List fp) (m : Nat) (sa fa : AV) (c : Cd) (s : Ms) : Prop where
 uc : ∃ Bl tb t2 t3 ea, H[m]? = some (.cells false (mcs Bl tb t2 t3 c (s.now.bk : Nat) (s.now.at' : Nat) ea sa fa (s.steps : Nat) s.halted s.err m)) /\ LIs blX c.bl Bl /\ ER F s.now.env ea
 st : SR F H s.stack sa
 fr : FR F H s.ia fa
 fz : ∀ k, Own m sa fa k -> F k = none
 d1 : ∀ k, uf sa = some k -> k ≠ m /\ uf fa ≠ some k
 d2 : ∀ k, uf fa = some k -> k ≠ m
def Fro (F : Fz) (H : List fp) : Prop := ∀ k c, F k = some c -> H[k]? = some (.cells false c)
structure Nx (F : Fz) (H : List fp) (U : Nat -> Prop) (F' : Fz) (H' : List fp) (U' : Nat -> Prop) : Prop where
 le : FLe F F'
 jd : ∀ k : Nat, k < H.length -> ¬ U k -> H'[k]? = H[k]?
 len : H.length <= H'.length
 own : ∀ k : Nat, U' k -> U k \/ H.length <= k
 new : ∀ k : Nat, F' k ≠ none -> F k ≠ none \/ H.length <= k
theorem Nx.refl (F : Fz) (H : List fp) (U : Nat -> Prop) : Nx F H U F H U := ⟨λ _ _ h => h, λ _ _ _ => rfl, di _, λ _ h => .inl h, λ _ h => .inl h⟩
theorem Nx.trans {F F' F'' : Fz} {H H' H'' : List fp} {U U' U'' : Nat -> Prop} (h : Nx F H U F' H' U') (k : Nx F' H' U' F'' H'' U'') : Nx F H U F'' H'' U'' where
 le i c e := k.le i c (h.le i c e)
 jd i hi hu := by
  rw [k.jd i (dq hi h.len) (λ h' => by rcases h.own i h' with h1 | h1; exact hu h1; omega)]
  exact h.jd i hi hu
 len := dr h.len k.len
 own i hi := by
  rcases k.own i hi with h1 | h1
  ·exact h.own i h1
  ·exact .inr (dr h.len h1)
 new i hi := by
  rcases k.new i hi with h1 | h1
  ·exact h.new i h1
  ·exact .inr (dr h.len h1)
def MQ (F : Fz) (H : List fp) (m : Nat) (sa fa : AV) (c : Cd) (P : AV -> Fz -> Ms -> Prop) (v : AV) (s1 : ASt) : Prop :=
 ∃ F' sa' fa' s', P v F' s' /\ MR F' s1.H m sa' fa' c s' /\ Fro F' s1.H /\ Nx F H (Own m sa fa) F' s1.H (Own m sa' fa')
def Mw (f : FuncId) (args : List AV) (F : Fz) (H : List fp) (V : List Nat) (m : Nat) (sa fa : AV) (c : Cd) (P : AV -> Fz -> Ms -> Prop) : Prop :=
 Rw f args ⟨H, V⟩ (MQ F H m sa fa c P)
end Go.Proofs.Eng
namespace Go.Proofs.Eng
open Go Go.Proofs
set_option maxRecDepth 100000
set_option maxHeartbeats 16000000
theorem VR.ptr {F : Fz} {v : Vl} {a : AV} (h : VR F v a) : ∃ k, a = .ptr k 0 := by
 cases v <;> rw [VR] at h <;> obtain ⟨k, h⟩ := h
 ·exact ⟨k, h.1⟩
 ·obtain ⟨_, h, _⟩ := h; exact ⟨k, h⟩
 ·obtain ⟨_, _, h, _⟩ := h; exact ⟨k, h⟩
 ·obtain ⟨_, _, _, h, _⟩ := h; exact ⟨k, h⟩
theorem SR.jd {F : Fz} {H H' : List fp} {st : List Vl} {a : AV} (h : SR F H st a) (k : ∀ b, uf a = some b -> H'[b]? = H[b]?) : SR F H' st a := by
 rcases h with h | ⟨b, c, e, h1, h2⟩
 ·exact .inl h
 ·exact .inr ⟨b, c, e, by rw [k b (by rw [e]; rfl)]; exact h1, h2⟩
theorem FR.jd {F : Fz} {H H' : List fp} {st : List Fr} {a : AV} (h : FR F H st a) (k : ∀ b, uf a = some b -> H'[b]? = H[b]?) : FR F H' st a := by
 rcases h with h | ⟨b, c, e, h1, h2⟩
 ·exact .inl h
 ·exact .inr ⟨b, c, e, by rw [k b (by rw [e]; rfl)]; exact h1, h2⟩
theorem SR.mono {F F' : Fz} (hl : FLe F F') {H : List fp} {st : List Vl} {a : AV} (h : SR F H st a) : SR F' H st a := by
 rcases h with h | ⟨b, c, e, h1, h2, h3⟩
 ·exact .inl h
 ·exact .inr ⟨b, c, e, h1, h2, VRs.mono hl _ _ h3⟩
theorem FR.mono {F F' : Fz} (hl : FLe F F') {H : List fp} {st : List Fr} {a : AV} (h : FR F H st a) : FR F' H st a := by
 rcases h with h | ⟨b, c, e, h1, h2, h3⟩
 ·exact .inl h
 ·exact .inr ⟨b, c, e, h1, h2, h3.mono hl⟩
theorem SR.lt {F : Fz} {H : List fp} {st : List Vl} {a : AV} (h : SR F H st a) {b : Nat} (e : uf a = some b) : b < H.length := by
 rcases h with ⟨h, _⟩ | ⟨b', c, h, h1, _⟩
 ·rw [h] at e; cases e
 ·rw [h] at e; cases e; exact fy h1
theorem FR.lt {F : Fz} {H : List fp} {st : List Fr} {a : AV} (h : FR F H st a) {b : Nat} (e : uf a = some b) : b < H.length := by
 rcases h with ⟨h, _⟩ | ⟨b', c, h, h1, _⟩
 ·rw [h] at e; cases e
 ·rw [h] at e; cases e; exact fy h1
section
variable {F : Fz} {H : List fp} {m : Nat} {sa fa : AV} {c : Cd} {s : Ms}
theorem MR.lt (h : MR F H m sa fa c s) {k : Nat} (hk : Own m sa fa k) : k < H.length := by
 obtain ⟨Bl, tb, t2, t3, ea, b1, _⟩ := h.uc
 rcases hk with rfl | hk | hk
 ·exact fy b1
 ·exact h.st.lt hk
 ·exact h.fr.lt hk
theorem MR.upd (hM : MR F H m sa fa c s) (hF : Fro F H) {H' : List fp} {sa' fa' : AV} {s' : Ms}
  (hmach : ∃ Bl tb t2 t3 ea, H'[m]? = some (.cells false (mcs Bl tb t2 t3 c (s'.now.bk : Nat) (s'.now.at' : Nat) ea sa' fa' (s'.steps : Nat) s'.halted s'.err m)) /\ LIs blX c.bl Bl /\ ER F s'.now.env ea)
  (hst : SR F H' s'.stack sa') (hfr : FR F H' s'.ia fa') (jd : ∀ k : Nat, k < H.length -> ¬ Own m sa fa k -> H'[k]? = H[k]?) (len : H.length <= H'.length) (own : ∀ k : Nat, Own m sa' fa' k -> Own m sa fa k \/ H.length <= k)
  (d1 : ∀ k, uf sa' = some k -> k ≠ m /\ uf fa' ≠ some k) (d2 : ∀ k, uf fa' = some k -> k ≠ m) : MR F H' m sa' fa' c s' /\ Fro F H' /\ Nx F H (Own m sa fa) F H' (Own m sa' fa') := by
 refine ⟨⟨hmach, hst, hfr, λ k hk => ?_, d1, d2⟩, λ k l hk => ?_, ⟨λ _ _ h => h, jd, len, own, λ _ h => .inl h⟩⟩
 ·rcases own k hk with h | h
  ·exact hM.fz k h
  ·cases hk : F k with
   | none => rfl
   | some l => have := fy (hF k l hk); omega
 ·have h1 := hF k l hk
  rw [jd k (fy h1) λ h => by rw [hM.fz k h] at hk; cases hk]; exact h1
theorem MR.more (hM : MR F H m sa fa c s) (hF : Fro F H) (G : List fp) : MR F (H ++ G) m sa fa c s /\ Fro F (H ++ G) /\ Nx F H (Own m sa fa) F (H ++ G) (Own m sa fa) := by
 have hk : ∀ k : Nat, k < H.length -> (H ++ G)[k]? = H[k]? := λ k h => ae h
 obtain ⟨Bl, tb, t2, t3, ea, b1, b2, b3⟩ := hM.uc
 exact hM.upd hF ⟨Bl, tb, t2, t3, ea, gy b1 _, b2, b3⟩ (hM.st.jd λ b e => hk b (hM.st.lt e)) (hM.fr.jd λ b e => hk b (hM.fr.lt e)) (λ k h _ => hk k h) (by simp) (λ k h => .inl h) hM.d1 hM.d2
def Fz.add (F : Fz) (k : Nat) (l : List AV) : Fz := λ i => if i = k then some l else F i
theorem MR.alloc (hM : MR F H m sa fa c s) (hF : Fro F H) (l : List AV) : MR (F.add H.length l) (H ++ [.cells false l]) m sa fa c s /\ Fro (F.add H.length l) (H ++ [.cells false l]) /\ Nx F H (Own m sa fa) (F.add H.length l) (H ++ [.cells false l]) (Own m sa fa) /\ F.add H.length l H.length = some l := by
 obtain ⟨h1, h2, h3⟩ := hM.more hF [.cells false l]
 have hn : F H.length = none := by
  cases hk : F H.length with
  | none => rfl
  | some l => have := fy (hF _ l hk); omega
 have hle : FLe F (F.add H.length l) := λ k x hk => by
  unfold Fz.add
  split
  ·rename_i e; rw [e, hn] at hk; cases hk
  ·exact hk
 obtain ⟨Bl, tb, t2, t3, ea, b1, b2, b3⟩ := h1.uc
 refine ⟨⟨⟨Bl, tb, t2, t3, ea, b1, b2, ER.mono hle _ _ b3⟩, h1.st.mono hle, h1.fr.mono hle, λ k hk => ?_, h1.d1, h1.d2⟩, λ k x hk => ?_, ⟨hle, h3.jd, h3.len, h3.own, λ k hk => ?_⟩, by simp [Fz.add]⟩
 ·have := hM.lt hk
  rw [Fz.add, if_neg (by omega)]; exact hM.fz k hk
 ·unfold Fz.add at hk
  split at hk
  ·rename_i e; subst e; cases hk; simp
  ·exact h2 k x hk
 ·unfold Fz.add at hk
  split at hk
  ·rename_i e; exact .inr (by omega)
  ·exact .inl hk
end
theorem gsn {H : List fp} {b k : Nat} {x : fp} (h : k ≠ b) : (H.set b x)[k]? = H[k]? := by rw [b9, if_neg (λ e => h e.symm)]
theorem gse {H : List fp} {b : Nat} {x : fp} (h : b < H.length) : (H.set b x)[b]? = some x := by rw [b9, if_pos rfl, if_pos h]
theorem gal {H G : List fp} {k : Nat} (h : k < H.length) : (H ++ G)[k]? = H[k]? := ae h
theorem gae {H : List fp} {x : fp} : (H ++ [x])[H.length]? = some x := by rw [af (di _), Nat.sub_self]; rfl
theorem a7o {H : List fp} {b : Nat} {x y : fp} : (H.set b x ++ [y])[H.length]? = some y := by rw [af (by simp), List.length_set, Nat.sub_self]; rfl
theorem Yz {H : List fp} {V : List Nat} (a : AV) {l : List AV} (e : a.cells = l) (h : (l.length == 1 && l.all gv) = true) : qz ⟨H, V⟩ 1 (some false) [] .nil [a] = some (.bs H.length 0 1 1 false, ⟨H ++ [.cells false l], V⟩) := by
 subst e
 simp only [dx] at h
 rw [qz, if_pos ⟨.inl (by simp), rfl, by simp only [db, List.all_nil, Bool.and_true, dx]; exact h⟩]
 simp [flat]
theorem Xc {H : List fp} {V : List Nat} (a : AV) {l : List AV} (e : a.cells = l) (h : (l.length == 3 && l.all gv) = true) : qz ⟨H, V⟩ 3 (some true) [] .nil [a] = some (.bs H.length 0 1 3 true, ⟨H ++ [.cells false l], V⟩) := by
 subst e
 simp only [dx] at h
 rw [qz, if_pos ⟨.inl (by simp), rfl, by simp only [db, List.all_nil, Bool.and_true, dx]; exact h⟩]
 simp [flat]
theorem W8 {H : List fp} {V : List Nat} {b n k : Nat} {cs : List AV} {es : Nat} {ag : Bool} (hb : H[b]? = some (.cells false cs)) (hk : n * es = k) (hn : k <= cs.length) (hl : n <= 1000000) (a : AV) {l : List AV} (e : a.cells = l) (h : (l.length == es && l.all gv) = true) :
  Qg ⟨H, V⟩ es b 0 n es ag [a] = some (.bs H.length 0 (n + 1) es ag, ⟨H.set b .dead ++ [.cells false (cs.take k ++ l)], V⟩) := by
 subst e
 subst hk
 simp only [Qg, hb]
 rw [if_pos ⟨trivial, trivial, hn, by simp, by simp; omega, by simp only [db, List.all_nil, Bool.and_true]; exact h⟩]
 simp [flat]
theorem n9 {F : Fz} {H : List fp} {V : List Nat} {m : Nat} {sa fa : AV} {c : Cd} {s : Ms} {v : Vl} {a : AV} (hM : MR F H m sa fa c s) (hF : Fro F H) (hv : VR F v a) (hb : s.stack.length <= 1000000) :
  Mw 90 [.ptr m 0, a] F H V m sa fa c λ r F' s' => r = .int 0 /\ F' = F /\ s' = { s with stack := v :: s.stack } := by
 obtain ⟨Bl, tb, t2, t3, ea, b1, b2, b3⟩ := hM.uc
 obtain ⟨ka, rfl⟩ := hv.ptr
 have hml := fy b1
 simp only [mcs] at b1
 refine ly pf90_is (dh rfl) ?_
 rcases hM.st with ⟨rfl, hs⟩ | ⟨b, cs, rfl, h1, h2, h3⟩
 ·have hA := Yz (H := H) (V := V) (.ptr ka 0) rfl rfl
  have b1' : (H ++ [fp.cells false [AV.ptr ka 0]])[m]? = _ := (gal hml).trans b1
  simp only [pf90, ↓fj, wall, simprocAttr, wH, gq, fq, b1, hA, b1']
  refine ⟨F, .bs H.length 0 1 1 false, fa, { s with stack := v :: s.stack }, ⟨rfl, rfl, rfl⟩, hM.upd hF ⟨Bl, tb, t2, t3, ea, gse (by simp; omega), b2, b3⟩ (.inr ⟨H.length, [.ptr ka 0], by simp [hs], (gsn (by omega)).trans gae, by simp [hs], ?_⟩)
   (hM.fr.jd λ k e => ?_) (λ k hk hn => ?_) (by simp) (λ k hk => ?_) (λ k e => ?_) hM.d2⟩
  ·rw [hs]; exact .one hv
  ·rw [gsn (hM.d2 k e), gal (hM.fr.lt e)]
  ·rw [gsn λ e => hn (.inl e), gal hk]
  ·rcases hk with hk | hk | hk
   ·exact .inl (.inl hk)
   ·cases hk; exact .inr (di _)
   ·exact .inl (.inr (.inr hk))
  ·cases e; exact ⟨by omega, λ e => by have := hM.fr.lt e; omega⟩
 ·have hA := W8 (V := V) (es := 1) (ag := false) h1 (Nat.mul_one _) h2 hb (.ptr ka 0) rfl rfl
  obtain ⟨d1, d2⟩ := hM.d1 b rfl
  have hbl := fy h1
  have b1' : (H.set b .dead ++ [fp.cells false (cs.take s.stack.length ++ [AV.ptr ka 0])])[m]? = _ := (gal (by simpa using hml)).trans ((gsn λ e => d1 e.symm).trans b1)
  simp only [pf90, ↓fj, wall, simprocAttr, wH, gq, fq, b1, hA, b1']
  have hlt : (cs.take s.stack.length ++ [AV.ptr ka 0]).length = s.stack.length + 1 := by simp; omega
  refine ⟨F, .bs H.length 0 (s.stack.length + 1) 1 false, fa, { s with stack := v :: s.stack }, ⟨rfl, rfl, rfl⟩, hM.upd hF ⟨Bl, tb, t2, t3, ea, gse (by simp; omega), b2, b3⟩ (.inr ⟨H.length, _, rfl, (gsn (by omega)).trans a7o, by rw [hlt]; exact di _, ?_⟩)
   (hM.fr.jd λ k e => ?_) (λ k hk hn => ?_) (by simp) (λ k hk => ?_) (λ k e => ?_) hM.d2⟩
  ·rw [au (by rw [hlt]; exact di _)]
   exact (by rw [List.reverse_cons]; exact h3.app (.one hv))
  ·rw [gsn (hM.d2 k e), gal (by simpa using hM.fr.lt e), gsn λ h => d2 (by rw [<- h]; exact e)]
  ·rw [gsn λ e => hn (.inl e), gal (by simpa using hk), gsn λ e => hn (.inr (.inl (by rw [e]; rfl)))]
  ·rcases hk with hk | hk | hk
   ·exact .inl (.inl hk)
   ·cases hk; exact .inr (di _)
   ·exact .inl (.inr (.inr hk))
  ·cases e; exact ⟨by omega, λ e => by have := hM.fr.lt e; omega⟩
end Go.Proofs.Eng
namespace Go.Proofs.Eng
open Go Go.Proofs
set_option maxRecDepth 100000
set_option maxHeartbeats 16000000
theorem VRs.a1z {F : Fz} : ∀ {p : List Vl} {l : List AV}, VRs F p l -> (l.all λ x => x.cells.length == 1) = true
 | [], l, h => by rw [VRs] at h; subst h; rfl
 | v :: p, l, h => by
  rw [VRs] at h
  obtain ⟨a, l', rfl, h1, h2⟩ := h
  obtain ⟨k, rfl⟩ := h1.ptr
  rw [db, VRs.a1z h2]; rfl
theorem wc {F : Fz} {H : List fp} {V : List Nat} {m : Nat} {sa fa : AV} {c : Cd} {s : Ms} {v : Vl} {st : List Vl} (hM : MR F H m sa fa c s) (hF : Fro F H) (hs : s.stack = v :: st) (hb : s.stack.length <= 1000000) :
  Mw 91 [.ptr m 0] F H V m sa fa c λ r F' s' => VR F v r /\ F' = F /\ s' = { s with stack := st } := by
 obtain ⟨Bl, tb, t2, t3, ea, b1, b2, b3⟩ := hM.uc
 have hml := fy b1
 simp only [mcs] at b1
 refine ly pf91_is (dh rfl) ?_
 rcases hM.st with ⟨rfl, hn⟩ | ⟨b, cs, rfl, h1, h2, h3⟩
 ·rw [hs] at hn; cases hn
 obtain ⟨d1, d2⟩ := hM.d1 b rfl
 have hbl := fy h1
 have hl : s.stack.length = st.length + 1 := by rw [hs]; rfl
 rw [hl] at b1 h2 h3 hb
 rw [hs, List.reverse_cons] at h3
 obtain ⟨k1, k2⟩ := VRs.split h3
 rw [List.length_reverse] at k1 k2
 rw [VRs] at k2
 obtain ⟨a, l', e, k2, k3⟩ := k2
 rw [VRs] at k3; subst k3
 obtain ⟨ka, rfl⟩ := k2.ptr
 rw [List.take_take, Nat.min_eq_left (by omega)] at k1
 have hget : cs[st.length]? = some (.ptr ka 0) := by
  have := congrArg (λ l => l[0]?) e
  simp only [ba, bc, Nat.add_zero, bw] at this
  rw [if_pos (by omega)] at this; exact this
 have hw : IntKind.i64.wrap (((st.length + 1 : Nat) : Int) - 1) = (st.length : Nat) := (je (by unfold m7; omega)).trans (by omega)
 have hlt1 : ((st.length : Nat) : Int) < (st.length + 1 : Nat) := by omega
 have hle1 : ((st.length : Nat) : Int) <= (st.length + 1 : Nat) := by omega
 have hhd : (cs.drop (st.length * 1)).head? = some (.ptr ka 0) := by rw [Nat.mul_one, List.head?_drop]; exact hget
 have hcut : A7 b 0 (st.length + 1) 1 1 false 0 st.length true none = some (.bs b 0 st.length 1 false) := by simp [A7]
 simp only [pf91, ↓fj, wall, simprocAttr, wH, gq, fq, b1, hl, h1, hhd, hw, hlt1, hle1, Option.map_none, hcut]
 refine ⟨F, .bs b 0 st.length 1 false, fa, { s with stack := st }, ⟨k2, rfl, rfl⟩, hM.upd hF ⟨Bl, tb, t2, t3, ea, gse hml, b2, b3⟩ (.inr ⟨b, cs, rfl, (gsn d1).trans h1, by show st.length <= _; omega, k1⟩)
  (hM.fr.jd λ k e => gsn (hM.d2 k e)) (λ k hk hn => gsn λ e => hn (.inl e)) (by simp) (λ k hk => ?_) (λ k e => ?_) hM.d2⟩
 ·rcases hk with hk | hk | hk
  ·exact .inl (.inl hk)
  ·exact .inl (.inr (.inl hk))
  ·exact .inl (.inr (.inr hk))
 ·cases e; exact ⟨d1, d2⟩
theorem pq {F : Fz} {e : List Vl} {a : AV} (h : ER F e a) : gv a = true := by
 cases e with
 | nil => rw [ER] at h; subst h; rfl
 | cons v e => rw [ER] at h; obtain ⟨k, _, _, rfl, _⟩ := h; rfl
theorem mo {F : Fz} {e : List Vl} {a : AV} (h : ER F e a) : a.known = true := by
 cases e with
 | nil => rw [ER] at h; subst h; rfl
 | cons v e => rw [ER] at h; obtain ⟨k, _, _, rfl, _⟩ := h; rfl
theorem m8 {F : Fz} {e : List Vl} {a : AV} (h : ER F e a) : a.cells = [a] := by
 cases e with
 | nil => rw [ER] at h; subst h; rfl
 | cons v e => rw [ER] at h; obtain ⟨k, _, _, rfl, _⟩ := h; rfl
theorem Cq {F : Fz} {H : List fp} {V : List Nat} {m : Nat} {sa fa : AV} {c : Cd} {s : Ms} {e : List Vl} {a : AV} (b : Nat) (hM : MR F H m sa fa c s) (hF : Fro F H) (he : ER F e a) (hb : s.ia.length <= 1000000) :
  Mw 92 [.ptr m 0, .int (b : Nat), a] F H V m sa fa c λ r F' s' => F' = F /\ ((65536 <= s.ia.length /\ r = .int 7 /\ s' = s) \/ (s.ia.length < 65536 /\ r = .int 0 /\ s' = { s with now := ⟨b, 0, e⟩, ia := s.now :: s.ia })) := by
 obtain ⟨Bl, tb, t2, t3, ea, b1, b2, b3⟩ := hM.uc
 have hml := fy b1
 have ec := m8 he
 have ec' := m8 b3
 have eo := pq he
 have eo' := pq b3
 have ek := mo he
 have hone : (([.int (s.now.bk : Nat), .int (s.now.at' : Nat), ea] : List AV).length == 3 && ([.int (s.now.bk : Nat), .int (s.now.at' : Nat), ea] : List AV).all gv) = true := by
  simp only [db, List.all_nil, eo']; rfl
 simp only [mcs] at b1
 refine ly pf92_is (dh rfl) ?_
 rcases hM.fr with ⟨rfl, hn⟩ | ⟨b', cs, rfl, h1, h2, h3⟩
 ·have hd : decide ((0 : Int) >= 65536) = false := rfl
  have hA := Xc (H := H) (V := V) (.agg [.int (s.now.bk : Nat), .int (s.now.at' : Nat), ea]) rfl hone
  have b1' : (H ++ [fp.cells false [.int (s.now.bk : Nat), .int (s.now.at' : Nat), ea]])[m]? = _ := (gal hml).trans b1
  have hmA : m < (H ++ [fp.cells false [.int (s.now.bk : Nat), .int (s.now.at' : Nat), ea]]).length := by simp; omega
  simp only [pf92, ↓fj, wall, simprocAttr, wH, gq, fq, b1, hA, hd, ec, ec', b1', eo, ek, gse hmA, List.set_set]
  refine ⟨F, sa, .bs H.length 0 1 3 true, { s with now := ⟨b, 0, e⟩, ia := s.now :: s.ia }, ⟨rfl, .inr ⟨by rw [hn]; decide, rfl, rfl⟩⟩, hM.upd hF ⟨Bl, tb, t2, t3, a, gse hmA, b2, he⟩ (hM.st.jd λ k e => ?_)
   (.inr ⟨H.length, [.int (s.now.bk : Nat), .int (s.now.at' : Nat), ea], by simp [hn], (gsn (by omega)).trans gae, by simp [hn], ?_⟩) (λ k hk hn => ?_) (by simp) (λ k hk => ?_) (λ k e => ?_) (λ k e => ?_)⟩
  ·rw [gsn (hM.d1 k e).1, gal (hM.st.lt e)]
  ·rw [hn]; exact ⟨ea, [], rfl, b3, rfl⟩
  ·rw [gsn λ e => hn (.inl e), gal hk]
  ·rcases hk with hk | hk | hk
   ·exact .inl (.inl hk)
   ·exact .inl (.inr (.inl hk))
   ·cases hk; exact .inr (di _)
  ·exact ⟨(hM.d1 k e).1, λ h => by cases h; have := hM.st.lt e; omega⟩
  ·cases e; omega
 ·obtain ⟨d2, d1⟩ : b' ≠ m /\ uf sa ≠ some b' := ⟨hM.d2 b' rfl, λ e => (hM.d1 b' e).2 rfl⟩
  rcases dj s.ia.length 65536 with hlt | hge
  ·have hd : decide (((s.ia.length : Nat) : Int) >= 65536) = false := by simp; omega
   have hA := W8 (V := V) (es := 3) (ag := true) h1 (Nat.mul_comm _ _) h2 hb (.agg [.int (s.now.bk : Nat), .int (s.now.at' : Nat), ea]) rfl hone
   have b1' : (H.set b' .dead ++ [fp.cells false (cs.take (3 * s.ia.length) ++ [.int (s.now.bk : Nat), .int (s.now.at' : Nat), ea])])[m]? = _ := (gal (by simpa using hml)).trans ((gsn λ e => d2 e.symm).trans b1)
   have hmA : m < (H.set b' .dead ++ [fp.cells false (cs.take (3 * s.ia.length) ++ [.int (s.now.bk : Nat), .int (s.now.at' : Nat), ea])]).length := by simp; omega
   simp only [pf92, ↓fj, wall, simprocAttr, wH, gq, fq, b1, hA, hd, ec, ec', b1', eo, ek, gse hmA, List.set_set]
   have hle : (cs.take (3 * s.ia.length) ++ [.int (s.now.bk : Nat), .int (s.now.at' : Nat), ea] : List AV).length = 3 * (s.ia.length + 1) := by simp; omega
   refine ⟨F, sa, .bs H.length 0 (s.ia.length + 1) 3 true, { s with now := ⟨b, 0, e⟩, ia := s.now :: s.ia }, ⟨rfl, .inr ⟨hlt, rfl, rfl⟩⟩, hM.upd hF ⟨Bl, tb, t2, t3, a, gse hmA, b2, he⟩ (hM.st.jd λ k e => ?_)
    (.inr ⟨H.length, _, rfl, (gsn (by omega)).trans a7o, by rw [hle]; exact di _, ?_⟩) (λ k hk hn => ?_) (by simp) (λ k hk => ?_) (λ k e => ?_) (λ k e => ?_)⟩
   ·rw [gsn (hM.d1 k e).1, gal (by simpa using hM.st.lt e), gsn λ h => d1 (by rw [<- h]; exact e)]
   ·rw [au (by rw [hle]; exact di _)]
    exact (by rw [List.reverse_cons]; exact h3.app ⟨ea, [], rfl, b3, rfl⟩)
   ·rw [gsn λ e => hn (.inl e), gal (by simpa using hk), gsn λ e => hn (.inr (.inr (by rw [e]; rfl)))]
   ·rcases hk with hk | hk | hk
    ·exact .inl (.inl hk)
    ·exact .inl (.inr (.inl hk))
    ·cases hk; exact .inr (di _)
   ·exact ⟨(hM.d1 k e).1, λ h => by cases h; have := hM.st.lt e; omega⟩
   ·cases e; omega
  ·have hd : decide (((s.ia.length : Nat) : Int) >= 65536) = true := by simp; omega
   simp only [pf92, ↓fj, wall, simprocAttr, wH, gq, fq, b1, hd]
   exact ⟨F, sa, _, s, ⟨rfl, .inl ⟨hge, rfl, rfl⟩⟩, hM, hF, .refl _ _ _⟩
end Go.Proofs.Eng
namespace Go.Proofs.Eng
open Go Go.Proofs
set_option maxRecDepth 100000
set_option maxHeartbeats 16000000
theorem Eu {F : Fz} {H : List fp} {V : List Nat} {m : Nat} {sa fa : AV} {c : Cd} {s : Ms} {e vs : List Vl} {l : List AV} {a x : AV} (hM : MR F H m sa fa c s) (hF : Fro F H) (he : ER F e a) (hx : PA F l x) (hv : VRs F vs l) (hl : l.length <= 1000000) :
  Mw 93 [a, x] F H V m sa fa c λ r F' s' => s' = s /\ ER F' (vs.reverse ++ e) r := by
 refine ly pf93_is (dh rfl) ?_
 have hone := hv.a1z
 have hlb : jh = 9223372036854775807 := rfl
 have hlen := hv.len
 have fin : ∀ {F' H' V' r}, MR F' H' m sa fa c s -> Fro F' H' -> Nx F H (Own m sa fa) F' H' (Own m sa fa) -> ER F' (vs.reverse ++ e) r -> MQ F H m sa fa c (λ r F' s' => s' = s /\ ER F' (vs.reverse ++ e) r) r ⟨H', V'⟩ := λ h1 h2 h3 h4 => ⟨_, sa, fa, s, ⟨rfl, h4⟩, h1, h2, h3⟩
 have main : ∀ {x : AV}, PA F l x -> ∀ (j : Nat) (F' : Fz) (H' : List fp), j < l.length -> Fro F' H' -> FLe F F' -> ∃ a v, vs[j]? = some v /\ l[j]? = some a /\ VR F' v a /\ (∀ b, x = .bs b 0 l.length 1 false -> H'[b]? = some (.cells false l)) := by
  intro x hx j F' H' hj hF' hle
  have hjv : j < vs.length := by omega
  obtain ⟨a, h1, h2⟩ := hv.at (i := j) (aa hjv)
  refine ⟨a, vs[j], aa hjv, h1, VR.mono hle _ _ h2, λ b e => ?_⟩
  rcases hx with ⟨t, rfl⟩ | ⟨b', rfl, hb⟩
  ·cases e
  ·cases e; exact hF' _ _ (hle _ _ hb)
 rcases id hx with ⟨t, rfl⟩ | ⟨b, rfl, hb⟩
 ·simp only [pf93, ↓fj, wall, simprocAttr, wH, gq, fq]
  refine j6 (λ j => l.length - j) (λ j E H' V' => ∃ F' a, j <= l.length /\ E 0 = a /\ E 7 = .sl l t /\ E 8 = .int l.length /\ E 9 = .int (j : Nat) /\ MR F' H' m sa fa c s /\ Fro F' H' /\ Nx F H (Own m sa fa) F' H' (Own m sa fa) /\ ER F' ((vs.take j).reverse ++ e) a) ?_ 0
   ⟨F, a, dk _, rfl, rfl, rfl, rfl, hM, hF, .refl _ _ _, he⟩
  rintro j E H' V' ⟨F', a, hj, e0, e7, e8, e9, hM', hF', hN, he⟩
  rcases dj j l.length with hlt | hge
  ·have hdec : decide ((j : Int) < l.length) = true := by simpa using hlt
   obtain ⟨x, v, g1, g2, g3, g4⟩ := main hx j F' H' hlt hF' hN.le
   obtain ⟨kx, rfl⟩ := g3.ptr
   simp only [↓fj, wall, simprocAttr, wH, e0, e7, e8, e9, hdec, g2, hone, mo he, pq he, m8 he]
   obtain ⟨n1, n2, n3, n4⟩ := hM'.alloc hF' [.ptr kx 0, a]
   refine jm ⟨j + 1, by omega, _, _, by omega, rfl, e7, e8, iw (by omega), n1, n2, hN.trans n3, ?_⟩
   rw [bj, g1, List.reverse_append, Option.toList, List.reverse_singleton, aj, bn, bo, ER]
   exact ⟨H'.length, .ptr kx 0, a, rfl, n4, VR.mono n3.le _ _ g3, ER.mono n3.le _ _ he⟩
  ·have hdec : decide ((j : Int) < l.length) = false := by simpa using hge
   simp only [↓fj, wall, simprocAttr, wH, e0, e7, e8, e9, hdec, gq, fq]
   rw [au (by omega)] at he
   exact fin hM' hF' hN he
 ·simp only [pf93, ↓fj, wall, simprocAttr, wH, gq, fq]
  refine j6 (λ j => l.length - j) (λ j E H' V' => ∃ F' a, j <= l.length /\ E 0 = a /\ E 7 = .bs b 0 l.length 1 false /\ E 8 = .int l.length /\ E 9 = .int (j : Nat) /\ MR F' H' m sa fa c s /\ Fro F' H' /\ Nx F H (Own m sa fa) F' H' (Own m sa fa) /\ ER F' ((vs.take j).reverse ++ e) a) ?_ 0
   ⟨F, a, dk _, rfl, rfl, rfl, rfl, hM, hF, .refl _ _ _, he⟩
  rintro j E H' V' ⟨F', a, hj, e0, e7, e8, e9, hM', hF', hN, he⟩
  rcases dj j l.length with hlt | hge
  ·have hdec : decide ((j : Int) < l.length) = true := by simpa using hlt
   obtain ⟨x, v, g1, g2, g3, g4⟩ := main hx j F' H' hlt hF' hN.le
   obtain ⟨kx, rfl⟩ := g3.ptr
   have g5 := g4 b rfl
   have hlt1 : ((j : Nat) : Int) < (l.length : Nat) := by omega
   have hhd : (l.drop (j * 1)).head? = some (.ptr kx 0) := by rw [Nat.mul_one, List.head?_drop]; exact g2
   simp only [↓fj, wall, simprocAttr, wH, e0, e7, e8, e9, hdec, g2, hone, mo he, pq he, m8 he, g5, hlt1, hhd]
   obtain ⟨n1, n2, n3, n4⟩ := hM'.alloc hF' [.ptr kx 0, a]
   refine jm ⟨j + 1, by omega, _, _, by omega, rfl, e7, e8, iw (by omega), n1, n2, hN.trans n3, ?_⟩
   rw [bj, g1, List.reverse_append, Option.toList, List.reverse_singleton, aj, bn, bo, ER]
   exact ⟨H'.length, .ptr kx 0, a, rfl, n4, VR.mono n3.le _ _ g3, ER.mono n3.le _ _ he⟩
  ·have hdec : decide ((j : Int) < l.length) = false := by simpa using hge
   simp only [↓fj, wall, simprocAttr, wH, e0, e7, e8, e9, hdec, gq, fq]
   rw [au (by omega)] at he
   exact fin hM' hF' hN he
end Go.Proofs.Eng
namespace Go.Proofs.Eng
open Go Go.Proofs
set_option maxRecDepth 100000
set_option maxHeartbeats 16000000
def a7a := And.intro @List.getLast?_cons_cons.{0} (And.intro @List.getLast?_singleton.{0} (And.intro @List.dropLast_cons_cons.{0} (And.intro @List.dropLast_singleton.{0} (And.intro @a5l (And.intro @a5g (And.intro @a15 (And.intro @Ud (And.intro @a7n (@a6w)))))))))
def Ms.push (s : Ms) (v : Vl) : Ms := { s with stack := v :: s.stack }
def Ms.enter (s : Ms) (b : Nat) (e : List Vl) : Ms × Int := if 65536 <= s.ia.length then (s, 7) else ({ s with now := ⟨b, 0, e⟩, ia := s.now :: s.ia }, 0)
def Cd.blk (c : Cd) (n : Nat) : List Ins := c.bl.getD n []
def Cd.brs (c : Cd) (f : Fr) (n : Nat) : List Ins := ((c.blk f.bk).drop f.at').take n
def Ms.apply (s : Ms) : Ms × Int := match s.stack with
 | _ :: .box :: st => ({ s with stack := .box :: st }, 0)
 | a :: .clo n e :: st => Ms.enter { s with stack := st } n.toNat (a :: e)
 | _ :: _ :: st => ({ s with stack := st }, 10)
 | _ => (s, 0)
def Ms.leave (s : Ms) : Ms × Int := match s.ia with
 | [] => ({ s with halted := true }, 0)
 | f :: fs => ({ s with now := f, ia := fs }, 0)
def Ms.choose (c : Cd) (n : Nat) (s : Ms) : Ms × Int := match s.stack with
 | .ctor k _ p :: st => (match (c.brs s.now n)[k.toNat]? with
  | some y => if y.b = (p.length : Nat) then Ms.enter { s with stack := st, now := { s.now with at' := s.now.at' + n } } y.a.toNat (p.reverse ++ s.now.env) else ({ s with stack := st }, 10)
  | none => ({ s with stack := st }, 10))
 | _ :: st => ({ s with stack := st }, 10)
 | [] => (s, 0)
def Ms.part (b : Bool) (s : Ms) : Ms × Int := match s.stack with
 | .box :: _ => (s, 0)
 | .pair x y :: st => ({ s with stack := (if b then y else x) :: st }, 0)
 | _ :: st => ({ s with stack := st }, 10)
 | [] => (s, 0)
def Ms.bind (s : Ms) : Ms × Int := match s.stack with
 | v :: st => ({ s with stack := st, now := { s.now with env := v :: s.now.env } }, 0)
 | [] => (s, 0)
def Ms.pair (s : Ms) : Ms × Int := match s.stack with
 | b :: a :: st => ({ s with stack := .pair a b :: st }, 0)
 | _ => (s, 0)
def Ms.variable (n : Nat) (s : Ms) : Ms × Int := match s.now.env[n]? with
 | some v => (s.push v, 0)
 | none => (s, 0)
def Ms.exec (c : Cd) (x : Ins) (s : Ms) : Ms × Int :=
 if x.op = 0 then s.variable x.a.toNat else if x.op = 1 then (s.push (.clo x.a s.now.env), 0) else if x.op = 2 then s.apply else if x.op = 3 then s.leave
 else if x.op = 4 then ({ s with stack := .ctor x.a x.n (s.stack.take x.b.toNat).reverse :: s.stack.drop x.b.toNat }, 0) else if x.op = 5 then s.choose c x.a.toNat
 else if x.op = 7 then s.enter (c.st.getD x.a.toNat 0).toNat [] else if x.op = 8 then (s.push .box, 0) else if x.op = 9 then s.bind else if x.op = 10 then ({ s with now := { s.now with env := s.now.env.tail } }, 0)
 else if x.op = 11 then s.pair else if x.op = 12 then s.part false else if x.op = 13 then s.part true else if x.op = 14 then (s, 30) else (s, 27)
def Op (f : FuncId) (x : Ins) (s : Ms) (r : Ms × Int) (F : Fz) (H : List fp) (V : List Nat) (m : Nat) (sa fa : AV) (c : Cd) : Prop :=
 MR F H m sa fa c s -> Fro F H -> Mw f [.ptr m 0, x.av] F H V m sa fa c λ v _ s' => s' = r.1 /\ v = .int r.2
section
variable {F : Fz} {H : List fp} {V : List Nat} {m : Nat} {sa fa : AV} {c : Cd} {s : Ms} {x : Ins}
theorem MR.Fx (hM : MR F H m sa fa c s) (hF : Fro F H) (g : fp) (l : List AV) : ∃ F', MR F' (H ++ [g, .cells false l]) m sa fa c s /\ Fro F' (H ++ [g, .cells false l]) /\ Nx F H (Own m sa fa) F' (H ++ [g, .cells false l]) (Own m sa fa) /\ F' (H.length + 1) = some l := by
 obtain ⟨h1, h2, h3⟩ := hM.more hF [g]
 obtain ⟨k1, k2, k3, k4⟩ := h1.alloc h2 l
 rw [aj] at k1 k2 k3
 exact ⟨_, k1, k2, h3.trans k3, by rw [show H.length + 1 = (H ++ [g]).length from by simp]; exact k4⟩
theorem MR.Sr (hM : MR F H m sa fa c s) (hF : Fro F H) (l : List AV) : ∃ F', MR F' (H ++ [.cells false l]) m sa fa c s /\ Fro F' (H ++ [.cells false l]) /\ Nx F H (Own m sa fa) F' (H ++ [.cells false l]) (Own m sa fa) /\ F' H.length = some l := by
 obtain ⟨h1, h2, h3, h4⟩ := hM.alloc hF l
 exact ⟨_, h1, h2, h3, h4⟩
theorem Ni (hb : s.stack.length <= 1000000) : Op 43 x s (s.push (.clo x.a s.now.env), 0) F H V m sa fa c := by
 intro hM hF
 obtain ⟨Bl, tb, t2, t3, ea, b1, b2, b3⟩ := hM.uc
 have hml := fy b1
 obtain ⟨F1, n1, n2, n3, n4⟩ := hM.Fx hF (.cells false [.int x.op, .int x.a, .int x.b, .str x.n]) [.int 1, .int x.a, .str ⟨#[]⟩, ea, .sl [] .nil]
 have hv : VR F1 (.clo x.a s.now.env) (.ptr (H.length + 1) 0) := by rw [VR]; exact ⟨_, ea, rfl, n4, ER.mono n3.le _ _ b3⟩
 obtain ⟨r, ⟨H', V'⟩, ⟨F', sa', fa', s', ⟨rfl, rfl, rfl⟩, q1, q2, q3⟩, cp⟩ := (n9 (V := V) n1 n2 hv hb).call rfl
 simp only [mcs] at b1
 refine ly pf43_is (dh rfl) ?_
 simp only [pf43, ↓fj, wall, simprocAttr, wH, gq, fq, Ins.av, b1, (gal hml).trans b1, cp, a7a, mo b3, pq b3, m8 b3]
 exact ⟨_, _, _, _, ⟨rfl, rfl⟩, q1, q2, n3.trans q3⟩
theorem Wo : Op 56 x s (s, 30) F H V m sa fa c := by
 intro hM hF
 obtain ⟨n1, n2, n3⟩ := hM.more hF [.cells false [.int x.op, .int x.a, .int x.b, .str x.n]]
 refine ly pf56_is (dh rfl) ?_
 simp only [pf56, ↓fj, wall, simprocAttr, wH, gq, fq, Ins.av]
 exact ⟨_, _, _, _, ⟨rfl, rfl⟩, n1, n2, n3⟩
theorem a3a (hb : s.stack.length <= 1000000) : Op 50 x s (s.push .box, 0) F H V m sa fa c := by
 intro hM hF
 obtain ⟨F1, n1, n2, n3, n4⟩ := hM.Fx hF (.cells false [.int x.op, .int x.a, .int x.b, .str x.n]) [.int 0, .int 0, .str ⟨#[]⟩, .v (.pointer none), .sl [] .nil]
 have hv : VR F1 .box (.ptr (H.length + 1) 0) := by rw [VR]; exact ⟨_, rfl, n4⟩
 obtain ⟨r, ⟨H', V'⟩, ⟨F', sa', fa', s', ⟨rfl, rfl, rfl⟩, q1, q2, q3⟩, cp⟩ := (n9 (V := V) n1 n2 hv hb).call rfl
 refine ly pf50_is (dh rfl) ?_
 simp only [pf50, ↓fj, wall, simprocAttr, wH, gq, fq, Ins.av, cp]
 exact ⟨_, _, _, _, ⟨rfl, rfl⟩, q1, q2, n3.trans q3⟩
theorem Rd {n b : Nat} (ha : x.a = (n : Nat)) (hs : c.st[n]? = some ((b : Nat) : Int)) (hb : s.ia.length <= 1000000) : Op 49 x s (s.enter b []) F H V m sa fa c := by
 intro hM hF
 obtain ⟨Bl, tb, t2, t3, ea, b1, b2, b3⟩ := hM.uc
 have hml := fy b1
 obtain ⟨n1, n2, n3⟩ := hM.more hF [.cells false [.int x.op, .int x.a, .int x.b, .str x.n]]
 obtain ⟨r, ⟨H', V'⟩, ⟨F', sa', fa', s', ⟨rfl, hr⟩, q1, q2, q3⟩, cp⟩ := (Cq (V := V) (a := .v (.pointer none)) (e := []) b n1 n2 (by rw [ER]) hb).call rfl
 have hnl : n < (ints c.st).length := by rw [ig]; exact (List.getElem?_eq_some_iff.1 hs).1
 have hlt1 : ((n : Nat) : Int) < ((ints c.st).length : Nat) := by omega
 have hget : (ints c.st)[n]? = some (.int (b : Nat)) := by rw [ints, bh, hs]; rfl
 have hone : ((ints c.st).all λ x => x.cells.length == 1) = true := by rw [aw]; intro y hy; obtain ⟨_, _, rfl⟩ := List.mem_map.1 hy; rfl
 simp only [mcs] at b1
 rw [ha] at cp
 refine ly pf49_is (dh rfl) ?_
 simp only [pf49, ↓fj, wall, simprocAttr, wH, gq, fq, Ins.av, ha, (gal hml).trans b1, cp, hget, hlt1, hone]
 refine ⟨_, _, _, _, ?_, q1, q2, n3.trans q3⟩
 rcases hr with ⟨h1, rfl, rfl⟩ | ⟨h1, rfl, rfl⟩
 ·rw [Ms.enter, if_pos h1]; exact ⟨rfl, rfl⟩
 ·rw [Ms.enter, if_neg (by omega)]; exact ⟨rfl, rfl⟩
theorem Rs {v : Vl} {e : List Vl} (he : s.now.env = v :: e) : Op 52 x s ({ s with now := { s.now with env := e } }, 0) F H V m sa fa c := by
 intro hM hF
 obtain ⟨n1, n2, n3⟩ := hM.more hF [.cells false [.int x.op, .int x.a, .int x.b, .str x.n]]
 obtain ⟨Bl, tb, t2, t3, ea, b1, b2, b3⟩ := n1.uc
 have hml := fy b1
 rw [he, ER] at b3
 obtain ⟨k, av, ea', rfl, e2, e3, e4⟩ := b3
 have e5 := n2 _ _ e2
 simp only [mcs] at b1
 refine ly pf52_is (dh rfl) ?_
 simp only [pf52, ↓fj, wall, simprocAttr, wH, gq, fq, Ins.av, b1, e5, mo e4, pq e4, m8 e4]
 obtain ⟨k1, k2, k3⟩ := n1.upd n2 (s' := { s with now := { s.now with env := e } }) ⟨Bl, tb, t2, t3, ea', gse hml, b2, e4⟩ (n1.st.jd λ b e => gsn (n1.d1 b e).1) (n1.fr.jd λ b e => gsn (n1.d2 b e)) (λ k _ hn => gsn λ e => hn (.inl e)) (by simp) (λ k h => .inl h) n1.d1 n1.d2
 exact ⟨_, _, _, _, ⟨rfl, rfl⟩, k1, k2, n3.trans k3⟩
end
end Go.Proofs.Eng
namespace Go.Proofs.Eng
open Go Go.Proofs
set_option maxRecDepth 100000
def LeS (S T : List Int) : Prop := S.length = T.length /\ ∀ k : Nat, 0 <= S.getD k 0 -> T.getD k 0 = S.getD k 0
theorem LeS.refl (S : List Int) : LeS S S := ⟨rfl, λ _ _ => rfl⟩
theorem LeS.trans {S T U : List Int} (h : LeS S T) (k : LeS T U) : LeS S U := ⟨h.1.trans k.1, λ i hi => by
 have := h.2 i hi
 rw [k.2 i (by rw [this]; exact hi), this]⟩
theorem Bv {n : Nat} {S S' : List Int} {b size : Int} (h : yi n S b size = .ok S') : LeS S S' /\ S' = S.set b.toNat size /\ (n : Int) < b := by
 unfold yi at h
 split at h
 ·cases h
 ·rename_i h1
  split at h
  ·cases h
  ·rename_i h2
   cases h
   refine ⟨⟨by simp, λ k hk => ?_⟩, rfl, by omega⟩
   rw [cw, cw, b9]
   split
   ·rename_i e
    subst e
    exact absurd hk h1
   ·rfl
theorem Z3 {n : Nat} {x : Ins} {t : Sk} {S : List Int} (h : tc n x t = .ok S) : LeS t.S S := by
 unfold tc at h
 split at h
 ·exact (Bv h).1
 ·split at h
  ·exact (Bv h).1
  ·split at h
   ·cases h
   ·cases h; exact .refl _
theorem Bo {x : Ins} {rest : List Ins} {S : List Int} {t t' : Sk} (h : By x rest S t = .ok t') : jq x <= t.stack /\ (x.op = 10 -> t.binds ≠ 0) /\ ((x.op == 3) = rest.isEmpty) /\ (x.op = 3 -> t.stack - jq x + j7 x = 1 /\ k9 x t.binds = 0) /\ t' = ⟨S, k9 x t.env, t.stack - jq x + j7 x, k9 x t.binds, brI x t.br⟩ := by
 unfold By at h
 split at h
 ·cases h
 ·rename_i h1
  split at h
  ·cases h
  ·rename_i h2
   split at h
   ·cases h
   ·rename_i h3
    cases h
    refine ⟨by omega, λ e1 e2 => h1 (.inr ⟨e1, e2⟩), by simpa using h2, λ e => ?_, rfl⟩
    exact ⟨Decidable.byContradiction λ e' => h3 ⟨e, .inl e'⟩, Decidable.byContradiction λ e' => h3 ⟨e, .inr e'⟩⟩
theorem zg {nb ng n : Nat} {x : Ins} {rest : List Ins} {t t' : Sk} (h : stp nb ng n x rest t = .ok t') : mw nb ng x rest t.br = 0 /\ ∃ S, tc n x t = .ok S /\ By x rest S t = .ok t' := by
 unfold stp at h
 split at h
 ·cases h
 ·rename_i h1
  split at h
  ·cases h
  ·rename_i S hS
   exact ⟨by omega, S, hS, h⟩
theorem a1k {nb ng n : Nat} {x : Ins} {rest : List Ins} {t : Sk} {e : Int} (h : stp nb ng n x rest t = .error e) : e ≠ 0 := by
 unfold stp at h
 split at h
 ·rename_i h1; cases h; exact h1
 ·split at h
  ·rename_i e' hr
   cases h
   unfold tc yi at hr
   repeat' split at hr
   all_goals first | (cases hr; omega) | (cases hr; done)
  ·unfold By at h
   repeat' split at h
   all_goals first | (cases h; omega) | (cases h; done)
theorem Kc {nb ng n : Nat} {suf : List Ins} : ∀ {l : List Ins} {t : Sk} {e : Int}, l6 nb ng n suf l t = .error e -> e ≠ 0
 | [], t, e, h => by cases h
 | x :: l, t, e, h => by
  rw [l6] at h
  split at h
  ·rename_i e' he; cases h; exact a1k he
  ·exact Kc h
theorem Ir {nb ng n : Nat} {suf : List Ins} : ∀ {l : List Ins} {t t' : Sk}, l6 nb ng n suf l t = .ok t' -> LeS t.S t'.S
 | [], t, t', h => by cases h; exact .refl _
 | x :: l, t, t', h => by
  rw [l6] at h
  split at h
  ·cases h
  ·rename_i t1 h1
   obtain ⟨_, S, h2, h3⟩ := zg h1
   have := (Bo h3).2.2.2.2
   refine LeS.trans ?_ (Ir h)
   rw [this]; exact Z3 h2
def a2n (c : Cd) (Z : List Int) (n : Nat) (l : List Ins) : Prop := l ≠ [] /\ 0 <= Z.getD n 0 /\ ∃ S t', l6 c.bl.length c.gl.length n [] l ⟨S, Z.getD n 0, 0, 0, 0⟩ = .ok t' /\ LeS t'.S Z
theorem Rx (s : List Int) : ∀ S : List Int, (s.foldl (λ S x => S.set x.toNat 0) S).length = S.length := by
 induction s with
 | nil => intro S; rfl
 | cons x s ih => intro S; rw [dc, ih, List.length_set]
theorem foldl_zero (s : List Int) : ∀ (S : List Int) (k : Nat), k < S.length -> (S.getD k 0 = 0 \/ (k : Int) ∈ s) -> (s.foldl (λ S x => S.set x.toNat 0) S).getD k 0 = 0 := by
 induction s with
 | nil => intro S k hk h; rcases h with h | h; exact h; cases h
 | cons x s ih =>
  intro S k hk h
  rw [dc]
  refine ih _ _ (by rw [List.length_set]; exact hk) ?_
  rw [cw, b9]
  by_cases hx : x.toNat = k
  ·rw [if_pos hx, if_pos (by omega)]; exact .inl rfl
  ·rw [if_neg hx]
   rcases h with h | h
   ·exact .inl (by rw [<- cw]; exact h)
   ·rcases List.mem_cons.1 h with h | h
    ·exact absurd (by omega) hx
    ·exact .inr h
def Cd.bd (c : Cd) (k : Nat) : Int := (((c.bl.take k).map λ l => l.length + 64).sum : Nat)
theorem E9 (c : Cd) {a b : Nat} (h : a <= b) : c.bd a <= c.bd b := by
 have : c.bl.take b = c.bl.take a ++ (c.bl.take b).drop a := by
  have h1 := cx a (c.bl.take b)
  rw [List.take_take, Nat.min_eq_left h] at h1; exact h1.symm
 unfold Cd.bd
 rw [this, List.map_append, List.sum_append]; omega
theorem Iy {c : Cd} {n : Nat} {l : List Ins} (h : c.bl[n]? = some l) : c.bd (n + 1) = c.bd n + l.length + 64 := by
 unfold Cd.bd
 rw [bj, h, List.map_append, List.sum_append]
 simp; omega
def BdS (c : Cd) (S : List Int) : Prop := ∀ k : Nat, 0 <= S.getD k 0 -> S.getD k 0 <= c.bd k
theorem Ov {c : Cd} {n : Nat} {S S' : List Int} {b size : Int} (h : yi n S b size = .ok S') (hB : BdS c S) (hs : size <= c.bd (n + 1)) : BdS c S' := by
 obtain ⟨_, rfl, h2⟩ := Bv h
 intro k hk
 rw [cw, b9] at hk ⊢
 split
 ·rename_i e
  split
  ·exact Int.le_trans hs (E9 c (by omega))
  ·exact fc _
 ·rename_i e
  rw [if_neg e, <- cw] at hk
  rw [<- cw]
  exact hB k hk
theorem a6l {c : Cd} {nb ng n : Nat} {x : Ins} {rest : List Ins} {t t' : Sk} (h : stp nb ng n x rest t = .ok t') (hB : BdS c t.S) (hs : t.env + 64 <= c.bd (n + 1)) : BdS c t'.S /\ t'.env <= t.env + 1 := by
 obtain ⟨hf, S, h2, h3⟩ := zg h
 have he := (Bo h3).2.2.2.2
 subst he
 refine ⟨?_, ?_⟩
 ·show BdS c S
  unfold tc at h2
  split at h2
  ·exact Ov h2 hB (by omega)
  ·split at h2
   ·rename_i h6
    refine Ov h2 hB ?_
    unfold mw at hf
    split at hf
    ·omega
    ·split at hf
     ·omega
     ·split at hf
      ·omega
      ·rename_i hm
       have : ¬ 64 < x.b := λ h => hm (by simp [ma, h6, h])
       omega
   ·split at h2
    ·cases h2
    ·cases h2; exact hB
 ·show k9 x t.env <= t.env + 1
  unfold k9
  repeat' split
  all_goals omega
theorem Q7 {c : Cd} {nb ng n : Nat} {suf : List Ins} : ∀ {l : List Ins} {t t' : Sk}, l6 nb ng n suf l t = .ok t' -> BdS c t.S -> t.env + l.length + 64 <= c.bd (n + 1) -> BdS c t'.S
 | [], t, t', h, hB, _ => by cases h; exact hB
 | x :: l, t, t', h, hB, hs => by
  rw [l6] at h
  simp only [ak] at hs
  split at h
  ·cases h
  ·rename_i t1 h1
   obtain ⟨k1, k2⟩ := a6l h1 hB (by omega)
   exact Q7 h k1 (by omega)
theorem U7 {c : Cd} {Z : List Int} : ∀ {r : List (List Ins)} {n : Nat} {S : List Int}, goB c.bl.length c.gl.length n r S = 0 -> r = c.bl.drop n -> BdS c S -> (∃ Z, LeS S Z /\ BdS c Z /\ ∀ (i : Nat) (l : List Ins), r[i]? = some l -> a2n c Z (n + i) l)
 | [], n, S, h, _, hB => ⟨S, .refl _, hB, λ i l hi => by simp at hi⟩
 | l :: r, n, S, h, hr, hB => by
  have hl : c.bl[n]? = some l := by
   have := congrArg (λ x : List (List Ins) => x[0]?) hr
   simpa using this.symm
  have hr' : r = c.bl.drop (n + 1) := by
   have := congrArg List.tail hr
   simpa using this
  rw [goB] at h
  split at h
  ·omega
  ·rename_i h1
   split at h
   ·omega
   ·rename_i h2
    split at h
    ·rename_i e he; exact absurd h (Kc he)
    ·rename_i t ht
     have hb := hB n (by omega)
     have hbs := Iy hl
     obtain ⟨Z, z1, zb, z2⟩ := U7 (Z := Z) h hr' (Q7 ht hB (by show S.getD n 0 + _ + 64 <= _; omega))
     have hle : LeS S t.S := Ir ht
     have hg : Z.getD n 0 = S.getD n 0 := (hle.trans z1).2 n (by omega)
     refine ⟨Z, hle.trans z1, zb, λ i l' hi => ?_⟩
     cases i with
     | zero =>
      simp at hi; subst hi
      exact ⟨h2, by rw [Nat.add_zero, hg]; omega, S, t, by rw [Nat.add_zero, hg]; exact ht, z1⟩
     | succ i =>
      have := z2 i l' (by simpa using hi)
      rwa [show n + 1 + i = n + (i + 1) from by omega] at this
structure F0 (c : Cd) (Z : List Int) : Prop where
 len : Z.length = c.bl.length
 blk : ∀ (i : Nat) (l : List Ins), c.bl[i]? = some l -> a2n c Z i l
 pos : 0 < c.bl.length
 zero : Z.getD 0 0 = 0
 st : ∀ (i : Nat), i < c.gl.length -> ∃ b : Nat, c.st[i]? = some (b : Int) /\ b < c.bl.length /\ Z.getD b 0 = 0
 bd : BdS c Z
theorem a26 (s : List Int) : ∀ S : List Int, (∀ k : Nat, S.getD k 0 <= 0) -> ∀ k : Nat, (s.foldl (λ S x => S.set x.toNat 0) S).getD k 0 <= 0 := by
 induction s with
 | nil => intro S h; exact h
 | cons x s ih =>
  intro S h
  rw [dc]
  refine ih _ λ k => ?_
  rw [cw, b9]
  split
  ·split <;> simp
  ·rw [<- cw]; exact h k
theorem Kj {c : Cd} (h : c.check = 0) : ∃ Z, F0 c Z := by
 unfold Cd.check at h
 split at h
 ·rename_i h1; exact absurd h h1
 rename_i h1
 have h1 : c.Dm = 0 := by omega
 have hB0 : BdS c c.S0 := by
  intro k hk
  have : c.S0.getD k 0 <= 0 := a26 _ _ (λ k => by
   rw [cw, b9]
   split
   ·split <;> simp
   ·rw [List.getElem?_replicate]; split <;> simp) k
  have := fc ((((c.bl.take k).map λ l => l.length + 64).sum : Nat))
  unfold Cd.bd; omega
 obtain ⟨Z, z1, zb, z2⟩ := U7 (Z := []) h (by simp) hB0
 unfold Cd.Dm at h1
 split at h1
 ·omega
 rename_i h2
 simp only [not_or] at h2
 obtain ⟨k1, k2, k3, _⟩ := h2
 have hlen : c.S0.length = c.bl.length := by rw [Cd.S0, Rx]; simp
 have hpos : 0 < c.bl.length := List.length_pos_iff.2 k1
 refine ⟨Z, z1.1.symm.trans hlen, λ i l hi => by have := z2 i l hi; rwa [dp] at this, hpos, ?_, λ i hi => ?_, zb⟩
 ·have : c.S0.getD 0 0 = 0 := foldl_zero _ _ 0 (by simpa using hpos) (.inl (by rw [cw, b9]; simp [hpos]))
  rw [z1.2 0 (by omega), this]
 ·have hi' : i < c.st.length := by omega
  have hm : c.st[i] ∈ c.st := List.getElem_mem hi'
  have hb : ¬ (c.st[i] < 1 \/ (c.bl.length : Int) <= c.st[i]) := λ h => k3 (ck.2 ⟨_, hm, by simpa using h⟩)
  simp only [not_or] at hb
  refine ⟨c.st[i].toNat, by rw [aa hi']; congr 1; omega, by omega, ?_⟩
  have : c.S0.getD c.st[i].toNat 0 = 0 := foldl_zero _ _ _ (by simp; omega) (.inr (by rw [show ((c.st[i].toNat : Nat) : Int) = c.st[i] from by omega]; exact hm))
  rw [z1.2 _ (by omega), this]
end Go.Proofs.Eng
namespace Go.Proofs.Eng
open Go Go.Proofs
set_option maxRecDepth 100000
def J8 (c : Cd) (Z : List Int) (n at' : Nat) (t : Sk) : Prop := ∃ l, c.bl[n]? = some l /\ at' < l.length /\ ∃ t', l6 c.bl.length c.gl.length n [] (l.drop at') t = .ok t' /\ LeS t'.S Z
mutual
def VOK (c : Cd) (Z : List Int) : Vl -> Prop
 | .box => True
 | .clo n e => 0 <= n /\ n.toNat < c.bl.length /\ Z.getD n.toNat 0 = (e.length : Nat) + 1 /\ kl c Z e
 | .ctor n _ p => 0 <= n /\ p.length <= 1000000 /\ kl c Z p
 | .pair a b => VOK c Z a /\ VOK c Z b
def kl (c : Cd) (Z : List Int) : List Vl -> Prop
 | [] => True
 | v :: l => VOK c Z v /\ kl c Z l
end
section
variable {c : Cd} {Z : List Int}
theorem m6 : ∀ {l : List Vl}, kl c Z l ↔ ∀ v ∈ l, VOK c Z v
 | [] => by rw [kl]; simp
 | v :: l => by rw [kl, m6]; simp
def Ia (c : Cd) (Z : List Int) (f : Fr) (k : Nat) : Prop := ∃ t, J8 c Z f.bk f.at' t /\ t.br = 0 /\ t.env = (f.env.length : Nat) /\ t.stack = (k : Nat) /\ 0 <= t.binds /\ t.binds <= t.env /\ t.env <= Z.getD f.bk 0 + (f.at' : Nat) /\ kl c Z f.env
def Uv (c : Cd) (Z : List Int) : List Fr -> Nat -> Prop
 | [], r => r = 0
 | f :: fs, r => ∃ k r', Ia c Z f (k + 1) /\ r = k + r' /\ Uv c Z fs r'
structure Good (c : Cd) (Z : List Int) (s : Ms) : Prop where
 h : s.halted = false
 e : s.err = 0
 fr : ∃ k r, Ia c Z s.now k /\ s.stack.length = k + r /\ Uv c Z s.ia r
 st : kl c Z s.stack
 cap : s.ia.length <= 65536
theorem J8.step {n at' : Nat} {t : Sk} (h : J8 c Z n at' t) : ∃ l x t1, c.bl[n]? = some l /\ l[at']? = some x /\ x ∈ l /\ stp c.bl.length c.gl.length n x (l.drop (at' + 1)) t = .ok t1 /\ LeS t1.S Z /\ (x.op ≠ 3 -> J8 c Z n (at' + 1) t1) := by
 obtain ⟨l, h1, h2, t', h3, h4⟩ := h
 have hx : l[at']? = some l[at'] := aa h2
 rw [bx h2, l6] at h3
 split at h3
 ·cases h3
 ·rename_i t1 ht
  rw [List.append_nil] at ht
  refine ⟨l, l[at'], t1, h1, hx, List.getElem_mem h2, ht, (Ir h3).trans h4, λ h6 => ?_⟩
  obtain ⟨_, S, _, h8⟩ := zg ht
  have h9 := (Bo h8).2.2.1
  refine ⟨l, h1, ?_, t', h3, h4⟩
  rcases dj (at' + 1) l.length with h | h
  ·exact h
  ·rw [List.drop_of_length_le h] at h9
   simp only [List.isEmpty_nil, beq_iff_eq] at h9
   exact absurd h9 h6
theorem J8.skip (hZ : Z.length = c.bl.length) {n : Nat} : ∀ (m : Nat) {at' : Nat} {t : Sk}, J8 c Z n at' t -> t.br = (m : Nat) -> 0 <= t.env -> ∃ l t1, c.bl[n]? = some l /\ at' + m < l.length /\ J8 c Z n (at' + m) t1 /\ t1.br = 0 /\ t1.env = t.env /\ t1.stack = t.stack /\ t1.binds = t.binds /\
  ∀ (j : Nat), j < m -> ∃ y : Ins, l[at' + j]? = some y /\ y.op = 6 /\ 0 <= y.a /\ y.a.toNat < c.bl.length /\ 0 <= y.b /\ y.b <= 64 /\ Z.getD y.a.toNat 0 = t.env + y.b
 | 0, at', t, h, hb, _ => by
  obtain ⟨l, h1, h2, _⟩ := id h
  exact ⟨l, t, h1, h2, h, hb, rfl, rfl, rfl, λ j hj => by omega⟩
 | m + 1, at', t, h, hb, hv => by
  obtain ⟨l, x, t1, h1, h2, _, h3, h4, h5⟩ := h.step
  obtain ⟨hf, S, hr, he⟩ := zg h3
  obtain ⟨e1, e2, e3, e4, e5⟩ := Bo he
  have hop : x.op = 6 /\ 0 <= x.a /\ 0 <= x.b /\ x.b <= 64 /\ x.a < c.bl.length := by
   unfold mw at hf
   split at hf
   ·omega
   ·rename_i hi
    split at hf
    ·omega
    ·split at hf
     ·omega
     ·rename_i hm
      simp only [sq, Bool.not_eq_false, dx, decide_eq_true_eq, beq_iff_eq] at hi
      have h6 : x.op = 6 := by
       have := hi.1.2
       have hd : decide (0 < t.br) = true := by simp; omega
       rw [hd] at this; simpa using this
      have h64 : ¬ 64 < x.b := λ h => hm (by simp [ma, h6, h])
      have hnb : ¬ (c.bl.length : Int) <= x.a := λ h => hm (by simp [ma, h6, h])
      exact ⟨h6, hi.1.1.1.1.1.1.2, hi.1.1.1.1.1.2, by omega, by omega⟩
  obtain ⟨h6, ha, hb0, hb1, hnb⟩ := hop
  have hx3 : x.op ≠ 3 := by omega
  subst e5
  have q1 : jq x = 0 := by simp [jq, h6]
  have q2 : j7 x = 0 := by simp [j7, h6]
  have q3 : ∀ v, k9 x v = v := λ v => by simp [k9, h6]
  have q4 : brI x t.br = (m : Nat) := by simp only [brI, h6]; rw [if_neg (by omega)]; omega
  obtain ⟨l', t2, k1, k2, k3, k4, k5, k6, k7, k8⟩ := J8.skip hZ m (h5 hx3) (by simpa using q4) (by show 0 <= k9 x t.env; rw [q3]; exact hv)
  rw [h1] at k1; cases k1
  refine ⟨l, t2, h1, by omega, by rw [show at' + (m + 1) = at' + 1 + m from by omega]; exact k3, k4, by rw [k5]; exact q3 _, by rw [k6]; show t.stack - jq x + j7 x = _; omega, by rw [k7]; exact q3 _, λ j hj => ?_⟩
  cases j with
  | zero =>
   refine ⟨x, h2, h6, ha, by omega, hb0, hb1, ?_⟩
   unfold tc at hr
   rw [if_neg (by omega), if_pos h6] at hr
   obtain ⟨g1, g2, g3⟩ := Bv hr
   have hlen : x.a.toNat < S.length := by have : S.length = Z.length := h4.1; omega
   have hS : S.getD x.a.toNat 0 = t.env + x.b := by
    rw [g2, cw, b9, if_pos rfl, if_pos (by rw [g2, List.length_set] at hlen; exact hlen)]; rfl
   rw [h4.2 _ (by show 0 <= S.getD _ 0; rw [hS]; omega)]
   exact hS
  | succ j =>
   obtain ⟨y, y1, y2⟩ := k8 j (by omega)
   refine ⟨y, by rw [show at' + (j + 1) = at' + 1 + j from by omega]; exact y1, ?_⟩
   have : k9 x t.env = t.env := q3 _
   simp only [this] at y2
   exact y2
structure Rdy (c : Cd) (x : Ins) (s : Ms) : Prop where
 op : 0 <= x.op /\ x.op <= 14 /\ x.op ≠ 6
 o0 : x.op = 0 -> ∃ (n : Nat) (v : Vl), x.a = (n : Nat) /\ s.now.env[n]? = some v
 o2 : x.op = 2 -> ∃ a f st, s.stack = a :: f :: st /\ ∀ n e, f = .clo n e -> 0 <= n
 o4 : x.op = 4 -> ∃ n : Nat, x.b = (n : Nat) /\ n <= s.stack.length
 o5 : x.op = 5 -> ∃ (n : Nat) (v : Vl) (st : List Vl) (l : List Ins), x.a = (n : Nat) /\ s.stack = v :: st /\ c.bl[s.now.bk]? = some l /\ s.now.at' + n <= l.length /\ (∀ k nm p, v = .ctor k nm p -> 0 <= k /\ p.length <= 1000000) /\ ∀ y ∈ c.brs s.now n, 0 <= y.a
 o7 : x.op = 7 -> ∃ n b : Nat, x.a = (n : Nat) /\ c.st[n]? = some (b : Int)
 o9 : x.op = 9 \/ x.op = 12 \/ x.op = 13 -> ∃ v st, s.stack = v :: st
 o10 : x.op = 10 -> ∃ v e, s.now.env = v :: e
 o11 : x.op = 11 -> ∃ b a st, s.stack = b :: a :: st
def Ms.adv (s : Ms) : Ms := { s with now := { s.now with at' := s.now.at' + 1 }, steps := s.steps + 1 }
def Safe (c : Cd) (Z : List Int) (s : Ms) : Prop := (s.err ≠ 0 /\ s.halted = false) \/ (s.err = 0 /\ s.halted = true /\ s.stack ≠ [] /\ kl c Z s.stack) \/ Good c Z s
end
end Go.Proofs.Eng
