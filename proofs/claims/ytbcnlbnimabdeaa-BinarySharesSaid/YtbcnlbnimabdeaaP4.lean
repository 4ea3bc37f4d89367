/- P4: what functions of the program return. No conditions beyond those in the theorems. -/
import Derived.Test.YtbcnlbnimabdeaaP3
set_option linter.all false
set_option linter.deprecated false
set_option linter.unnecessarySimpa false
set_option linter.unusedVariables false
set_option linter.unusedSimpArgs false
set_option linter.defProp false
namespace Go.Proofs.Eng
open Go Go.Proofs
theorem kidsN_range {k : Int} (h : 0 ≤ kidsN k) : 0 ≤ k ∧ k ≤ 12 := by
  unfold kidsN at h
  split at h
  · omega
  split at h
  · omega
  split at h
  · omega
  split at h
  · omega
  · omega
theorem entry_inj {pos : Tm → Nat} {a b : Tm} (fa : a.fine) (fb : b.fine) (hp : ∀ x y, (x ∈ a.kids ∨ x ∈ b.kids) → (y ∈ a.kids ∨ y ∈ b.kids) → pos x = pos y → x = y) (h : entryT pos a = entryT pos b) : a = b := by
  have hka := kidsN_range (k := a.k) (by rw [fa.kids]; omega)
  have hkb := kidsN_range (k := b.k) (by rw [fb.kids]; omega)
  unfold entryT at h
  obtain ⟨h1, h⟩ := encN_inj _ _ _ _ h
  have hk : a.k = b.k := by omega
  have hlen : a.kids.length = b.kids.length := by have := fa.kids; have := fb.kids; rw [hk] at *; omega
  have kids : ∀ x y : List UInt8, (a.kids.flatMap fun x => encN (pos x)) ++ x = (b.kids.flatMap fun x => encN (pos x)) ++ y → a.kids = b.kids := fun x y e =>
    (flat_inj (ok := fun z => z ∈ a.kids ∨ z ∈ b.kids) (f := fun x => encN (pos x)) (fun u v x y hu hv e => by
      have := encN_inj _ _ _ _ e
      exact ⟨hp u v hu hv this.1, this.2⟩) a.kids b.kids x y hlen (fun z hz => .inl hz) (fun z hz => .inr hz) e).1
  obtain ⟨k, i, n, ls, ks⟩ := a
  obtain ⟨k', i', n', ls', ks'⟩ := b
  simp only [Tm.k, Tm.kids] at hk hlen kids h hka hkb h1
  subst hk
  have a1 := fa.lv; have a2 := fa.ls; have a3 := fa.ix; have a4 := fa.nm
  have b1 := fb.lv; have b2 := fb.ls; have b3 := fb.ix; have b4 := fb.nm
  simp only [Tm.k, Tm.ls, Tm.i, Tm.n] at a1 a2 a3 a4 b1 b2 b3 b4
  have same : i = i' → n = n' → ls = ls' → ks = ks' → Tm.mk k i n ls ks = Tm.mk k i' n' ls' ks' := by rintro rfl rfl rfl rfl; rfl
  simp only [Tm.pay] at h
  by_cases k0 : k = 0 ∨ k = 12
  · rw [if_pos k0, if_pos k0] at h
    obtain ⟨h2, h⟩ := encN_inj _ _ _ _ h
    have c1 := a3.1 k0
    have c2 := b3.1 k0
    exact same (by omega) (by rw [a4 (by omega), b4 (by omega)]) (by rw [a2.2 (by omega) (by omega), b2.2 (by omega) (by omega)]) (kids [] [] (by simpa using h))
  rw [if_neg k0, if_neg k0] at h
  have hi : i = i' := by rw [a3.2 (by omega) (by omega), b3.2 (by omega) (by omega)]
  by_cases k2 : k = 2
  · rw [if_pos k2, if_pos k2] at h
    have c1 := a2.1 k2
    have c2 := b2.1 k2
    match ls, ls', c1, c2 with
    | [l], [l'], _, _ =>
      simp only [List.headD_cons] at h
      obtain ⟨h2, h⟩ := encL_inj l l' _ _ (a1 l (by simp)) (b1 l' (by simp)) h
      exact same hi (by rw [a4 (by omega), b4 (by omega)]) (by rw [h2]) (kids [] [] (by simpa using h))
  rw [if_neg k2, if_neg k2] at h
  by_cases k3 : k = 3
  · rw [if_pos k3, if_pos k3] at h
    simp only [List.append_assoc] at h
    obtain ⟨h2, h⟩ := encN_inj _ _ _ _ h
    obtain ⟨h3, h⟩ := List.append_inj h (by rw [toList_len, toList_len, h2])
    obtain ⟨h4, h⟩ := encN_inj _ _ _ _ h
    obtain ⟨h5, h⟩ := flat_inj (ok := Lv.fine) encL_inj ls ls' _ _ h4 a1 b1 h
    exact same hi (toList_inj h3) h5 (kids [] [] (by simpa using h))
  · rw [if_neg k3, if_neg k3] at h
    exact same hi (by rw [a4 k3, b4 k3]) (by rw [a2.2 k2 k3, b2.2 k2 k3]) (kids [] [] (by simpa using h))
mutual
/-- The subterms. -/
def Tm.subs : Tm → List Tm
  | .mk k i n ls kids => .mk k i n ls kids :: subsL kids
def subsL : List Tm → List Tm
  | [] => []
  | t :: l => t.subs ++ subsL l
end
mutual
def Tm.sz : Tm → Nat
  | .mk _ _ _ _ kids => 1 + tszL kids
def tszL : List Tm → Nat
  | [] => 0
  | t :: l => t.sz + tszL l
end
theorem mem_subsL {x : Tm} : ∀ {l : List Tm}, x ∈ subsL l ↔ ∃ y ∈ l, x ∈ y.subs
  | [] => by simp [subsL]
  | t :: l => by rw [subsL, List.mem_append, mem_subsL (l := l)]; simp
theorem tsz_kid {l : List Tm} {x : Tm} (h : x ∈ l) : x.sz ≤ tszL l := by
  induction l with
  | nil => simp at h
  | cons y l ih =>
    simp only [tszL]
    simp at h
    rcases h with rfl | h
    · omega
    · have := ih h; omega
theorem subs_self (t : Tm) : t ∈ t.subs := by cases t; simp [Tm.subs]
theorem subs_sz (t : Tm) : ∀ x ∈ t.subs, x.sz ≤ t.sz := by
  induction t using Tm.ind with
  | h k i n ls kids ih =>
    intro x hx
    rw [Tm.subs] at hx
    rcases List.mem_cons.1 hx with rfl | hx
    · exact Nat.le_refl _
    · obtain ⟨y, hy, hxy⟩ := mem_subsL.1 hx
      have := ih y hy x hxy
      have := tsz_kid hy
      rw [Tm.sz]; omega
theorem kid_sz {t x : Tm} (h : x ∈ t.kids) : x.sz < t.sz := by
  obtain ⟨k, i, n, ls, kids⟩ := t
  have := tsz_kid (l := kids) h
  rw [Tm.sz]; omega
/-- A table: each entry once, behind its kids. -/
inductive Good : List Tm → Prop where
  | nil : Good []
  | add {T : List Tm} {t : Tm} (h : Good T) (hn : t ∉ T) (hf : t.fine) (hk : ∀ x ∈ t.kids, x ∈ T) : Good (T ++ [t])
theorem Good.nodup {T : List Tm} (h : Good T) : T.Nodup := by
  induction h with
  | nil => exact List.nodup_nil
  | add h hn hf hk ih => exact List.nodup_append.2 ⟨ih, by simp, by intro a ha b hb; simp at hb; subst hb; intro e; subst e; exact hn ha⟩
theorem Good.all {T : List Tm} (h : Good T) : ∀ t ∈ T, t.fine ∧ ∀ x ∈ t.kids, x ∈ T := by
  induction h with
  | nil => simp
  | add h hn hf hk ih =>
    intro t ht
    rcases List.mem_append.1 ht with ht | ht
    · have := ih t ht
      exact ⟨this.1, fun x hx => List.mem_append_left _ (this.2 x hx)⟩
    · simp at ht; subst ht
      exact ⟨hf, fun x hx => List.mem_append_left _ (hk x hx)⟩
theorem Good.subs {T : List Tm} (h : Good T) (t : Tm) : t ∈ T → ∀ x ∈ t.subs, x ∈ T := by
  induction t using Tm.ind with
  | h k i n ls kids ih =>
    intro ht x hx
    rw [Tm.subs] at hx
    rcases List.mem_cons.1 hx with rfl | hx
    · exact ht
    · obtain ⟨y, hy, hxy⟩ := mem_subsL.1 hx
      exact ih y hy ((h.all _ ht).2 y hy) x hxy
/-- The entries' texts. -/
def textT (T : List Tm) : List (List UInt8) := T.map (entryT fun x => T.idxOf x)
theorem entry_congr {p q : Tm → Nat} {t : Tm} (h : ∀ x ∈ t.kids, p x = q x) : entryT p t = entryT q t := by
  unfold entryT
  have : (t.kids.flatMap fun x => encN (p x)) = t.kids.flatMap fun x => encN (q x) := by
    rw [List.flatMap_def, List.flatMap_def, List.map_congr_left fun x hx => by rw [h x hx]]
  rw [this]
theorem idx_app {T : List Tm} {x : Tm} (h : x ∈ T) (m : List Tm) : (T ++ m).idxOf x = T.idxOf x := by rw [List.idxOf_append, if_pos h]
theorem idx_new {T : List Tm} {t : Tm} (h : t ∉ T) : (T ++ [t]).idxOf t = T.length := by
  rw [List.idxOf_append, if_neg h]; simp
theorem idx_inj {T : List Tm} {x y : Tm} (hx : x ∈ T) (hy : y ∈ T) (h : T.idxOf x = T.idxOf y) : x = y := by
  have h1 := List.getElem_idxOf (List.idxOf_lt_length_of_mem hx)
  have h2 := List.getElem_idxOf (List.idxOf_lt_length_of_mem hy)
  rw [← h1, ← h2]
  congr 1
theorem text_add {T : List Tm} {t : Tm} (hT : Good T) (hk : ∀ x ∈ t.kids, x ∈ T) : textT (T ++ [t]) = textT T ++ [entryT (fun x => T.idxOf x) t] := by
  unfold textT
  rw [List.map_append, List.map_cons, List.map_nil]
  congr 1
  · exact List.map_congr_left fun x hx => entry_congr fun y hy => idx_app ((hT.all x hx).2 y hy) _
  · congr 1
    exact entry_congr fun y hy => idx_app (hk y hy) _
theorem text_mem {T : List Tm} {t : Tm} (hT : Good T) (hf : t.fine) (hk : ∀ x ∈ t.kids, x ∈ T) : entryT (fun x => T.idxOf x) t ∈ textT T ↔ t ∈ T := by
  constructor
  · intro h
    obtain ⟨u, hu, e⟩ := List.mem_map.1 h
    have hu2 := hT.all u hu
    have : u = t := entry_inj hu2.1 hf (fun x y hx hy e => idx_inj (hx.elim (hu2.2 x) (hk x)) (hy.elim (hu2.2 y) (hk y)) e) e
    subst this; exact hu
  · intro h
    exact List.mem_map.2 ⟨t, h, rfl⟩
theorem text_idx {T : List Tm} {t : Tm} (hT : Good T) (ht : t ∈ T) : (textT T).idxOf (entryT (fun x => T.idxOf x) t) = T.idxOf t := by
  have key : ∀ l : List Tm, (∀ x ∈ l, x ∈ T) → t ∈ l → (l.map (entryT fun x => T.idxOf x)).idxOf (entryT (fun x => T.idxOf x) t) = l.idxOf t := by
    intro l
    induction l with
    | nil => intro _ h; simp at h
    | cons u l ih =>
      intro hl h
      rw [List.map_cons, List.idxOf_cons, List.idxOf_cons]
      by_cases hut : u = t
      · subst hut; simp
      · have hne : entryT (fun x => T.idxOf x) u ≠ entryT (fun x => T.idxOf x) t := fun e => hut (by
          have h1 := hT.all u (hl u (by simp))
          have h2 := hT.all t ht
          exact entry_inj h1.1 h2.1 (fun x y hx hy e => idx_inj (hx.elim (h1.2 x) (h2.2 x)) (hy.elim (h1.2 y) (h2.2 y)) e) e)
        simp only [beq_eq_false_iff_ne.2 hut, beq_eq_false_iff_ne.2 hne, cond_false]
        rw [ih (fun x hx => hl x (by simp [hx])) ((List.mem_cons.1 h).resolve_left fun e => hut e.symm)]
  exact key T (fun _ h => h) ht
end Go.Proofs.Eng
