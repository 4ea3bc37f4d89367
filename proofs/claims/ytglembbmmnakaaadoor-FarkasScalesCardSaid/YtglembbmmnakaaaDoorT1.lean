/- The elimination as plain law: what is in a stage. No conditions beyond those in the theorems. -/
import Derived.Test.YtglembbmmnakaaaDoorF16
set_option linter.all false
set_option linter.deprecated false
set_option linter.unnecessarySimpa false
set_option linter.unusedVariables false
set_option linter.unusedSimpArgs false
set_option linter.defProp false
namespace Go.Proofs.Eng
open Go Go.Proofs
/-- A row that a stage makes. -/
def Made (j : Nat) (l : List Rw) (x : Rw) : Prop := (x ∈ l ∧ x.A.getD j 0 = 0) ∨ ∃ r ∈ l, ∃ s ∈ l, r.A.getD j 0 > 0 ∧ s.A.getD j 0 < 0 ∧ x = divX (combX r s j) ∧ longX x = false
theorem hasR_mem {l : List Rw} {A : List Int} : hasR l A = true ↔ ∃ x ∈ l, x.A = A := by
  unfold hasR; rw [List.any_eq_true]; simp
theorem bind_ok {a : Except Nat (List Rw)} {f : List Rw → Except Nat (List Rw)} {l : List Rw} (h : a.bind f = .ok l) : ∃ m, a = .ok m ∧ f m = .ok l := by
  cases a with
  | error e => cases h
  | ok m => exact ⟨m, rfl, h⟩
theorem addR_ok {j : Nat} {r s : Rw} {acc l : List Rw} (h : addR j r s acc = .ok l) : longX (divX (combX r s j)) = false ∧ (∃ x ∈ l, x.A = (divX (combX r s j)).A) ∧ (∀ x ∈ acc, x ∈ l) ∧ ∀ x ∈ l, x ∈ acc ∨ x = divX (combX r s j) := by
  unfold addR at h
  split at h
  · cases h
  · rename_i hl
    split at h
    · rename_i hh
      cases h
      exact ⟨by simpa using hl, hasR_mem.1 hh, fun _ h => h, fun _ h => .inl h⟩
    · split at h
      · cases h
        exact ⟨by simpa using hl, ⟨_, by simp, rfl⟩, fun x hx => by simp [hx], fun x hx => by simpa using hx⟩
      · cases h
theorem crossI_ok {j : Nat} {r : Rw} : ∀ {ss acc l : List Rw}, crossI j r acc ss = .ok l → (∀ x ∈ acc, x ∈ l) ∧ (∀ s ∈ ss, s.A.getD j 0 < 0 → longX (divX (combX r s j)) = false ∧ ∃ x ∈ l, x.A = (divX (combX r s j)).A) ∧ ∀ x ∈ l, x ∈ acc ∨ ∃ s ∈ ss, s.A.getD j 0 < 0 ∧ x = divX (combX r s j) ∧ longX x = false
  | [], acc, l, h => by
    rw [crossI] at h; cases h
    exact ⟨fun _ h => h, by simp, fun _ h => .inl h⟩
  | s :: ss, acc, l, h => by
    rw [crossI] at h
    split at h
    · rename_i hs
      obtain ⟨m, h1, h2⟩ := bind_ok h
      obtain ⟨a1, ⟨y, hy, hyA⟩, a3, a4⟩ := addR_ok h1
      obtain ⟨b1, b2, b3⟩ := crossI_ok h2
      refine ⟨fun x hx => b1 x (a3 x hx), fun t ht htn => ?_, fun x hx => ?_⟩
      · rcases List.mem_cons.1 ht with rfl | ht
        · exact ⟨a1, y, b1 y hy, hyA⟩
        · exact b2 t ht htn
      · rcases b3 x hx with h | ⟨t, ht, h⟩
        · rcases a4 x h with h | rfl
          · exact .inl h
          · exact .inr ⟨s, by simp, hs, rfl, a1⟩
        · exact .inr ⟨t, by simp [ht], h⟩
    · rename_i hs
      obtain ⟨b1, b2, b3⟩ := crossI_ok h
      refine ⟨b1, fun t ht htn => ?_, fun x hx => ?_⟩
      · rcases List.mem_cons.1 ht with rfl | ht
        · exact absurd htn hs
        · exact b2 t ht htn
      · rcases b3 x hx with h | ⟨t, ht, h⟩
        · exact .inl h
        · exact .inr ⟨t, by simp [ht], h⟩
theorem crossO_ok {j : Nat} {all : List Rw} : ∀ {rs acc l : List Rw}, crossO j all acc rs = .ok l → (∀ x ∈ acc, x ∈ l) ∧ (∀ r ∈ rs, r.A.getD j 0 > 0 → ∀ s ∈ all, s.A.getD j 0 < 0 → longX (divX (combX r s j)) = false ∧ ∃ x ∈ l, x.A = (divX (combX r s j)).A) ∧ ∀ x ∈ l, x ∈ acc ∨ ∃ r ∈ rs, ∃ s ∈ all, r.A.getD j 0 > 0 ∧ s.A.getD j 0 < 0 ∧ x = divX (combX r s j) ∧ longX x = false
  | [], acc, l, h => by
    rw [crossO] at h; cases h
    exact ⟨fun _ h => h, by simp, fun _ h => .inl h⟩
  | r :: rs, acc, l, h => by
    rw [crossO] at h
    split at h
    · rename_i hr
      obtain ⟨m, h1, h2⟩ := bind_ok h
      obtain ⟨a1, a2, a3⟩ := crossI_ok h1
      obtain ⟨b1, b2, b3⟩ := crossO_ok h2
      refine ⟨fun x hx => b1 x (a1 x hx), fun t ht htp s hs hsn => ?_, fun x hx => ?_⟩
      · rcases List.mem_cons.1 ht with rfl | ht
        · obtain ⟨c1, y, hy, c2⟩ := a2 s hs hsn
          exact ⟨c1, y, b1 y hy, c2⟩
        · exact b2 t ht htp s hs hsn
      · rcases b3 x hx with h | ⟨t, ht, h⟩
        · rcases a3 x h with h | ⟨s, hs, h⟩
          · exact .inl h
          · exact .inr ⟨r, by simp, s, hs, hr, h⟩
        · exact .inr ⟨t, by simp [ht], h⟩
    · rename_i hr
      obtain ⟨b1, b2, b3⟩ := crossO_ok h
      refine ⟨b1, fun t ht htp => ?_, fun x hx => ?_⟩
      · rcases List.mem_cons.1 ht with rfl | ht
        · exact absurd htp hr
        · exact b2 t ht htp
      · rcases b3 x hx with h | ⟨t, ht, h⟩
        · exact .inl h
        · exact .inr ⟨t, by simp [ht], h⟩
theorem keepZ_ok {j : Nat} : ∀ {l acc : List Rw}, (∀ x ∈ acc, x ∈ keepZ j acc l) ∧ (∀ r ∈ l, r.A.getD j 0 = 0 → ∃ x ∈ keepZ j acc l, x.A = r.A) ∧ ∀ x ∈ keepZ j acc l, x ∈ acc ∨ (x ∈ l ∧ x.A.getD j 0 = 0)
  | [], acc => ⟨fun _ h => h, by simp, fun _ h => .inl h⟩
  | r :: l, acc => by
    rw [keepZ]
    by_cases h0 : r.A.getD j 0 = 0
    · rw [if_pos h0]
      by_cases hh : hasR acc r.A = true
      · rw [if_pos hh]
        obtain ⟨b1, b2, b3⟩ := keepZ_ok (j := j) (l := l) (acc := acc)
        refine ⟨b1, fun t ht htz => ?_, fun x hx => ?_⟩
        · rcases List.mem_cons.1 ht with rfl | ht
          · obtain ⟨y, hy, e⟩ := hasR_mem.1 hh
            exact ⟨y, b1 y hy, e⟩
          · exact b2 t ht htz
        · rcases b3 x hx with h | ⟨h, h'⟩
          · exact .inl h
          · exact .inr ⟨by simp [h], h'⟩
      · rw [if_neg hh]
        obtain ⟨b1, b2, b3⟩ := keepZ_ok (j := j) (l := l) (acc := acc ++ [r])
        refine ⟨fun x hx => b1 x (by simp [hx]), fun t ht htz => ?_, fun x hx => ?_⟩
        · rcases List.mem_cons.1 ht with rfl | ht
          · exact ⟨t, b1 t (by simp), rfl⟩
          · exact b2 t ht htz
        · rcases b3 x hx with h | ⟨h, h'⟩
          · rcases List.mem_append.1 h with h | h
            · exact .inl h
            · rw [List.mem_singleton.1 h]; exact .inr ⟨by simp, h0⟩
          · exact .inr ⟨by simp [h], h'⟩
    · rw [if_neg h0]
      obtain ⟨b1, b2, b3⟩ := keepZ_ok (j := j) (l := l) (acc := acc)
      refine ⟨b1, fun t ht htz => ?_, fun x hx => ?_⟩
      · rcases List.mem_cons.1 ht with rfl | ht
        · exact absurd htz h0
        · exact b2 t ht htz
      · rcases b3 x hx with h | ⟨h, h'⟩
        · exact .inl h
        · exact .inr ⟨by simp [h], h'⟩
/-- What a stage holds. -/
theorem stageR_ok {j : Nat} {l l' : List Rw} (h : stageR j l = .ok l') : (∀ x ∈ l', Made j l x) ∧ (∀ r ∈ l, r.A.getD j 0 = 0 → ∃ x ∈ l', x.A = r.A) ∧ ∀ r ∈ l, r.A.getD j 0 > 0 → ∀ s ∈ l, s.A.getD j 0 < 0 → longX (divX (combX r s j)) = false ∧ ∃ x ∈ l', x.A = (divX (combX r s j)).A := by
  obtain ⟨a1, a2, a3⟩ := crossO_ok h
  obtain ⟨b1, b2, b3⟩ := keepZ_ok (j := j) (l := l) (acc := [])
  refine ⟨fun x hx => ?_, fun r hr h0 => ?_, a2⟩
  · rcases a3 x hx with h | h
    · rcases b3 x h with h | h
      · cases h
      · exact .inl h
    · exact .inr h
  · obtain ⟨x, hx, e⟩ := b2 r hr h0
    exact ⟨x, a1 x hx, e⟩
theorem stageR_E {j w m : Nat} {l l' : List Rw} (h : stageR j l = .ok l') (hj : j < w) (hE : ∀ r ∈ l, RowE w m r) : ∀ r ∈ l', RowE w m r := fun x hx => by
  rcases (stageR_ok h).1 x hx with ⟨h, _⟩ | ⟨r, hr, s, hs, h1, h2, rfl, h3⟩
  · exact hE x h
  · exact .comb (RowE.ok (hE r hr) (hE s hs) hj h1 h2) (hE r hr) (hE s hs) h3
theorem addR_err {j : Nat} {r s : Rw} {acc : List Rw} {e : Nat} (h : addR j r s acc = .error e) : e = 5 ∨ e = 6 := by
  unfold addR at h
  split at h
  · cases h; exact .inl rfl
  · split at h
    · cases h
    · split at h
      · cases h
      · cases h; exact .inr rfl
theorem bind_err {a : Except Nat (List Rw)} {f : List Rw → Except Nat (List Rw)} {e : Nat} (h : a.bind f = .error e) : a = .error e ∨ ∃ m, a = .ok m ∧ f m = .error e := by
  cases a with
  | error e => cases h; exact .inl rfl
  | ok m => exact .inr ⟨m, rfl, h⟩
theorem crossI_err {j : Nat} {r : Rw} {e : Nat} : ∀ {ss acc : List Rw}, crossI j r acc ss = .error e → e = 5 ∨ e = 6
  | [], acc, h => by rw [crossI] at h; cases h
  | s :: ss, acc, h => by
    rw [crossI] at h
    split at h
    · rcases bind_err h with h | ⟨m, _, h⟩
      · exact addR_err h
      · exact crossI_err h
    · exact crossI_err h
theorem crossO_err {j : Nat} {all : List Rw} {e : Nat} : ∀ {rs acc : List Rw}, crossO j all acc rs = .error e → e = 5 ∨ e = 6
  | [], acc, h => by rw [crossO] at h; cases h
  | s :: ss, acc, h => by
    rw [crossO] at h
    split at h
    · rcases bind_err h with h | ⟨m, _, h⟩
      · exact crossI_err h
      · exact crossO_err h
    · exact crossO_err h
theorem elimR_err {n e : Nat} : ∀ {k : Nat} {l : List Rw} {ss : List (List Rw)}, elimR n k l ss = .err e → e = 5 ∨ e = 6
  | 0, l, ss, h => by rw [elimR] at h; split at h <;> cases h
  | k + 1, l, ss, h => by
    rw [elimR] at h
    split at h
    · cases h
    · split at h
      · rename_i he; cases h; exact crossO_err he
      · exact elimR_err h
theorem elimR_len {n m e w : Nat} {F : List Int} (hw : n < w) : ∀ {k : Nat} {l : List Rw} {ss : List (List Rw)}, k ≤ n → (∀ r ∈ l, RowE w m r) → elimR n k l ss = .ref F → F.length = m
  | 0, l, ss, _, hE, h => by
    rw [elimR] at h
    split at h
    · rename_i r hr; cases h; exact (hE r (List.mem_of_find?_eq_some hr)).lF
    · cases h
  | k + 1, l, ss, hk, hE, h => by
    rw [elimR] at h
    split at h
    · rename_i r hr; cases h; exact (hE r (List.mem_of_find?_eq_some hr)).lF
    · split at h
      · cases h
      · rename_i l' hl
        exact elimR_len (e := e) hw (by omega) (stageR_E hl (by omega) hE) h
theorem elimA_len {rows : List (List Int)} {w : Nat} {F : List Int} (hR : RightS rows w) (hhd : (rows.headD []).length = w) (hw : 0 < w) (h : elimA rows = .ref F) : F.length = rows.length :=
  elimR_len (e := 0) (w := w) (by omega) (Nat.le_refl _) (iniP_E hR _ (Nat.le_refl _)) h
end Go.Proofs.Eng
