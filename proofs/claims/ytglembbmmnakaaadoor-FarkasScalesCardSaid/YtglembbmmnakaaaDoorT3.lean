/- What the elimination tells, as plain law: factors, points, solutions. No conditions beyond those in the theorems. -/
import Derived.Test.YtglembbmmnakaaaDoorT2
import Derived.Test.YtglembbmmnakaaaDoorF20
set_option linter.all false
set_option linter.deprecated false
set_option linter.unnecessarySimpa false
set_option linter.unusedVariables false
set_option linter.unusedSimpArgs false
set_option linter.defProp false
namespace Go.Proofs.Eng
open Go Go.Proofs
/-- A system's rows and a point. -/
def SatL (w : Nat) (rows : List (List Int)) (v : Nat → Int) : Prop := ∀ r ∈ rows, sg (gt0 r) v w ≤ 0
theorem iniP_A {rows : List (List Int)} {n : Nat} : ∀ k, k ≤ rows.length → (iniP rows n k).map Rw.A = rows.take k
  | 0, _ => by simp [iniP]
  | k + 1, h => by
    rw [iniP, List.map_append, iniP_A k (by omega), List.take_add_one, List.getElem?_eq_getElem (by omega)]
    simp [List.getD_eq_getElem?_getD, List.getElem?_eq_getElem (show k < rows.length by omega)]
theorem iniL_A (rows : List (List Int)) : (iniL rows).map Rw.A = rows := by
  rw [iniL, iniP_A _ (Nat.le_refl _), List.take_length]
theorem sat_ini {w : Nat} {rows : List (List Int)} {v : Nat → Int} : Sat w (iniL rows) v ↔ SatL w rows v := by
  have h := iniL_A rows
  constructor
  · intro hs r hr
    rw [← h] at hr
    obtain ⟨x, hx, rfl⟩ := List.mem_map.1 hr
    exact hs x hx
  · intro hs x hx
    exact hs x.A (by rw [← h]; exact List.mem_map.2 ⟨x, hx, rfl⟩)
theorem iniL_E {rows : List (List Int)} {w : Nat} (hR : RightS rows w) : ∀ r ∈ iniL rows, RowE w rows.length r := iniP_E hR _ (Nat.le_refl _)
/-- A system is refuted only if it has no solution. -/
theorem elimA_sound {rows : List (List Int)} {n : Nat} {F : List Int} (hR : RightS rows (n + 1)) (hhd : (rows.headD []).length = n + 1) (h : elimA rows = .ref F) {v : Nat → Int} (hv : 0 < v n) : ¬ SatL (n + 1) rows v := by
  rw [elimA, hhd] at h
  intro hs
  exact elim_sound hv (Nat.le_refl _) (iniL_E hR) h (sat_ini.2 hs)
/-- A system that is not refuted has a solution. -/
theorem elimA_complete {rows : List (List Int)} {n : Nat} {S : List (List Rw)} (hR : RightS rows (n + 1)) (hhd : (rows.headD []).length = n + 1) (h : elimA rows = .sts S) : ∃ v : Nat → Int, 0 < v n ∧ SatL (n + 1) rows v := by
  rw [elimA, hhd] at h
  obtain ⟨v, h1, h2⟩ := elim_complete (k := n) (Nat.le_refl _) (iniL_E hR) (fun r _ i hi => by omega) h
  exact ⟨v, h2, sat_ini.1 h1⟩
/-! ## Stages -/
theorem addR_cap {j : Nat} {r s : Rw} {acc l : List Rw} (h : addR j r s acc = .ok l) (ha : acc.length ≤ 500) : l.length ≤ 500 := by
  unfold addR at h
  split at h
  · cases h
  · split at h
    · cases h; exact ha
    · split at h
      · cases h; simp; omega
      · cases h
theorem crossI_cap {j : Nat} {r : Rw} : ∀ {ss acc l : List Rw}, crossI j r acc ss = .ok l → acc.length ≤ 500 → l.length ≤ 500
  | [], acc, l, h, ha => by rw [crossI] at h; cases h; exact ha
  | s :: ss, acc, l, h, ha => by
    rw [crossI] at h
    split at h
    · obtain ⟨m, h1, h2⟩ := bind_ok h
      exact crossI_cap h2 (addR_cap h1 ha)
    · exact crossI_cap h ha
theorem crossO_cap {j : Nat} {all : List Rw} : ∀ {rs acc l : List Rw}, crossO j all acc rs = .ok l → acc.length ≤ 500 → l.length ≤ 500
  | [], acc, l, h, ha => by rw [crossO] at h; cases h; exact ha
  | s :: ss, acc, l, h, ha => by
    rw [crossO] at h
    split at h
    · obtain ⟨m, h1, h2⟩ := bind_ok h
      exact crossO_cap h2 (crossI_cap h1 ha)
    · exact crossO_cap h ha
theorem keepZ_cap {j : Nat} : ∀ (l acc : List Rw), (keepZ j acc l).length ≤ acc.length + l.length
  | [], acc => by simp [keepZ]
  | r :: l, acc => by
    rw [keepZ]
    refine Nat.le_trans (keepZ_cap l _) ?_
    split
    · split <;> simp <;> omega
    · simp
theorem stageR_cap {j : Nat} {l l' : List Rw} (h : stageR j l = .ok l') (hl : l.length ≤ 500) : l'.length ≤ 500 := by
  have := keepZ_cap (j := j) l []
  exact crossO_cap h (by simp at this; omega)
/-- The stages of an elimination. -/
structure Chain (n m : Nat) (S : List (List Rw)) (l0 : List Rw) : Prop where
  len : S.length = n + 1
  st0 : S[0]? = some l0
  nxt : ∀ i, i < n → ∃ a b, S[i]? = some a ∧ S[i + 1]? = some b ∧ stageR i a = .ok b
  fin : ∃ z, S[n]? = some z ∧ z.find? badR = none
theorem Chain.at {n m : Nat} {S : List (List Rw)} {l0 : List Rw} (h : Chain n m S l0) (hE : ∀ r ∈ l0, RowE (n + 1) m r) (h0 : l0.length ≤ 500) : ∀ i, i ≤ n → ∃ a, S[i]? = some a ∧ (∀ r ∈ a, RowE (n + 1) m r) ∧ (∀ r ∈ a, ∀ k, k < i → gt0 r.A k = 0) ∧ a.length ≤ 500
  | 0, _ => ⟨l0, h.st0, hE, fun _ _ k hk => by omega, h0⟩
  | i + 1, hi => by
    obtain ⟨a, h1, h2, h3, h4⟩ := h.at hE h0 i (by omega)
    obtain ⟨a', b, c1, c2, c3⟩ := h.nxt i (by omega)
    rw [h1] at c1; cases c1
    exact ⟨b, c2, stageR_E c3 (by omega) h2, stage_zero c3 (by omega) h2 h3, stageR_cap c3 h4⟩
/-! ## The point -/
/-- A point with 1 behind it. -/
def pv (pt : List Int) (k : Nat) : Int := if k = pt.length then 1 else gt0 pt k
end Go.Proofs.Eng
