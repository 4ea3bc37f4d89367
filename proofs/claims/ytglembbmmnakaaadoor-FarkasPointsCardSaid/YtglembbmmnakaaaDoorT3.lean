/- What the elimination tells, as plain law: factors, points, solutions. No conditions beyond those in the theorems. -/
import Derived.Test.YtglembbmmnakaaaDoorT2
import Derived.Test.YtglembbmmnakaaaDoorF20
set_option linter.all false
set_option linter.deprecated false
set_option linter.unnecessarySimpa false
set_option linter.unusedVariables false
set_option linter.unusedSimpArgs false
set_option linter.defProp false
namespace Go.Proofs.Eng
open Go Go.Proofs
theorem iniL_E {rows : List (List Int)} {w : Nat} (hR : RightS rows w) : ∀ r ∈ iniL rows, RowE w rows.length r := iniP_E hR _ (Nat.le_refl _)
/-! ## Stages -/
theorem addR_cap {j : Nat} {r s : Rw} {acc l : List Rw} (h : addR j r s acc = .ok l) (ha : acc.length ≤ 500) : l.length ≤ 500 := by
  unfold addR at h
  split at h
  · cases h
  · split at h
    · cases h; exact ha
    · split at h
      · cases h; simp; omega
      · cases h
theorem crossI_cap {j : Nat} {r : Rw} : ∀ {ss acc l : List Rw}, crossI j r acc ss = .ok l → acc.length ≤ 500 → l.length ≤ 500
  | [], acc, l, h, ha => by rw [crossI] at h; cases h; exact ha
  | s :: ss, acc, l, h, ha => by
    rw [crossI] at h
    split at h
    · obtain ⟨m, h1, h2⟩ := bind_ok h
      exact crossI_cap h2 (addR_cap h1 ha)
    · exact crossI_cap h ha
theorem crossO_cap {j : Nat} {all : List Rw} : ∀ {rs acc l : List Rw}, crossO j all acc rs = .ok l → acc.length ≤ 500 → l.length ≤ 500
  | [], acc, l, h, ha => by rw [crossO] at h; cases h; exact ha
  | s :: ss, acc, l, h, ha => by
    rw [crossO] at h
    split at h
    · obtain ⟨m, h1, h2⟩ := bind_ok h
      exact crossO_cap h2 (crossI_cap h1 ha)
    · exact crossO_cap h ha
theorem keepZ_cap {j : Nat} : ∀ (l acc : List Rw), (keepZ j acc l).length ≤ acc.length + l.length
  | [], acc => by simp [keepZ]
  | r :: l, acc => by
    rw [keepZ]
    refine Nat.le_trans (keepZ_cap l _) ?_
    split
    · split <;> simp <;> omega
    · simp
theorem stageR_cap {j : Nat} {l l' : List Rw} (h : stageR j l = .ok l') (hl : l.length ≤ 500) : l'.length ≤ 500 := by
  have := keepZ_cap (j := j) l []
  exact crossO_cap h (by simp at this; omega)
/-- The stages of an elimination. -/
structure Chain (n m : Nat) (S : List (List Rw)) (l0 : List Rw) : Prop where
  len : S.length = n + 1
  st0 : S[0]? = some l0
  nxt : ∀ i, i < n → ∃ a b, S[i]? = some a ∧ S[i + 1]? = some b ∧ stageR i a = .ok b
  fin : ∃ z, S[n]? = some z ∧ z.find? badR = none
theorem elim_chain {n : Nat} {S : List (List Rw)} : ∀ {k : Nat} {l : List Rw} {ss : List (List Rw)}, k ≤ n → ss.length = n - k + 1 → ss[n - k]? = some l → elimR n k l ss = .sts S → S.length = n + 1 ∧ (∀ (i : Nat) (a : List Rw), ss[i]? = some a → S[i]? = some a) ∧ (∀ i : Nat, n - k ≤ i → i < n → ∃ a b, S[i]? = some a ∧ S[i + 1]? = some b ∧ stageR i a = .ok b) ∧ ∃ z, S[n]? = some z ∧ z.find? badR = none
  | 0, l, ss, hk, hlen, hl, h => by
    rw [elimR] at h
    split at h
    · cases h
    · rename_i hf
      cases h
      exact ⟨by omega, fun _ _ h => h, fun i h1 h2 => by omega, l, hl, hf⟩
  | k + 1, l, ss, hk, hlen, hl, h => by
    rw [elimR] at h
    split at h
    · cases h
    · split at h
      · cases h
      · rename_i l' hl'
        have hlast : (ss ++ [l'])[n - k]? = some l' := by
          rw [show n - k = ss.length by omega, List.getElem?_append_right (Nat.le_refl _), Nat.sub_self]; rfl
        obtain ⟨c1, c2, c3, c4⟩ := elim_chain (ss := ss ++ [l']) (by omega) (by simp; omega) hlast h
        have hold : ∀ i a, ss[i]? = some a → S[i]? = some a := fun i a ha => c2 i a (by
          rw [List.getElem?_append_left (List.getElem?_eq_some_iff.1 ha).1]; exact ha)
        refine ⟨c1, hold, fun i h1 h2 => ?_, c4⟩
        by_cases hi : i = n - (k + 1)
        · subst hi
          exact ⟨l, l', hold _ _ hl, c2 _ _ (by rw [show n - (k + 1) + 1 = n - k by omega]; exact hlast), hl'⟩
        · exact c3 i (by omega) h2
theorem elimA_chain {rows : List (List Int)} {n : Nat} {S : List (List Rw)} (hhd : (rows.headD []).length = n + 1) (h : elimA rows = .sts S) : Chain n rows.length S (iniL rows) := by
  rw [elimA, hhd] at h
  obtain ⟨c1, c2, c3, c4⟩ := elim_chain (k := n) (n := n) (Nat.le_refl _) (by simp) (by simp) h
  exact ⟨c1, c2 0 _ rfl, fun i hi => c3 i (by omega) hi, c4⟩
theorem Chain.at {n m : Nat} {S : List (List Rw)} {l0 : List Rw} (h : Chain n m S l0) (hE : ∀ r ∈ l0, RowE (n + 1) m r) (h0 : l0.length ≤ 500) : ∀ i, i ≤ n → ∃ a, S[i]? = some a ∧ (∀ r ∈ a, RowE (n + 1) m r) ∧ (∀ r ∈ a, ∀ k, k < i → gt0 r.A k = 0) ∧ a.length ≤ 500
  | 0, _ => ⟨l0, h.st0, hE, fun _ _ k hk => by omega, h0⟩
  | i + 1, hi => by
    obtain ⟨a, h1, h2, h3, h4⟩ := h.at hE h0 i (by omega)
    obtain ⟨a', b, c1, c2, c3⟩ := h.nxt i (by omega)
    rw [h1] at c1; cases c1
    exact ⟨b, c2, stageR_E c3 (by omega) h2, stage_zero c3 (by omega) h2 h3, stageR_cap c3 h4⟩
/-! ## The point -/
/-- A point with 1 behind it. -/
def pv (pt : List Int) (k : Nat) : Int := if k = pt.length then 1 else gt0 pt k
/-- The point, from the last variable on. -/
def pointL (S : List (List Rw)) : Nat → List Int → List Int × Bool × Int
  | 0, pt => (pt, true, 0)
  | j + 1, pt => match chooseR (S.getD j []) j pt with
    | none => ([], false, 0)
    | some x => if (x.natAbs : Int) > 16777216 then ([], false, 5) else pointL S j (pt.set j x)
/-- What Point tells. -/
def pointR (rows : List (List Int)) : List Int × Bool × Int :=
  if rightR rows ≠ 0 then ([], false, rightR rows) else match elimA rows with
    | .err e => ([], false, e)
    | .ref _ => ([], false, 0)
    | .sts S => pointL S ((rows.headD []).length - 1) (List.replicate ((rows.headD []).length - 1) 0)
end Go.Proofs.Eng
