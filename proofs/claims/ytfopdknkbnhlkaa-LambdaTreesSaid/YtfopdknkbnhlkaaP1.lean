/- P1: what functions of the program return. No conditions beyond those in the theorems. -/
import Derived.Test.YtfopdknkbnhlkaaA8
import Derived.Test.YtfopdknkbnhlkaaA3
set_option linter.all false
set_option linter.deprecated false
set_option linter.unnecessarySimpa false
set_option linter.unusedVariables false
set_option linter.unusedSimpArgs false
set_option linter.defProp false
namespace Go.Proofs.Eng
open Go Go.Proofs
/-- What a well-formed node has. -/
theorem fm_facts {k i : Int} {n : ByteArray} {s : List Int} {l : Nat} (h : fmB k i n s l = true) :
    0 ≤ k ∧ k < 12 ∧ 0 ≤ i ∧ s.length ≤ 32 ∧ l ≤ 4096 ∧ (∀ x ∈ s, 0 ≤ x ∧ x ≤ 64) ∧
    (k = 0 → l = 0 ∧ s = [] ∧ n.size = 0) ∧ (k = 4 → l = s.length + 1) ∧ ((k = 2 ∨ k = 7 ∨ k = 8) → l = 2) ∧ ((k = 1 ∨ k = 9 ∨ k = 10) → l = 1) ∧ (k = 3 → i < 32) := by
  simp only [fmB, Bool.and_eq_true, decide_eq_true_eq] at h
  obtain ⟨⟨⟨⟨⟨h0, h1⟩, h2⟩, h3⟩, h4⟩, h5⟩ := h
  unfold tabB at h5
  by_cases k3 : k = 3
  · rw [if_pos k3] at h5
    simp [ctorB] at h5
    obtain ⟨⟨rfl, h6⟩, h7⟩ := h5
    refine ⟨h0, h1, h2, by simp, by omega, by simp, ?_, ?_, ?_, ?_, ?_⟩ <;> (intro; omega)
  · rw [if_neg k3] at h5
    by_cases k4 : k = 4
    · rw [if_pos k4] at h5
      simp only [caseB, Bool.and_eq_true, decide_eq_true_eq, beq_iff_eq, Bool.not_eq_true', List.any_eq_false] at h5
      obtain ⟨⟨h6, h7⟩, h8⟩ := h5
      refine ⟨h0, h1, h2, h6, by omega, ?_, ?_, ?_, ?_, ?_, ?_⟩
      · intro x hx
        have := h8 x hx
        simp [badSize] at this
        omega
      all_goals (intro; omega)
    · rw [if_neg k4] at h5
      simp [kidsB] at h5
      obtain ⟨h6, rfl⟩ := h5
      have hk : kn k = (if k = 1 ∨ k = 9 ∨ k = 10 then 1 else if k = 2 ∨ k = 7 ∨ k = 8 then 2 else 0) := rfl
      have hl : l ≤ 4096 := by
        split at hk
        · omega
        · split at hk <;> omega
      refine ⟨h0, h1, h2, by simp, hl, by simp, ?_, ?_, ?_, ?_, ?_⟩
      · intro h
        refine ⟨?_, rfl, ?_⟩
        · rw [hk, if_neg (by omega), if_neg (by omega)] at h6; omega
        · subst h; simpa [namedB] using h3
      · intro; omega
      · intro h; rw [hk, if_neg (by omega), if_pos h] at h6; omega
      · intro h; rw [hk, if_pos h] at h6; omega
      · intro; omega
mutual
/-- All nodes are well-formed. -/
def Ex.wf : Ex → Prop
  | .mk k i n s kids => fmB k i n s kids.length = true ∧ wfL kids
def wfL : List Ex → Prop
  | [] => True
  | e :: es => e.wf ∧ wfL es
end
theorem wfL_iff : ∀ l : List Ex, wfL l ↔ ∀ e ∈ l, e.wf
  | [] => by simp [wfL]
  | e :: es => by simp [wfL, wfL_iff es]
theorem Ex.wf_iff {k i : Int} {n : ByteArray} {s : List Int} {kids : List Ex} : (Ex.mk k i n s kids).wf ↔ fmB k i n s kids.length = true ∧ ∀ e ∈ kids, e.wf := by
  rw [Ex.wf, wfL_iff]
mutual
def Ex.dep : Ex → Nat
  | .mk _ _ _ _ kids => depL kids + 1
def depL : List Ex → Nat
  | [] => 0
  | e :: es => max e.dep (depL es)
end
theorem dep_kid {l : List Ex} {e : Ex} (h : e ∈ l) : e.dep ≤ depL l := by
  induction l with
  | nil => simp at h
  | cons x l ih =>
    simp only [depL]
    rcases List.mem_cons.1 h with rfl | h
    · omega
    · have := ih h; omega
theorem slim_of (e : Ex) : e.wf → e.slim := by
  induction e using Ex.ind with
  | h k i n s kids ih =>
    intro h
    rw [Ex.wf_iff] at h
    rw [Ex.slim_iff]
    have := fm_facts h.1
    exact ⟨by unfold capB; omega, fun x hx => ih x hx (h.2 x hx)⟩
theorem under_range {k : Int} {s : List Int} (hs : ∀ x ∈ s, 0 ≤ x ∧ x ≤ 64) (j : Nat) : 0 ≤ under k s j ∧ under k s j ≤ 64 := by
  unfold under
  split
  · omega
  · split
    · split
      · have : s.getD (j - 1) 0 ∈ s ∨ s.getD (j - 1) 0 = 0 := by
          cases h : s[j - 1]? with
          | none => right; simp [List.getD, h]
          | some x => left; simp only [List.getD, h, Option.getD_some]; exact List.mem_of_getElem? h
        rcases this with h | h
        · exact hs _ h
        · omega
      · omega
    · omega
theorem fits_of (e : Ex) : ∀ {d : Int}, e.wf → 0 ≤ d → d + 64 * e.dep ≤ B62 → e.fits d := by
  induction e using Ex.ind with
  | h k i n s kids ih =>
    intro d h h0 h1
    rw [Ex.wf_iff] at h
    obtain ⟨f0, f1, f2, f3, f4, f5, _⟩ := fm_facts h.1
    simp only [Ex.dep] at h1
    simp only [Ex.fits]
    refine ⟨h0, by omega, .inr ?_⟩
    have key : ∀ (l : List Ex) (j : Nat), (∀ x ∈ l, x ∈ kids) → fitsL k s d j l := by
      intro l
      induction l with
      | nil => intro j _; simp [fitsL]
      | cons x l ihl =>
        intro j hl
        simp only [fitsL]
        refine ⟨?_, ihl (j + 1) fun y hy => hl y (by simp [hy])⟩
        have hx := hl x (by simp)
        have hr := under_range (k := k) f5 j
        have hd := dep_kid hx
        rw [show w64 (d + under k s j) = d + under k s j from wrap_in (by unfold in64; unfold B62 at h1; omega)]
        exact ih x hx (h.2 x hx) (by omega) (by omega)
    exact key kids 0 fun x hx => hx
end Go.Proofs.Eng
