/- P6: what functions of the program return. No conditions beyond those in the theorems. -/
import Derived.Test.YtbcnlbnimabdeaaP5
set_option linter.all false
set_option linter.deprecated false
set_option linter.unnecessarySimpa false
set_option linter.unusedVariables false
set_option linter.unusedSimpArgs false
set_option linter.defProp false
namespace Go.Proofs.Eng
open Go Go.Proofs
/-- Variables of a level: in range, in order. -/
def ascB : List (Int × Int) → Bool
  | [] => true
  | [_] => true
  | a :: b :: l => decide (a.1 < b.1) && ascB (b :: l)
def varB (v : Int × Int) : Bool := decide (-65536 ≤ v.1) && decide (v.1 < 8) && decide (0 ≤ v.2) && decide (v.2 ≤ 100)
def validB (l : Lv) : Bool := decide (0 ≤ l.c) && decide (l.c ≤ 100) && l.vs.all varB && ascB l.vs && (decide (l.c ≤ 0) || l.vs.all fun v => decide (v.2 < l.c))
/-- A node has the fields that its kind needs, and no others. -/
def Tm.right (t : Tm) : Bool :=
  t.ls.all validB && decide (kidsN t.k = t.kids.length) && (if t.k = 2 then decide (t.ls.length = 1) else if t.k = 3 then decide (t.ls.length ≤ 8) else decide (t.ls.length = 0)) && decide (t.n.size ≤ 65536) &&
  (if t.k = 0 ∨ t.k = 12 then decide (0 ≤ t.i) && decide (t.i ≤ 2147483647) && decide (t.n.size = 0) else decide (t.i = 0) && (decide (t.k = 3) || decide (t.n.size = 0)))
theorem valid_fine {l : Lv} (h : validB l = true) : l.fine ∧ l.c ≤ 100 ∧ ∀ v ∈ l.vs, v.1 < 8 ∧ v.2 ≤ 100 := by
  simp only [validB, varB, Bool.and_eq_true, decide_eq_true_eq, List.all_eq_true] at h
  obtain ⟨⟨⟨⟨h1, h2⟩, h3⟩, _⟩, _⟩ := h
  exact ⟨⟨h1, fun v hv => by have := h3 v hv; omega⟩, h2, fun v hv => by have := h3 v hv; omega⟩
theorem right_facts {t : Tm} (h : t.right = true) : t.fine ∧ (∀ l ∈ t.ls, validB l = true) ∧ t.ls.length ≤ 8 ∧ t.n.size ≤ 65536 ∧ t.i ≤ 2147483647 := by
  simp only [Tm.right, Bool.and_eq_true, List.all_eq_true, decide_eq_true_eq] at h
  obtain ⟨⟨⟨⟨h1, h2⟩, h3⟩, h4⟩, h5⟩ := h
  have h6 : t.ls.length ≤ 8 := by
    split at h3
    · simp at h3; omega
    split at h3
    · simpa using h3
    · simp at h3; simp [h3]
  refine ⟨⟨h2, fun l hl => (valid_fine (h1 l hl)).1, ⟨fun k => by rw [if_pos k] at h3; simpa using h3, fun k2 k3 => by rw [if_neg k2, if_neg k3] at h3; simpa using h3⟩, ⟨fun k => by rw [if_pos k] at h5; simp at h5; omega, fun k0 k12 => by rw [if_neg (by omega)] at h5; simp at h5; omega⟩, fun k3 => ?_⟩, h1, h6, h4, ?_⟩
  · split at h5
    · simp at h5; rw [h5.2]; rfl
    · simp at h5; rw [h5.2.resolve_left k3]; rfl
  · split at h5
    · simp at h5; omega
    · simp at h5; omega
/-! Reading. -/
theorem asc_len : ∀ (l : List (Int × Int)), ascB l = true → (∀ v ∈ l, v.1 < 8) → ∀ a ∈ l.head?, (l.length : Int) ≤ 8 - a.1
  | [], _, _, a, h => by simp at h
  | [x], _, h, a, ha => by simp at ha; subst ha; have := h x (by simp); simp; omega
  | x :: y :: l, h1, h, a, ha => by
    simp at ha; subst ha
    simp only [ascB, Bool.and_eq_true, decide_eq_true_eq] at h1
    have := asc_len (y :: l) h1.2 (fun v hv => h v (by simp [hv])) y (by simp)
    simp only [List.length_cons] at this ⊢
    omega
theorem valid_len {l : Lv} (h : validB l = true) : l.vs.length ≤ mostN := by
  have h2 := valid_fine h
  simp only [validB, Bool.and_eq_true] at h
  have h3 := asc_len l.vs h.1.2 fun v hv => (h2.2.2 v hv).1
  cases hv : l.vs with
  | nil => simp
  | cons v vs =>
    have := h3 v (by rw [hv]; simp)
    have := (h2.1.2 v (by rw [hv]; simp)).1
    rw [hv] at h3
    rw [← hv]
    unfold mostN; omega
mutual
def Tm.dp : Tm → Nat
  | .mk _ _ _ _ kids => tdpL kids + 1
def tdpL : List Tm → Nat
  | [] => 0
  | t :: l => max t.dp (tdpL l)
end
end Go.Proofs.Eng
