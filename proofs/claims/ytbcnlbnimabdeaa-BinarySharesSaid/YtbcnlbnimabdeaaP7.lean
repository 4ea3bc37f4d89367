/- P7: what functions of the program return. No conditions beyond those in the theorems. -/
import Derived.Test.YtbcnlbnimabdeaaP6
set_option linter.all false
set_option linter.deprecated false
set_option linter.unnecessarySimpa false
set_option linter.unusedVariables false
set_option linter.unusedSimpArgs false
set_option linter.defProp false
namespace Go.Proofs.Eng
open Go Go.Proofs
theorem Good.cut {T m : List Tm} (h : Good (T ++ m)) : Good T := by
  generalize hU : T ++ m = U at h
  induction h generalizing m with
  | nil => simp at hU; rw [hU.1]; exact .nil
  | @add T' t h hn hf hk ih =>
    rcases List.eq_nil_or_concat m with rfl | ⟨m', x, rfl⟩
    · rw [List.append_nil] at hU; subst hU; exact .add h hn hf hk
    · rw [List.concat_eq_append, ← List.append_assoc] at hU
      exact ih (List.append_inj_left' hU rfl)
theorem Good.next {T m : List Tm} {t : Tm} (h : Good (T ++ t :: m)) : ∀ x ∈ t.kids, x ∈ T := by
  have h2 : Good (T ++ [t]) := by
    rw [show T ++ t :: m = (T ++ [t]) ++ m from by simp] at h
    exact h.cut
  generalize hU : T ++ [t] = U at h2
  cases h2 with
  | nil => simp at hU
  | add h hn hf hk =>
    have := List.append_inj_left' hU rfl
    have h3 := List.append_inj_right' hU rfl
    simp at h3; subst h3
    rw [this]; exact hk
theorem dp_sz (t : Tm) : t.dp ≤ t.sz := by
  induction t using Tm.ind with
  | h k i n ls kids ih =>
    have key : ∀ l : List Tm, (∀ x ∈ l, x ∈ kids) → tdpL l ≤ tszL l := by
      intro l
      induction l with
      | nil => intro _; simp [tdpL]
      | cons x l ihl =>
        intro h
        have h1 := ih x (h x (by simp))
        have h2 := ihl fun y hy => h y (by simp [hy])
        simp only [tdpL, tszL]; omega
    have := key kids fun _ h => h
    rw [Tm.dp, Tm.sz]; omega
/-- The number of entries is the number of different subterms. -/
theorem nodup_len {α : Type} [DecidableEq α] : ∀ {l m : List α}, l.Nodup → (∀ x ∈ l, x ∈ m) → l.length ≤ m.length
  | [], _, _, _ => by simp
  | x :: l, m, h, hs => by
    have h1 := List.nodup_cons.1 h
    have h2 : ∀ y ∈ l, y ∈ m.erase x := fun y hy => (List.mem_erase_of_ne (by rintro rfl; exact h1.1 hy)).2 (hs y (by simp [hy]))
    have := nodup_len h1.2 h2
    have hx := hs x (by simp)
    rw [List.length_erase_of_mem hx] at this
    have := List.length_pos_of_mem hx
    simp only [List.length_cons]
    omega
theorem nodup_eq {α : Type} [DecidableEq α] {l m : List α} (hl : l.Nodup) (hm : m.Nodup) (h : ∀ x, x ∈ l ↔ x ∈ m) : l.length = m.length :=
  Nat.le_antisymm (nodup_len hl fun x => (h x).1) (nodup_len hm fun x => (h x).2)
end Go.Proofs.Eng
