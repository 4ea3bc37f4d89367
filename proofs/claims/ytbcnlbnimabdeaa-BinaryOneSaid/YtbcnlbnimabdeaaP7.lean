/- P7: what functions of the program return. No conditions beyond those in the theorems. -/
import Derived.Test.YtbcnlbnimabdeaaP6
set_option linter.all false
set_option linter.deprecated false
set_option linter.unnecessarySimpa false
set_option linter.unusedVariables false
set_option linter.unusedSimpArgs false
set_option linter.defProp false
namespace Go.Proofs.Eng
open Go Go.Proofs
/-- The entries of a table. -/
def rTab : Nat → List Tm → By → Option (List Tm × By)
  | 0, T, s => some (T, s)
  | n + 1, T, s => (rEntry T s).bind fun x => rTab n (T ++ [x.1]) x.2
def getT (s : By) : Option (List Tm × By) :=
  (rN s).bind fun n => (rTab n.1 [] n.2).bind fun T => (rN T.2).bind fun m => if m.1 > 65536 then none else rKids T.1 m.1 m.2
theorem Good.cut {T m : List Tm} (h : Good (T ++ m)) : Good T := by
  generalize hU : T ++ m = U at h
  induction h generalizing m with
  | nil => simp at hU; rw [hU.1]; exact .nil
  | @add T' t h hn hf hk ih =>
    rcases List.eq_nil_or_concat m with rfl | ⟨m', x, rfl⟩
    · rw [List.append_nil] at hU; subst hU; exact .add h hn hf hk
    · rw [List.concat_eq_append, ← List.append_assoc] at hU
      exact ih (List.append_inj_left' hU rfl)
/-- The number of entries is the number of different subterms. -/
theorem nodup_len {α : Type} [DecidableEq α] : ∀ {l m : List α}, l.Nodup → (∀ x ∈ l, x ∈ m) → l.length ≤ m.length
  | [], _, _, _ => by simp
  | x :: l, m, h, hs => by
    have h1 := List.nodup_cons.1 h
    have h2 : ∀ y ∈ l, y ∈ m.erase x := fun y hy => (List.mem_erase_of_ne (by rintro rfl; exact h1.1 hy)).2 (hs y (by simp [hy]))
    have := nodup_len h1.2 h2
    have hx := hs x (by simp)
    rw [List.length_erase_of_mem hx] at this
    have := List.length_pos_of_mem hx
    simp only [List.length_cons]
    omega
end Go.Proofs.Eng
