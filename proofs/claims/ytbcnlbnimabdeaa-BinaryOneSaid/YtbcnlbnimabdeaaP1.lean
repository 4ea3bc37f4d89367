/- P1: what functions of the program return. No conditions beyond those in the theorems. -/
import Derived.Test.YtbcnlbnimabdeaaN1
set_option linter.all false
set_option linter.deprecated false
set_option linter.unnecessarySimpa false
set_option linter.unusedVariables false
set_option linter.unusedSimpArgs false
set_option linter.defProp false
namespace Go.Proofs.Eng
open Go Go.Proofs
/-- The greatest number. -/
abbrev mostN : Nat := 2147483647
/-- The encoding of a number. -/
def encN (n : Nat) : List UInt8 := if n < 128 then [UInt8.ofNat n] else UInt8.ofNat (n % 128 + 128) :: encN (n / 128)
termination_by n
decreasing_by omega
theorem encN_lt {n : Nat} (h : n < 128) : encN n = [UInt8.ofNat n] := by rw [encN, if_pos h]
theorem encN_ge {n : Nat} (h : 128 ≤ n) : encN n = UInt8.ofNat (n % 128 + 128) :: encN (n / 128) := by rw [encN, if_neg (by omega)]
theorem u8_nat {n : Nat} (h : n < 256) : (UInt8.ofNat n).toNat = n := by simp [UInt8.toNat_ofNat']; omega
/-- Reading a number: rounds left, rounds done, what has been read, the bytes; how many bytes were read. -/
def rdN : Nat → Nat → Nat → List UInt8 → Option (Nat × Nat)
  | 0, _, _, _ => none
  | _ + 1, _, _, [] => none
  | r + 1, i, n, b :: s =>
    if b.toNat < 128 then (if b.toNat = 0 ∧ 0 < i ∨ n + b.toNat % 128 * 128 ^ i > mostN then none else some (n + b.toNat % 128 * 128 ^ i, 1))
    else (rdN r (i + 1) (n + b.toNat % 128 * 128 ^ i) s).map fun x => (x.1, x.2 + 1)
def getN (s : List UInt8) : Option (Nat × Nat) := rdN 5 0 0 s
theorem encN_pos (n : Nat) : 0 < (encN n).length := by
  rw [encN]; split <;> simp
/-- What is read is the encoding of the number. -/
theorem rdN_one : ∀ (r i acc : Nat) (s : List UInt8) {n k : Nat}, rdN r i acc s = some (n, k) → ∃ m, n = acc + m * 128 ^ i ∧ n ≤ mostN ∧ (m ≠ 0 ∨ i = 0) ∧ k ≤ s.length ∧ s.take k = encN m
  | 0, _, _, _, _, _, h => by simp [rdN] at h
  | _ + 1, _, _, [], _, _, h => by simp [rdN] at h
  | r + 1, i, acc, b :: s, n, k, h => by
    simp only [rdN] at h
    have hb := b.toNat_lt
    by_cases hlt : b.toNat < 128
    · rw [if_pos hlt] at h
      split at h
      · cases h
      · rename_i hc
        cases h
        rw [Nat.mod_eq_of_lt hlt] at hc ⊢
        refine ⟨b.toNat, rfl, by omega, by omega, by simp, ?_⟩
        rw [encN_lt hlt]
        simp
    · rw [if_neg hlt] at h
      cases hr : rdN r (i + 1) (acc + b.toNat % 128 * 128 ^ i) s with
      | none => rw [hr] at h; cases h
      | some x =>
        obtain ⟨n', k'⟩ := x
        rw [hr] at h
        simp only [Option.map_some, Option.some.injEq, Prod.mk.injEq] at h
        obtain ⟨rfl, rfl⟩ := h
        obtain ⟨m, h1, h2, h3, h4, h5⟩ := rdN_one r (i + 1) _ s hr
        have hm : m ≠ 0 := by omega
        refine ⟨b.toNat % 128 + 128 * m, ?_, h2, .inl (by omega), by simpa using h4, ?_⟩
        · rw [h1, Nat.pow_succ, Nat.add_mul, Nat.add_assoc]
          congr 2
          simp only [Nat.mul_assoc, Nat.mul_comm, Nat.mul_left_comm]
        · rw [encN_ge (by omega), List.take_succ_cons, h5, show (b.toNat % 128 + 128 * m) % 128 + 128 = b.toNat from by omega, show (b.toNat % 128 + 128 * m) / 128 = m from by omega]
          simp
theorem getN_one {s : List UInt8} {n k : Nat} (h : getN s = some (n, k)) : n ≤ mostN ∧ k ≤ s.length ∧ s.take k = encN n := by
  obtain ⟨m, h1, h2, _, h4, h5⟩ := rdN_one _ _ _ _ h
  have : n = m := by simpa using h1
  subst this
  exact ⟨h2, h4, h5⟩
end Go.Proofs.Eng
