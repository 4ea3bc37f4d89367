/- P1: what functions of the program return. No conditions beyond those in the theorems. -/
import Derived.Test.YtbcnlbnimabdeaaN1
set_option linter.all false
set_option linter.deprecated false
set_option linter.unnecessarySimpa false
set_option linter.unusedVariables false
set_option linter.unusedSimpArgs false
set_option linter.defProp false
namespace Go.Proofs.Eng
open Go Go.Proofs
/-- The greatest number. -/
abbrev mostN : Nat := 2147483647
/-- The encoding of a number. -/
def encN (n : Nat) : List UInt8 := if n < 128 then [UInt8.ofNat n] else UInt8.ofNat (n % 128 + 128) :: encN (n / 128)
termination_by n
decreasing_by omega
theorem encN_lt {n : Nat} (h : n < 128) : encN n = [UInt8.ofNat n] := by rw [encN, if_pos h]
theorem encN_ge {n : Nat} (h : 128 ≤ n) : encN n = UInt8.ofNat (n % 128 + 128) :: encN (n / 128) := by rw [encN, if_neg (by omega)]
theorem u8_nat {n : Nat} (h : n < 256) : (UInt8.ofNat n).toNat = n := by simp [UInt8.toNat_ofNat']; omega
/-- Reading a number: rounds left, rounds done, what has been read, the bytes; how many bytes were read. -/
def rdN : Nat → Nat → Nat → List UInt8 → Option (Nat × Nat)
  | 0, _, _, _ => none
  | _ + 1, _, _, [] => none
  | r + 1, i, n, b :: s =>
    if b.toNat < 128 then (if b.toNat = 0 ∧ 0 < i ∨ n + b.toNat % 128 * 128 ^ i > mostN then none else some (n + b.toNat % 128 * 128 ^ i, 1))
    else (rdN r (i + 1) (n + b.toNat % 128 * 128 ^ i) s).map fun x => (x.1, x.2 + 1)
def getN (s : List UInt8) : Option (Nat × Nat) := rdN 5 0 0 s
theorem rdN_enc : ∀ (r i acc m : Nat) (rest : List UInt8), acc + m * 128 ^ i ≤ mostN → m < 128 ^ r → (m ≠ 0 ∨ i = 0) → 0 < r → rdN r i acc (encN m ++ rest) = some (acc + m * 128 ^ i, (encN m).length)
  | 0, _, _, _, _, _, _, _, h => absurd h (by omega)
  | r + 1, i, acc, m, rest, h1, h2, h3, _ => by
    rcases Nat.lt_or_ge m 128 with hlt | hge
    · rw [encN_lt hlt]
      simp only [List.cons_append, List.nil_append, rdN, u8_nat (show m < 256 by omega)]
      rw [if_pos hlt, Nat.mod_eq_of_lt hlt, if_neg (by omega)]
      rfl
    · rw [encN_ge hge]
      have hb : (UInt8.ofNat (m % 128 + 128)).toNat = m % 128 + 128 := u8_nat (by omega)
      have hm : (m % 128 + 128) % 128 = m % 128 := by omega
      have hsum : acc + m % 128 * 128 ^ i + m / 128 * 128 ^ (i + 1) = acc + m * 128 ^ i := by
        have : m / 128 * 128 ^ (i + 1) = (128 * (m / 128)) * 128 ^ i := by rw [Nat.pow_succ]; simp only [Nat.mul_assoc, Nat.mul_comm, Nat.mul_left_comm]
        rw [this, Nat.add_assoc, ← Nat.add_mul, Nat.mod_add_div]
      have hr : 0 < r := by
        rcases Nat.eq_zero_or_pos r with h | h
        · subst h; simp at h2; omega
        · exact h
      have ih := rdN_enc r (i + 1) (acc + m % 128 * 128 ^ i) (m / 128) rest (by rw [hsum]; exact h1) (by rw [Nat.pow_succ] at h2; omega) (.inl (by omega)) hr
      simp only [List.cons_append, rdN, hb, hm]
      rw [if_neg (by omega), ih, hsum]
      rfl
theorem getN_enc {n : Nat} (h : n ≤ mostN) (rest : List UInt8) : getN (encN n ++ rest) = some (n, (encN n).length) := by
  have := rdN_enc 5 0 0 n rest (by simpa using h) (by have : n ≤ 2147483647 := h; omega) (.inr rfl) (by omega)
  simpa [getN] using this
theorem encN_pos (n : Nat) : 0 < (encN n).length := by
  rw [encN]; split <;> simp
end Go.Proofs.Eng
