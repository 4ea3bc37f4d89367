/- N1: what functions of the program return. No conditions beyond those in the theorems. -/
import Derived.Test.YtbcnlbnimabdeaaG5
set_option linter.all false
set_option linter.deprecated false
set_option linter.unnecessarySimpa false
set_option linter.unusedVariables false
set_option linter.unusedSimpArgs false
set_option linter.defProp false
namespace Go.Proofs.Eng
open Go Go.Proofs
theorem bv_nat (w n : Nat) : (BitVec.ofInt w (n : Int)).toNat = n % 2 ^ w := by
  rw [BitVec.ofInt_natCast, BitVec.toNat_ofNat]
theorem or_nat {w a b : Nat} (ha : a < 2 ^ w) (hb : b < 2 ^ w) : (BitVec.ofInt w (a : Int) ||| BitVec.ofInt w (b : Int)).toNat = a ||| b := by
  rw [BitVec.toNat_or, bv_nat, bv_nat, Nat.mod_eq_of_lt ha, Nat.mod_eq_of_lt hb]
theorem or_add {a c k : Nat} (h : a < 2 ^ k) : a ||| c * 2 ^ k = a + c * 2 ^ k := by
  rw [Nat.or_comm, Nat.mul_comm, ← Nat.two_pow_add_eq_or_of_lt h, Nat.add_comm]
end Go.Proofs.Eng
