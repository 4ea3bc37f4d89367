/- The program's Check. No conditions beyond those in the theorems. -/
import Derived.Test.YtglembbmmnakaaaDoorF5
set_option linter.all false
set_option linter.deprecated false
set_option linter.unnecessarySimpa false
set_option linter.unusedVariables false
set_option linter.unusedSimpArgs false
set_option linter.defProp false
namespace Go.Proofs.Eng
open Go Go.Proofs
set_option maxRecDepth 100000
set_option maxHeartbeats 16000000
/-- A list that has been turned up to a place. -/
def mid (k : Nat) (a b : List Int) : List Int := a.take k ++ b.drop k
theorem mid_len {k : Nat} {a b : List Int} (h : a.length = b.length) : (mid k a b).length = b.length := by simp only [mid, List.length_append, List.length_take, List.length_drop]; omega
theorem mid_get {k : Nat} {a b : List Int} (h : a.length = b.length) (hk : k < b.length) : (mid k a b)[k]? = b[k]? := by
  unfold mid
  rw [List.getElem?_append_right (by rw [List.length_take]; omega), List.length_take, Nat.min_eq_left (by omega), Nat.sub_self, List.getElem?_drop, Nat.add_zero]
theorem mid_set {k : Nat} {a b : List Int} {v : Int} (h : a.length = b.length) (hk : k < b.length) (hv : a[k]? = some v) : (mid k a b).take k ++ v :: (mid k a b).drop (k + 1) = mid (k + 1) a b := by
  unfold mid
  have h1 : (a.take k).length = k := by rw [List.length_take]; omega
  rw [List.take_append_of_le_length (by omega), List.take_of_length_le (by omega), List.drop_append, List.drop_of_length_le (by omega), h1, List.nil_append, List.drop_drop, List.take_add_one, hv]
  simp only [Option.toList_some, List.append_assoc, List.singleton_append]
  rw [show k + (k + 1 - k) = k + 1 by omega]
theorem mid_full {a b : List Int} (h : a.length = b.length) : mid b.length a b = a := by unfold mid; rw [← h, List.take_length, h, List.drop_length, List.append_nil]
theorem drop_get {l : List Int} {k : Nat} {n : Int} (h : l[k]? = some n) : (ints l).drop k = .int n :: (ints l).drop (k + 1) := by
  have hk := (List.getElem?_eq_some_iff.1 h).1
  rw [List.drop_eq_getElem_cons (by rw [ints_len]; exact hk)]
  congr 1
  have := (List.getElem?_eq_some_iff.1 h).2
  simp [ints, this]
theorem gcdF_0 : ∀ {l : List Int} {g : Nat}, gcdF g l = 0 ↔ g = 0 ∧ ∀ n ∈ l, n = 0
  | [], g => by simp [gcdF]
  | n :: l, g => by
    rw [gcdF, gcdF_0 (l := l), Nat.gcd_eq_zero_iff]
    simp only [List.mem_cons, forall_eq_or_imp]
    constructor
    · rintro ⟨⟨h1, h2⟩, h3⟩; exact ⟨h1, by omega, h3⟩
    · rintro ⟨h1, h2, h3⟩; exact ⟨⟨h1, by omega⟩, h3⟩
theorem gcdL_0 {l : List Int} : gcdL l = 0 ↔ ∀ n ∈ l, n = 0 := by unfold gcdL; rw [gcdF_0]; simp
theorem check_all {l : List Int} : (((gcdL l : Nat) : Int) == 0) = l.all fun n => decide (n = 0) := by
  rw [Bool.eq_iff_iff, beq_iff_eq, List.all_eq_true]
  simp only [decide_eq_true_eq]
  rw [← gcdL_0]; omega
end Go.Proofs.Eng
