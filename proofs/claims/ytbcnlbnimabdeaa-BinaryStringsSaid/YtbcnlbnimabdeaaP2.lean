/- P2: what functions of the program return. No conditions beyond those in the theorems. -/
import Derived.Test.YtbcnlbnimabdeaaN1
set_option linter.all false
set_option linter.deprecated false
set_option linter.unnecessarySimpa false
set_option linter.unusedVariables false
set_option linter.unusedSimpArgs false
set_option linter.defProp false
namespace Go.Proofs.Eng
open Go Go.Proofs
abbrev M64 : Nat := 18446744073709551616
def fstep (h : Nat) (c : UInt8) : Nat := ((h ^^^ c.toNat) * 1099511628211) % M64
def fnv (s : List UInt8) (h : Nat) : Nat := s.foldl fstep h
/-- The bytes of a sum. -/
def sum8 (h : Nat) : List UInt8 := [UInt8.ofNat (h / 72057594037927936 % 256), UInt8.ofNat (h / 281474976710656 % 256), UInt8.ofNat (h / 1099511627776 % 256), UInt8.ofNat (h / 4294967296 % 256), UInt8.ofNat (h / 16777216 % 256), UInt8.ofNat (h / 65536 % 256), UInt8.ofNat (h / 256 % 256), UInt8.ofNat (h % 256)]
def sumL (s : List UInt8) : List UInt8 := sum8 (fnv s 14695981039346656037)
theorem fstep_lt (h : Nat) (c : UInt8) : fstep h c < M64 := by unfold fstep; exact Nat.mod_lt _ (by decide)
theorem fnv_nil (h : Nat) : fnv [] h = h := by simp only [fnv, List.foldl_nil]
theorem fnv_cons (c : UInt8) (s : List UInt8) (h : Nat) : fnv (c :: s) h = fnv s (fstep h c) := by simp only [fnv, List.foldl_cons]
theorem fnv_app (a b : List UInt8) (h : Nat) : fnv (a ++ b) h = fnv b (fnv a h) := by simp only [fnv, List.foldl_append]
theorem mul_inj {a b : Nat} (ha : a < M64) (hb : b < M64) (h : (a * 1099511628211) % M64 = (b * 1099511628211) % M64) : a = b := by
  have key : ∀ x : Nat, x < M64 → (x * 1099511628211 % M64) * 14886173955864302971 % M64 = x := by
    intro x hx
    rw [Nat.mod_mul_mod, Nat.mul_assoc, show 1099511628211 * 14886173955864302971 = M64 * (1099511628211 * 14886173955864302971 / M64) + 1 from by decide, Nat.mul_add, Nat.mul_one, Nat.mul_left_comm, Nat.mul_add_mod, Nat.mod_eq_of_lt hx]
  rw [← key a ha, ← key b hb, h]
theorem xor_lt {a b : Nat} (ha : a < M64) (hb : b < M64) : a ^^^ b < M64 := Nat.xor_lt_two_pow (n := 64) ha hb
theorem u8_lt (c : UInt8) : c.toNat < M64 := by have := c.toNat_lt; unfold M64; omega
theorem fstep_inj {h h' : Nat} {c c' : UInt8} (hh : h < M64) (hh' : h' < M64) (e : fstep h c = fstep h' c') : h ^^^ c.toNat = h' ^^^ c'.toNat := by
  unfold fstep at e
  exact mul_inj (xor_lt hh (u8_lt c)) (xor_lt hh' (u8_lt c')) e
theorem xor_right {a b c : Nat} (h : a ^^^ c = b ^^^ c) : a = b := by
  have := congrArg (· ^^^ c) h
  simpa [Nat.xor_assoc] using this
theorem xor_left {a b c : Nat} (h : c ^^^ a = c ^^^ b) : a = b := by
  rw [Nat.xor_comm c a, Nat.xor_comm c b] at h
  exact xor_right h
theorem fnv_inj (s : List UInt8) : ∀ {h h' : Nat}, h < M64 → h' < M64 → fnv s h = fnv s h' → h = h' := by
  induction s with
  | nil => intro h h' _ _ e; rw [fnv_nil, fnv_nil] at e; exact e
  | cons c s ih =>
    intro h h' l l' e
    rw [fnv_cons, fnv_cons] at e
    have e2 := ih (fstep_lt h c) (fstep_lt h' c) e
    exact xor_right (fstep_inj l l' e2)
theorem fnv_lt (s : List UInt8) : ∀ {h : Nat}, h < M64 → fnv s h < M64 := by
  induction s with
  | nil => intro h l; rw [fnv_nil]; exact l
  | cons c s ih => intro h l; rw [fnv_cons]; exact ih (fstep_lt h c)
theorem fnv_change {a b : List UInt8} {x y : UInt8} {h : Nat} (l : h < M64) (hxy : x ≠ y) : fnv (a ++ x :: b) h ≠ fnv (a ++ y :: b) h := by
  intro e
  rw [fnv_app, fnv_app, fnv_cons, fnv_cons] at e
  have hl := fnv_lt a l
  have e2 := fnv_inj b (fstep_lt _ _) (fstep_lt _ _) e
  have e3 := xor_left (fstep_inj hl hl e2)
  exact hxy (UInt8.toNat_inj.1 e3)
theorem of_inj {a b : Nat} (ha : a < 256) (hb : b < 256) (h : UInt8.ofNat a = UInt8.ofNat b) : a = b := by
  have := congrArg UInt8.toNat h
  simpa [UInt8.toNat_ofNat', Nat.mod_eq_of_lt ha, Nat.mod_eq_of_lt hb] using this
theorem sum8_inj {h h' : Nat} (l : h < M64) (l' : h' < M64) (e : sum8 h = sum8 h') : h = h' := by
  simp only [sum8, List.cons.injEq, and_true] at e
  obtain ⟨e0, e1, e2, e3, e4, e5, e6, e7⟩ := e
  have f0 := of_inj (Nat.mod_lt _ (by decide)) (Nat.mod_lt _ (by decide)) e0
  have f1 := of_inj (Nat.mod_lt _ (by decide)) (Nat.mod_lt _ (by decide)) e1
  have f2 := of_inj (Nat.mod_lt _ (by decide)) (Nat.mod_lt _ (by decide)) e2
  have f3 := of_inj (Nat.mod_lt _ (by decide)) (Nat.mod_lt _ (by decide)) e3
  have f4 := of_inj (Nat.mod_lt _ (by decide)) (Nat.mod_lt _ (by decide)) e4
  have f5 := of_inj (Nat.mod_lt _ (by decide)) (Nat.mod_lt _ (by decide)) e5
  have f6 := of_inj (Nat.mod_lt _ (by decide)) (Nat.mod_lt _ (by decide)) e6
  have f7 := of_inj (Nat.mod_lt _ (by decide)) (Nat.mod_lt _ (by decide)) e7
  clear e0 e1 e2 e3 e4 e5 e6 e7
  unfold M64 at l l'
  have step : ∀ (x y : Nat), x / 256 = y / 256 → x % 256 = y % 256 → x = y := by intro x y; omega
  have d : ∀ (x k : Nat), x / k / 256 = x / (k * 256) := fun x k => Nat.div_div_eq_div_mul x k 256
  refine step _ _ ?_ f7
  refine step _ _ ?_ f6
  rw [d, d]
  refine step _ _ ?_ f5
  rw [d, d]
  refine step _ _ ?_ f4
  rw [d, d]
  refine step _ _ ?_ f3
  rw [d, d]
  refine step _ _ ?_ f2
  rw [d, d]
  refine step _ _ ?_ f1
  rw [d, d]
  refine step _ _ ?_ f0
  omega
theorem sum_change {a b : List UInt8} {x y : UInt8} (hxy : x ≠ y) : sumL (a ++ x :: b) ≠ sumL (a ++ y :: b) := fun e =>
  fnv_change (by decide) hxy (sum8_inj (fnv_lt _ (by decide)) (fnv_lt _ (by decide)) e)
theorem sum_len (s : List UInt8) : (sumL s).length = 8 := rfl
end Go.Proofs.Eng
