/- The reference combines two rows. No conditions beyond those in the theorems. -/
import Derived.Test.YtglembbmmnakaaaDoorF7
set_option linter.all false
set_option linter.deprecated false
set_option linter.unnecessarySimpa false
set_option linter.unusedVariables false
set_option linter.unusedSimpArgs false
set_option linter.defProp false
namespace Go.Proofs.Eng
open Go Go.Proofs
set_option maxRecDepth 100000
set_option maxHeartbeats 16000000
/-- Two rows, combined. -/
def cg (r s : Rw) (j : Nat) : Nat := Nat.gcd (r.A.getD j 0).natAbs (s.A.getD j 0).natAbs
def cp (r s : Rw) (j : Nat) : Int := ((s.A.getD j 0).natAbs : Int).tdiv (cg r s j)
def cq (r s : Rw) (j : Nat) : Int := ((r.A.getD j 0).natAbs : Int).tdiv (cg r s j)
def combX (r s : Rw) (j : Nat) : Rw := ⟨addM (cp r s j) (cq r s j) r.A s.A, addM (cp r s j) (cq r s j) r.F s.F⟩
def gcdX (x : Rw) : Nat := gcdL (x.A ++ x.F)
def divX (x : Rw) : Rw := if gcdX x > 1 then ⟨x.A.map (·.tdiv (gcdX x)), x.F.map (·.tdiv (gcdX x))⟩ else x
def bigA (n : Int) : Bool := decide ((n.natAbs : Int) > limB)
def bigF (n : Int) : Bool := decide (n > limB)
def longX (x : Rw) : Bool := x.A.any bigA || x.F.any bigF
/-- The factors of a combination. -/
structure CombOK (r s : Rw) (j : Nat) : Prop where
  ra : ∃ a : Nat, r.A[j]? = some (a : Int) ∧ 0 < a ∧ (a : Int) ≤ limB
  sa : ∃ b : Nat, s.A[j]? = some (-(b : Int)) ∧ 0 < b ∧ (b : Int) ≤ limB
theorem comb_pos {r s : Rw} {j : Nat} (h : CombOK r s j) : 0 < cg r s j ∧ 0 ≤ cp r s j ∧ cp r s j ≤ limB ∧ 0 ≤ cq r s j ∧ cq r s j ≤ limB := by
  obtain ⟨a, ha, ha0, hal⟩ := h.ra
  obtain ⟨b, hb, hb0, hbl⟩ := h.sa
  have e1 : (r.A.getD j 0).natAbs = a := by rw [List.getD_eq_getElem?_getD, ha]; simp
  have e2 : (s.A.getD j 0).natAbs = b := by rw [List.getD_eq_getElem?_getD, hb]; simp
  have hg : 0 < Nat.gcd a b := Nat.gcd_pos_of_pos_left _ ha0
  refine ⟨by rw [cg, e1, e2]; exact hg, ?_⟩
  unfold cp cq cg
  rw [e1, e2]
  have q1 : ((b : Int).tdiv (Nat.gcd a b : Nat)) = ((b / Nat.gcd a b : Nat) : Int) := rfl
  have q2 : ((a : Int).tdiv (Nat.gcd a b : Nat)) = ((a / Nat.gcd a b : Nat) : Int) := rfl
  rw [q1, q2]
  have u1 := Nat.div_le_self b (Nat.gcd a b)
  have u2 := Nat.div_le_self a (Nat.gcd a b)
  generalize b / Nat.gcd a b = u at *
  generalize a / Nat.gcd a b = v at *
  omega
theorem prod_bnd {p x : Int} (h0 : 0 ≤ p) (h1 : p ≤ limB) (h2 : -limB ≤ x) (h3 : x ≤ limB) : -1152921504606846976 ≤ p * x ∧ p * x ≤ 1152921504606846976 := by
  unfold limB at *
  have a1 := Int.mul_le_mul_of_nonneg_left h2 h0
  have a2 := Int.mul_le_mul_of_nonneg_left h3 h0
  rw [Int.mul_neg] at a1
  omega
theorem comb_in {r s : Rw} {j : Nat} (h : CombOK r s j) {x y : Int} (hx : -limB ≤ x ∧ x ≤ limB) (hy : -limB ≤ y ∧ y ≤ limB) : in64 (cp r s j * x) ∧ in64 (cq r s j * y) ∧ in64 (cp r s j * x + cq r s j * y) ∧ -9223372036854775807 ≤ cp r s j * x + cq r s j * y ∧ cp r s j * x + cq r s j * y ≤ 9223372036854775807 := by
  obtain ⟨_, p0, p1, q0, q1⟩ := comb_pos h
  have a1 := prod_bnd p0 p1 hx.1 hx.2
  have a2 := prod_bnd q0 q1 hy.1 hy.2
  unfold in64
  omega
theorem addM_mem {p q n : Int} {a b : List Int} (h : n ∈ addM p q a b) : ∃ x ∈ a, ∃ y ∈ b, n = p * x + q * y := by
  induction a generalizing b with
  | nil => simp [addM] at h
  | cons x a ih =>
    cases b with
    | nil => simp [addM] at h
    | cons y b =>
      simp only [addM, List.zipWith_cons_cons, List.mem_cons] at h
      rcases h with rfl | h
      · exact ⟨x, by simp, y, by simp, rfl⟩
      · obtain ⟨x', h1, y', h2, h3⟩ := ih h
        exact ⟨x', by simp [h1], y', by simp [h2], h3⟩
/-- What is so of a combination ahead of its division. -/
theorem combX_bnd {r s : Rw} {j w m : Nat} (h : CombOK r s j) (hr : RowE w m r) (hs : RowE w m s) : (combX r s j).A.length = w ∧ (combX r s j).F.length = m ∧ Bnd 9223372036854775807 (combX r s j).A ∧ Bnd 9223372036854775807 (combX r s j).F := by
  refine ⟨by show (addM _ _ _ _).length = _; rw [addM_len (by rw [hr.lA, hs.lA]), hr.lA], by show (addM _ _ _ _).length = _; rw [addM_len (by rw [hr.lF, hs.lF]), hr.lF], fun n hn => ?_, fun n hn => ?_⟩
  · obtain ⟨x, hx, y, hy, rfl⟩ := addM_mem hn
    exact (comb_in h (hr.bA x hx) (hs.bA y hy)).2.2.2
  · obtain ⟨x, hx, y, hy, rfl⟩ := addM_mem hn
    have h1 := hr.bF x hx
    have h2 := hs.bF y hy
    unfold limB at h1 h2
    exact (comb_in h (by unfold limB; omega) (by unfold limB; omega)).2.2.2
end Go.Proofs.Eng
