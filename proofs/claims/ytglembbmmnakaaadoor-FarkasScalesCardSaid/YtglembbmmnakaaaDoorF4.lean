/- Blocks of numbers; the reference's Check. No conditions beyond those in the theorems. -/
import Derived.Test.YtglembbmmnakaaaDoorF3
set_option linter.all false
set_option linter.deprecated false
set_option linter.unnecessarySimpa false
set_option linter.unusedVariables false
set_option linter.unusedSimpArgs false
set_option linter.defProp false
namespace Go.Proofs.Eng
open Go Go.Proofs
set_option maxRecDepth 100000
set_option maxHeartbeats 16000000
theorem chunk_ints : ∀ (l : List Int) (Z : List AV), chunk 1 false l.length (ints l ++ Z) = ints l
  | [], _ => rfl
  | n :: l, Z => by
    have := chunk_ints l Z
    simp only [ints, List.map_cons, List.cons_append, List.length_cons, chunk] at this ⊢
    simp [this]
theorem ints_one (l : List Int) : ((ints l).all AV.one) = true := by
  induction l with
  | nil => rfl
  | cons x l ih => simp only [ints] at ih ⊢; simp only [List.map_cons, List.all_cons, ih]; rfl
theorem ints_app (a b : List Int) : ints (a ++ b) = ints a ++ ints b := by simp [ints]
theorem ints_drop (n : Nat) (a : List Int) : (ints a).drop n = ints (a.drop n) := by simp [ints]
theorem ints_take (n : Nat) (a : List Int) : (ints a).take n = ints (a.take n) := by simp [ints]
theorem elems_ints {s : ASt} {i off len : Nat} {fz : Bool} {L : List Int} (hs : s.H[i]? = some (.cells fz (ints L))) (h : off + len ≤ L.length) : elemsA s (.bs i off len 1 false) = some (ints ((L.drop off).take len)) := by
  unfold elemsA
  simp only [hs, ints_len, Nat.mul_one, ints_drop, ints_take, ints_one, Bool.false_or, beq_self_eq_true, Bool.true_and, h, and_self, if_true, Option.some.injEq]
  have e : L.drop off = (L.drop off).take len ++ (L.drop off).drop len := (List.take_append_drop _ _).symm
  have hl : ((L.drop off).take len).length = len := by rw [List.length_take, List.length_drop]; omega
  have := chunk_ints ((L.drop off).take len) (ints ((L.drop off).drop len))
  rw [← ints_app, ← e, hl] at this
  exact this
theorem at_ints {n : Nat} {s : ASt} : ∀ l : List Int, mapO (atCells (purify (n + 1) s)) (ints l) = some (ints l)
  | [] => rfl
  | x :: l => by
    have := at_ints (n := n) (s := s) l
    simp only [ints, List.map_cons, mapO] at this ⊢
    have e : atCells (purify (n + 1) s) (.int x) = some (.int x) := by simp [atCells, purify, pureAV]
    rw [e, this]
theorem pz_ints {n : Nat} {s : ASt} {i off len : Nat} {fz : Bool} {L : List Int} (hs : s.H[i]? = some (.cells fz (ints L))) (h : off + len ≤ L.length) : purify (n + 2) s (.bs i off len 1 false) = some (.sl (ints ((L.drop off).take len)) .none) := by
  rw [pz_bs, elems_ints hs h]
  simp [at_ints]
/-- What is so of a right system. -/
structure RightS (rows : List (List Int)) (w : Nat) : Prop where
  few : rows.length ≤ 24
  len : ∀ r ∈ rows, r.length = w
  pos : rows.length > 0 → 0 < w ∧ w ≤ 9
  bnd : ∀ r ∈ rows, Bnd 1000000 r
theorem right_of {rows : List (List Int)} (h : rightR rows = 0) : RightS rows (rows.headD []).length := by
  unfold rightR at h
  split at h
  · cases h
  · split at h
    · cases h
    · split at h
      · cases h
      · split at h
        · cases h
        · rename_i h1 h2 h3 h4
          have h2 := Bool.eq_false_iff.2 h2
          have h4 := Bool.eq_false_iff.2 h4
          have hl : ∀ r ∈ rows, r.length ≠ 0 ∧ r.length = (rows.headD []).length := fun r hr => by
            have := List.any_eq_false.1 h2 r hr
            simp only [badLen, Bool.or_eq_true, decide_eq_true_eq, not_or, Classical.not_not, ne_eq] at this
            exact ⟨this.1, this.2⟩
          refine ⟨by omega, fun r hr => (hl r hr).2, fun hp => ?_, fun r hr n hn => ?_⟩
          · cases rows with
            | nil => simp at hp
            | cons r rows =>
              have := hl r (by simp)
              simp only [List.headD_cons] at this h3 ⊢
              omega
          · have := List.any_eq_false.1 h4 r hr
            have := List.any_eq_false.1 (Bool.eq_false_iff.2 this) n hn
            simp only [badNum, Bool.or_eq_true, decide_eq_true_eq, not_or] at this
            omega
end Go.Proofs.Eng
