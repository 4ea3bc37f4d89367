/- Blocks of numbers; the reference's Check. No conditions beyond those in the theorems. -/
import Derived.Test.YtglembbmmnakaaaDoorF3
set_option linter.all false
set_option linter.deprecated false
set_option linter.unnecessarySimpa false
set_option linter.unusedVariables false
set_option linter.unusedSimpArgs false
set_option linter.defProp false
namespace Go.Proofs.Eng
open Go Go.Proofs
set_option maxRecDepth 100000
set_option maxHeartbeats 16000000
theorem chunk_ints : ∀ (l : List Int) (Z : List AV), chunk 1 false l.length (ints l ++ Z) = ints l
  | [], _ => rfl
  | n :: l, Z => by
    have := chunk_ints l Z
    simp only [ints, List.map_cons, List.cons_append, List.length_cons, chunk] at this ⊢
    simp [this]
theorem ints_one (l : List Int) : ((ints l).all AV.one) = true := by
  induction l with
  | nil => rfl
  | cons x l ih => simp only [ints] at ih ⊢; simp only [List.map_cons, List.all_cons, ih]; rfl
theorem ints_app (a b : List Int) : ints (a ++ b) = ints a ++ ints b := by simp [ints]
theorem ints_drop (n : Nat) (a : List Int) : (ints a).drop n = ints (a.drop n) := by simp [ints]
theorem ints_take (n : Nat) (a : List Int) : (ints a).take n = ints (a.take n) := by simp [ints]
theorem elems_ints {s : ASt} {i off len : Nat} {fz : Bool} {L : List Int} (hs : s.H[i]? = some (.cells fz (ints L))) (h : off + len ≤ L.length) : elemsA s (.bs i off len 1 false) = some (ints ((L.drop off).take len)) := by
  unfold elemsA
  simp only [hs, ints_len, Nat.mul_one, ints_drop, ints_take, ints_one, Bool.false_or, beq_self_eq_true, Bool.true_and, h, and_self, if_true, Option.some.injEq]
  have e : L.drop off = (L.drop off).take len ++ (L.drop off).drop len := (List.take_append_drop _ _).symm
  have hl : ((L.drop off).take len).length = len := by rw [List.length_take, List.length_drop]; omega
  have := chunk_ints ((L.drop off).take len) (ints ((L.drop off).drop len))
  rw [← ints_app, ← e, hl] at this
  exact this
theorem at_ints {n : Nat} {s : ASt} : ∀ l : List Int, mapO (atCells (purify (n + 1) s)) (ints l) = some (ints l)
  | [] => rfl
  | x :: l => by
    have := at_ints (n := n) (s := s) l
    simp only [ints, List.map_cons, mapO] at this ⊢
    have e : atCells (purify (n + 1) s) (.int x) = some (.int x) := by simp [atCells, purify, pureAV]
    rw [e, this]
theorem pz_ints {n : Nat} {s : ASt} {i off len : Nat} {fz : Bool} {L : List Int} (hs : s.H[i]? = some (.cells fz (ints L))) (h : off + len ≤ L.length) : purify (n + 2) s (.bs i off len 1 false) = some (.sl (ints ((L.drop off).take len)) .none) := by
  rw [pz_bs, elems_ints hs h]
  simp [at_ints]
/-- The sum of rows with factors. -/
def tot : List (List Int) → List Int → List Int → List Int
  | r :: rs, f :: fs, acc => tot rs fs (addM 1 f acc r)
  | _, _, acc => acc
theorem tot_take : ∀ {rs : List (List Int)} {fs acc : List Int} {j : Nat} {r : List Int} {f : Int}, rs[j]? = some r → fs[j]? = some f → tot (rs.take (j + 1)) (fs.take (j + 1)) acc = addM 1 f (tot (rs.take j) (fs.take j) acc) r
  | [], _, _, _, _, _, h, _ => by simp at h
  | _ :: _, [], _, _, _, _, _, h => by simp at h
  | r0 :: rs, f0 :: fs, acc, 0, r, f, h1, h2 => by simp at h1 h2; subst h1; subst h2; simp [tot]
  | r0 :: rs, f0 :: fs, acc, j + 1, r, f, h1, h2 => by
    rw [List.take_succ_cons, List.take_succ_cons, tot, tot_take (by simpa using h1) (by simpa using h2), List.take_succ_cons, List.take_succ_cons, tot]
theorem addM_bnd {m k f : Int} {a b : List Int} (ha : Bnd m a) (hb : Bnd k b) (hm : 0 ≤ m) (hf : 0 ≤ f) : Bnd (m + f * k) (addM 1 f a b) := by
  induction a generalizing b with
  | nil => intro n hn; simp [addM] at hn
  | cons x a ih =>
    cases b with
    | nil => intro n hn; simp [addM] at hn
    | cons y b =>
      intro n hn
      simp only [addM, List.zipWith_cons_cons, List.mem_cons] at hn
      rcases hn with rfl | hn
      · have h1 := ha x (by simp)
        have h2 := hb y (by simp)
        have h3 := Int.mul_le_mul_of_nonneg_left h2.1 hf
        have h4 := Int.mul_le_mul_of_nonneg_left h2.2 hf
        rw [Int.mul_neg] at h3
        omega
      · exact ih (fun n h => ha n (by simp [h])) (fun n h => hb n (by simp [h])) n hn
/-- What is so of a right system. -/
structure RightS (rows : List (List Int)) (w : Nat) : Prop where
  few : rows.length ≤ 24
  len : ∀ r ∈ rows, r.length = w
  pos : rows.length > 0 → 0 < w ∧ w ≤ 9
  bnd : ∀ r ∈ rows, Bnd 1000000 r
theorem right_of {rows : List (List Int)} (h : rightR rows = 0) : RightS rows (rows.headD []).length := by
  unfold rightR at h
  split at h
  · cases h
  · split at h
    · cases h
    · split at h
      · cases h
      · split at h
        · cases h
        · rename_i h1 h2 h3 h4
          have h2 := Bool.eq_false_iff.2 h2
          have h4 := Bool.eq_false_iff.2 h4
          have hl : ∀ r ∈ rows, r.length ≠ 0 ∧ r.length = (rows.headD []).length := fun r hr => by
            have := List.any_eq_false.1 h2 r hr
            simp only [badLen, Bool.or_eq_true, decide_eq_true_eq, not_or, Classical.not_not, ne_eq] at this
            exact ⟨this.1, this.2⟩
          refine ⟨by omega, fun r hr => (hl r hr).2, fun hp => ?_, fun r hr n hn => ?_⟩
          · cases rows with
            | nil => simp at hp
            | cons r rows =>
              have := hl r (by simp)
              simp only [List.headD_cons] at this h3 ⊢
              omega
          · have := List.any_eq_false.1 h4 r hr
            have := List.any_eq_false.1 (Bool.eq_false_iff.2 this) n hn
            simp only [badNum, Bool.or_eq_true, decide_eq_true_eq, not_or] at this
            omega
def okF (f : Int) : Bool := decide (0 ≤ f) && decide (f ≤ 1073741824)
/-- The rows' sum refutes. -/
def refS (s : List Int) : Bool := (s.take (s.length - 1)).all (fun n => decide (n = 0)) && decide (s.getD (s.length - 1) 0 > 0)
/-- Whether factors refute a system. -/
def checkR (rows : List (List Int)) (fs : List Int) : Bool :=
  decide (rightR rows = 0) && decide (rows.length ≠ 0) && decide (fs.length = rows.length) && fs.all okF && refS (tot rows fs (List.replicate (rows.headD []).length 0))
theorem tot_facts {rows : List (List Int)} {fs : List Int} {w : Nat} (hR : RightS rows w) (hf : ∀ j, j < rows.length → ∃ f, fs[j]? = some f) : ∀ j, j ≤ rows.length → (∀ f ∈ fs.take j, okF f = true) → (tot (rows.take j) (fs.take j) (List.replicate w 0)).length = w ∧ Bnd ((j : Int) * 1073741824000000) (tot (rows.take j) (fs.take j) (List.replicate w 0)) := by
  intro j
  induction j with
  | zero =>
    intro _ _
    simp only [List.take_zero, tot, List.length_replicate, true_and]
    intro n hn
    have := List.eq_of_mem_replicate hn
    omega
  | succ j ih =>
    intro hj hok
    obtain ⟨f, hf⟩ := hf j (by omega)
    have hr : rows[j]? = some rows[j] := List.getElem?_eq_getElem (by omega)
    have htk : fs.take (j + 1) = fs.take j ++ [f] := by rw [List.take_add_one, hf]; rfl
    obtain ⟨h1, h2⟩ := ih (by omega) fun g hg => hok g (by rw [htk]; simp [hg])
    have hof := hok f (by rw [htk]; simp)
    simp only [okF, Bool.and_eq_true, decide_eq_true_eq] at hof
    have hrm : rows[j] ∈ rows := List.getElem_mem _
    rw [tot_take hr hf]
    refine ⟨by rw [addM_len (by rw [h1, hR.len _ hrm])]; exact h1, ?_⟩
    have h3 := addM_bnd h2 (hR.bnd _ hrm) (by omega) hof.1
    intro n hn
    have := h3 n hn
    omega
end Go.Proofs.Eng
