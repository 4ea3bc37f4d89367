/- Systems with and without solutions, as plain law. No conditions beyond those in the theorems. -/
import Derived.Test.YtglembbmmnakaaaDoorT3
import Derived.Test.YtglembbmmnakaaaDoorF19
set_option linter.all false
set_option linter.deprecated false
set_option linter.unnecessarySimpa false
set_option linter.unusedVariables false
set_option linter.unusedSimpArgs false
set_option linter.defProp false
namespace Go.Proofs.Eng
open Go Go.Proofs
theorem refuted_iff {rows : List (List Int)} {n : Nat} (hr : rightR rows = 0) (hhd : (rows.headD []).length = n + 1) (he : (refuteR rows).2.2 = 0) : (refuteR rows).2.1 = true ↔ ¬ ∃ v : Nat → Int, 0 < v n ∧ SatL (n + 1) rows v := by
  have hR := right_of hr
  rw [hhd] at hR
  unfold refuteR at he ⊢
  rw [if_neg (by simp [hr])] at he ⊢
  split at he
  · rename_i e hE
    have := elimR_err hE
    simp only at he
    omega
  · rename_i F hF
    simp only [true_iff]
    rintro ⟨v, h1, h2⟩
    exact elimA_sound hR hhd hF h1 h2
  · rename_i S hS
    simp only [Bool.false_eq_true, false_iff, Classical.not_not]
    exact elimA_complete hR hhd hS
/-! ## Points that satisfy rows, tested -/
/-! ## One variable -/
def noneR (l : List (List Int)) : Bool := l.any fun r => (decide (gt0 r 0 = 0) && decide (gt0 r 1 > 0)) || l.any fun s => decide (gt0 r 0 > 0) && decide (gt0 s 0 < 0) && decide (gt0 r 0 * gt0 s 1 - gt0 s 0 * gt0 r 1 > 0)
theorem noneR_iff {l : List (List Int)} : noneR l = true ↔ ∃ r ∈ l, (gt0 r 0 = 0 ∧ gt0 r 1 > 0) ∨ ∃ s ∈ l, gt0 r 0 > 0 ∧ gt0 s 0 < 0 ∧ gt0 r 0 * gt0 s 1 - gt0 s 0 * gt0 r 1 > 0 := by
  unfold noneR
  simp only [List.any_eq_true, Bool.or_eq_true, Bool.and_eq_true, decide_eq_true_eq, and_assoc]
theorem keepZ_cap' {j : Nat} (l : List Rw) : (keepZ j [] l).length ≤ l.length := by
  have := keepZ_cap (j := j) l []
  simpa using this
theorem addR_6 {j : Nat} {r s : Rw} {acc : List Rw} (h : addR j r s acc = .error 6) : 500 ≤ acc.length := by
  unfold addR at h
  split at h
  · cases h
  · split at h
    · cases h
    · split at h
      · cases h
      · omega
theorem addR_grow {j : Nat} {r s : Rw} {acc l : List Rw} (h : addR j r s acc = .ok l) : l.length ≤ acc.length + 1 := by
  unfold addR at h
  split at h
  · cases h
  · split at h
    · cases h; omega
    · split at h
      · cases h; simp
      · cases h
theorem crossI_6 {j : Nat} {r : Rw} : ∀ {ss acc : List Rw}, (crossI j r acc ss = .error 6 → 500 ≤ acc.length + ss.length) ∧ ∀ l, crossI j r acc ss = .ok l → l.length ≤ acc.length + ss.length
  | [], acc => ⟨fun h => (by rw [crossI] at h; cases h), fun l h => (by rw [crossI] at h; cases h; simp)⟩
  | s :: ss, acc => by
    rw [crossI]
    split
    · refine ⟨fun h => ?_, fun l h => ?_⟩
      · rcases bind_err h with h | ⟨m, h1, h2⟩
        · have := addR_6 h; rw [List.length_cons]; omega
        · have := addR_grow h1
          have := (crossI_6 (ss := ss) (acc := m)).1 h2
          rw [List.length_cons]; omega
      · obtain ⟨m, h1, h2⟩ := bind_ok h
        have := addR_grow h1
        have := (crossI_6 (ss := ss) (acc := m)).2 l h2
        rw [List.length_cons]; omega
    · obtain ⟨h1, h2⟩ := crossI_6 (j := j) (r := r) (ss := ss) (acc := acc)
      refine ⟨fun h => ?_, fun l h => ?_⟩
      · have := h1 h; rw [List.length_cons]; omega
      · have := h2 l h; rw [List.length_cons]; omega
theorem crossO_6 {j : Nat} {all : List Rw} : ∀ {rs acc : List Rw}, crossO j all acc rs = .error 6 → 500 ≤ acc.length + rs.length * all.length
  | [], acc, h => by rw [crossO] at h; cases h
  | r :: rs, acc, h => by
    rw [crossO] at h
    rw [List.length_cons, Nat.succ_mul]
    split at h
    · rcases bind_err h with h | ⟨m, h1, h2⟩
      · have := crossI_6.1 h; omega
      · have := crossI_6.2 m h1
        have := crossO_6 h2
        omega
    · have := crossO_6 h
      omega
/-- With few rows there is no such error. -/
theorem elim1_err {rows : List (List Int)} {e : Nat} (hl : rows.length ≤ 20) (hhd : (rows.headD []).length = 2) (h : elimA rows = .err e) : e = 5 := by
  have h56 := elimR_err h
  rcases h56 with rfl | rfl
  · rfl
  · rw [elimA, hhd, elimR] at h
    split at h
    · cases h
    · split at h
      · rename_i hs
        cases h
        have h1 := crossO_6 hs
        have h2 := keepZ_cap' (j := 2 - 1 - (0 + 1)) (iniL rows)
        have h3 : (iniL rows).length = rows.length := iniP_len _ _ _
        rw [h3] at h1 h2
        have h4 := Nat.mul_le_mul hl hl
        omega
      · rw [elimR] at h
        split at h <;> cases h
theorem bounds_law {rows : List (List Int)} (hr : rightR rows = 0) (hl : rows.length ≤ 20) (h2 : ∀ r ∈ rows, r.length = 2) : (refuteR rows).2.2 = 5 ∨ (refuteR rows).2.2 = 0 ∧ (refuteR rows).2.1 = noneR rows := by
  cases rows with
  | nil => exact .inr ⟨rfl, rfl⟩
  | cons r0 rest =>
    generalize hrows : r0 :: rest = rows at *
    have hhd : (rows.headD []).length = 2 := by rw [← hrows]; exact h2 r0 (by rw [← hrows]; simp)
    have hR := right_of hr
    rw [hhd] at hR
    by_cases he : (refuteR rows).2.2 = 0
    · refine .inr ⟨he, ?_⟩
      rw [Bool.eq_iff_iff, noneR_iff]
      constructor
      · intro hx
        unfold refuteR at hx
        rw [if_neg (by simp [hr])] at hx
        split at hx
        · simp at hx
        · rename_i F hF
          clear hx he
          have hini : ∀ x ∈ iniL rows, x.A ∈ rows := fun x hx => by
            have := iniL_A rows
            rw [← this]; exact List.mem_map.2 ⟨x, hx, rfl⟩
          have hE := iniL_E hR
          rw [elimA, hhd, elimR] at hF
          split at hF
          · rename_i r hr
            have hm := List.mem_of_find?_eq_some hr
            obtain ⟨b1, b2⟩ := (badR_iff (n := 1) (hE r hm)).1 (List.find?_some hr)
            exact ⟨r.A, hini r hm, .inl ⟨b2 0 (by omega), b1⟩⟩
          · split at hF
            · cases hF
            · rename_i l' hl'
              rw [elimR] at hF
              split at hF
              · rename_i x hx
                have hm := List.mem_of_find?_eq_some hx
                have hE' := stageR_E hl' (by omega) hE
                obtain ⟨b1, b2⟩ := (badR_iff (n := 1) (hE' x hm)).1 (List.find?_some hx)
                rcases made_cases hl' (by omega) hE hm with ⟨h, _⟩ | ⟨r, hr, s, hs, h1, h2, hc⟩
                · exact ⟨x.A, hini x h, .inl ⟨b2 0 (by omega), b1⟩⟩
                · refine ⟨r.A, hini r hr, .inr ⟨s.A, hini s hs, h1, h2, ?_⟩⟩
                  obtain ⟨h, g, p, q, h0, g0, p0, q0, e1, e2, e3, _⟩ := hc.ex
                  have e := e3 1
                  have e4 : g * (h * gt0 x.A 1) = gt0 r.A 0 * gt0 s.A 1 - gt0 s.A 0 * gt0 r.A 1 := by
                    rw [e, Int.mul_add, ← Int.mul_assoc, ← Int.mul_assoc, e1, e2, Int.neg_mul]
                    show -(gt0 s.A 0 * _) + gt0 r.A 0 * _ = _
                    omega
                  rw [← e4]
                  exact Int.mul_pos g0 (Int.mul_pos h0 b1)
              · cases hF
        · simp at hx
      · intro hn
        rw [refuted_iff (n := 1) hr hhd he]
        rintro ⟨v, hv, hs⟩
        have hsg : ∀ r ∈ rows, gt0 r 0 * v 0 + gt0 r 1 * v 1 ≤ 0 := fun r hr => by
          have := hs r hr
          simpa [sg] using this
        rcases hn with ⟨r, hr, ⟨h0, h1⟩ | ⟨s, hs', h0, h1, h2⟩⟩
        · have := hsg r hr
          rw [h0, Int.zero_mul, Int.zero_add] at this
          have := Int.mul_pos h1 hv
          omega
        · have a1 := mul_nonpos (p := -gt0 s 0) (by omega) (hsg r hr)
          have a2 := mul_nonpos (p := gt0 r 0) (by omega) (hsg s hs')
          have a3 := Int.mul_pos h2 hv
          have e : (gt0 r 0 * gt0 s 1 - gt0 s 0 * gt0 r 1) * v 1 = -gt0 s 0 * (gt0 r 0 * v 0 + gt0 r 1 * v 1) + gt0 r 0 * (gt0 s 0 * v 0 + gt0 s 1 * v 1) := by
            simp only [Int.sub_mul, Int.mul_add, Int.neg_mul, Int.mul_assoc]
            have : gt0 s 0 * (gt0 r 0 * v 0) = gt0 r 0 * (gt0 s 0 * v 0) := by rw [← Int.mul_assoc, Int.mul_comm (gt0 s 0), Int.mul_assoc]
            omega
          omega
    · refine .inl ?_
      unfold refuteR at he ⊢
      rw [if_neg (by simp [hr])] at he ⊢
      split at he
      · rename_i e hE
        rw [elim1_err hl hhd hE]; rfl
      · exact absurd rfl he
      · exact absurd rfl he
end Go.Proofs.Eng
