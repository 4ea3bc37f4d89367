/- Systems with and without solutions, as plain law. No conditions beyond those in the theorems. -/
import Derived.Test.YtglembbmmnakaaaDoorT3
import Derived.Test.YtglembbmmnakaaaDoorF19
set_option linter.all false
set_option linter.deprecated false
set_option linter.unnecessarySimpa false
set_option linter.unusedVariables false
set_option linter.unusedSimpArgs false
set_option linter.defProp false
namespace Go.Proofs.Eng
open Go Go.Proofs
theorem refuted_iff {rows : List (List Int)} {n : Nat} (hr : rightR rows = 0) (hhd : (rows.headD []).length = n + 1) (he : (refuteR rows).2.2 = 0) : (refuteR rows).2.1 = true ↔ ¬ ∃ v : Nat → Int, 0 < v n ∧ SatL (n + 1) rows v := by
  have hR := right_of hr
  rw [hhd] at hR
  unfold refuteR at he ⊢
  rw [if_neg (by simp [hr])] at he ⊢
  split at he
  · rename_i e hE
    have := elimR_err hE
    simp only at he
    omega
  · rename_i F hF
    simp only [true_iff]
    rintro ⟨v, h1, h2⟩
    exact elimA_sound hR hhd hF h1 h2
  · rename_i S hS
    simp only [Bool.false_eq_true, false_iff, Classical.not_not]
    exact elimA_complete hR hhd hS
/-! ## Points that satisfy rows, tested -/
def sumV (r vals : List Int) : Nat → Int
  | 0 => gt0 r vals.length
  | d + 1 => sumV r vals d + gt0 r d * gt0 vals d
def okV (vals r : List Int) : Bool := decide (r.length = vals.length + 1) && decide (sumV r vals vals.length ≤ 0)
def satB (rows : List (List Int)) (vals : List Int) : Bool := rows.all (okV vals)
theorem sumV_sg {r vals : List Int} : ∀ d, sumV r vals d = gt0 r vals.length + sg (gt0 r) (gt0 vals) d
  | 0 => by rw [sumV, sg, Int.add_zero]
  | d + 1 => by rw [sumV, sumV_sg d, sg]; omega
theorem sumV_pv {r vals : List Int} : sumV r vals vals.length = sg (gt0 r) (pv vals) (vals.length + 1) := by
  rw [sumV_sg, sg, pv, if_pos rfl, Int.mul_one]
  have : sg (gt0 r) (pv vals) vals.length = sg (gt0 r) (gt0 vals) vals.length := sg_congr _ fun k hk => by rw [pv, if_neg (by omega)]
  omega
theorem satB_sat {rows : List (List Int)} {vals : List Int} {n : Nat} (hn : vals.length = n) (h : satB rows vals = true) : SatL (n + 1) rows (pv vals) := by
  intro r hr
  have := List.all_eq_true.1 h r hr
  simp only [okV, Bool.and_eq_true, decide_eq_true_eq] at this
  rw [← hn, ← sumV_pv]
  exact this.2
theorem pv_pos {vals : List Int} {n : Nat} (hn : vals.length = n) : 0 < pv vals n := by
  rw [pv, if_pos hn.symm]; omega
/-- A system with a solution is not refuted, nor do factors pass. -/
theorem solved_not {rows : List (List Int)} {vals fs : List Int} {n : Nat} (hr : rightR rows = 0) (hhd : (rows.headD []).length = n + 1) (hn : vals.length = n) (h : satB rows vals = true) : ((refuteR rows).2.2 = 0 → (refuteR rows).2.1 = false) ∧ checkR rows fs = false := by
  have hs := satB_sat hn h
  refine ⟨fun he => ?_, ?_⟩
  · rw [← Bool.not_eq_true, refuted_iff hr hhd he]
    exact fun hc => hc ⟨_, pv_pos hn, hs⟩
  · rw [← Bool.not_eq_true]
    exact fun hc => check_sound hhd hc (pv_pos hn) hs
/-! ## One variable -/
end Go.Proofs.Eng
