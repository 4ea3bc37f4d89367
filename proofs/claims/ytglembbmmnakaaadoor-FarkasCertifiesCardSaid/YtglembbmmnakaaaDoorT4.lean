/- Systems with and without solutions, as plain law. No conditions beyond those in the theorems. -/
import Derived.Test.YtglembbmmnakaaaDoorT3
import Derived.Test.YtglembbmmnakaaaDoorF19
set_option linter.all false
set_option linter.deprecated false
set_option linter.unnecessarySimpa false
set_option linter.unusedVariables false
set_option linter.unusedSimpArgs false
set_option linter.defProp false
namespace Go.Proofs.Eng
open Go Go.Proofs
/-! ## Points that satisfy rows, tested -/
def sumV (r vals : List Int) : Nat → Int
  | 0 => gt0 r vals.length
  | d + 1 => sumV r vals d + gt0 r d * gt0 vals d
def okV (vals r : List Int) : Bool := decide (r.length = vals.length + 1) && decide (sumV r vals vals.length ≤ 0)
def satB (rows : List (List Int)) (vals : List Int) : Bool := rows.all (okV vals)
theorem sumV_sg {r vals : List Int} : ∀ d, sumV r vals d = gt0 r vals.length + sg (gt0 r) (gt0 vals) d
  | 0 => by rw [sumV, sg, Int.add_zero]
  | d + 1 => by rw [sumV, sumV_sg d, sg]; omega
theorem sumV_pv {r vals : List Int} : sumV r vals vals.length = sg (gt0 r) (pv vals) (vals.length + 1) := by
  rw [sumV_sg, sg, pv, if_pos rfl, Int.mul_one]
  have : sg (gt0 r) (pv vals) vals.length = sg (gt0 r) (gt0 vals) vals.length := sg_congr _ fun k hk => by rw [pv, if_neg (by omega)]
  omega
theorem sat_satB {rows : List (List Int)} {vals : List Int} {n : Nat} (hn : vals.length = n) (hl : ∀ r ∈ rows, r.length = n + 1) (h : SatL (n + 1) rows (pv vals)) : satB rows vals = true := by
  rw [satB, List.all_eq_true]
  intro r hr
  simp only [okV, Bool.and_eq_true, decide_eq_true_eq]
  refine ⟨by rw [hn]; exact hl r hr, ?_⟩
  rw [sumV_pv, hn]
  exact h r hr
/-! ## One variable -/
end Go.Proofs.Eng
