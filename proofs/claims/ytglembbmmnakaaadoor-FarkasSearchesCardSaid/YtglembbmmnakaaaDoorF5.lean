/- The reference's Check. No conditions beyond those in the theorems. -/
import Derived.Test.YtglembbmmnakaaaDoorF4
set_option linter.all false
set_option linter.deprecated false
set_option linter.unnecessarySimpa false
set_option linter.unusedVariables false
set_option linter.unusedSimpArgs false
set_option linter.defProp false
namespace Go.Proofs.Eng
open Go Go.Proofs
set_option maxRecDepth 100000
set_option maxHeartbeats 16000000
theorem checkR_f {rows : List (List Int)} {fs : List Int} (h : rightR rows ≠ 0 ∨ rows.length = 0 ∨ fs.length ≠ rows.length) : checkR rows fs = false := by
  unfold checkR
  rcases h with h | h | h
  · rw [decide_eq_false h]; rfl
  · rw [decide_eq_false (p := rows.length ≠ 0) (by omega)]; simp
  · rw [decide_eq_false h]; simp
theorem checkR_o {rows : List (List Int)} {fs : List Int} {f : Int} {j : Nat} (h : fs[j]? = some f) (hf : okF f = false) : checkR rows fs = false := by
  unfold checkR
  have : fs.all okF = false := by
    rw [List.all_eq_false]
    exact ⟨f, List.mem_of_getElem? h, by rw [hf]; exact Bool.false_ne_true⟩
  rw [this]; simp
theorem okF_0 {f : Int} (h : f < 0) : okF f = false := by unfold okF; rw [decide_eq_false (by omega)]; rfl
theorem okF_1 {f : Int} (h : f > 1073741824) : okF f = false := by unfold okF; rw [decide_eq_false (p := f ≤ 1073741824) (by omega), Bool.and_false]
theorem checkR_t {rows : List (List Int)} {fs : List Int} (h : rightR rows = 0) (h0 : rows.length ≠ 0) (hl : fs.length = rows.length) (ho : ∀ f ∈ fs, okF f = true) : checkR rows fs = refS (tot rows fs (List.replicate (rows.headD []).length 0)) := by
  unfold checkR
  rw [decide_eq_true h, decide_eq_true h0, decide_eq_true hl, List.all_eq_true.2 ho]
  simp
end Go.Proofs.Eng
