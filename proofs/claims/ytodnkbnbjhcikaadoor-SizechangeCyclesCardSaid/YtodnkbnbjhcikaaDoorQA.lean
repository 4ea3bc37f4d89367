/- The examples of the chapter hold. No conditions. -/
import Derived.Test.YtodnkbnbjhcikaaDoorPf22
import Derived.KernelRfl
set_option linter.all false
set_option linter.deprecated false
set_option linter.unnecessarySimpa false
set_option linter.unusedVariables false
set_option linter.unusedSimpArgs false
set_option linter.defProp false
namespace Go.Proofs.Eng
open Go Go.Proofs
set_option maxRecDepth 100000
def isTrueA : Option (Outc × ASt) → Bool
  | some (.ret (.v (.bool true)), _) => true
  | _ => false
theorem awake_try : isTrueA (callN md pfs 60 13 [] ⟨[], []⟩) = true := by kernel_rfl
theorem true_ret {f : Nat} (h : isTrueA (callN md pfs 60 f [] ⟨[], []⟩) = true) : Out md pfs f [] (· = .bool true) fun _ => False := by
  cases hc : callN md pfs 60 f [] ⟨[], []⟩ with
  | none => rw [hc] at h; cases h
  | some x =>
    obtain ⟨out, s⟩ := x
    rw [hc] at h
    have ho : out = .ret (.v (.bool true)) := by
      cases out with
      | pan v => cases h
      | ret v => cases v with
        | v x => cases x with
          | bool b => cases b with
            | true => rfl
            | false => cases h
          | _ => cases h
        | _ => cases h
    subst ho
    exact ⟨_, s, .ret (.bool true), run_of hc, by simp only [Outc.purify, purify_pure pv_v, Option.map_some], rfl⟩
theorem awake_ret : Out md pfs 13 [] (· = .bool true) fun _ => False := true_ret awake_try
end Go.Proofs.Eng
