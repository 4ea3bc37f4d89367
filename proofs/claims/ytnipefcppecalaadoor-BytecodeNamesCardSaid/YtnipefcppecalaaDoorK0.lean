/- What the rows' list of laid variables gives. No conditions beyond those in the theorems. -/
import Derived.Test.YtnipefcppecalaaDoorU8
import Derived.Test.YtnipefcppecalaaDoorRows
import Derived.Lib.LaidTab
import Derived.Lay
import Derived.MakeChecks
import Derived.ProofKit
set_option linter.all false
set_option linter.deprecated false
set_option linter.unnecessarySimpa false
set_option linter.unusedVariables false
set_option linter.unusedSimpArgs false
set_option linter.defProp false
namespace Go.Proofs.Eng
open Go Go.Proofs
set_option maxRecDepth 100000
theorem oft_u8 {n : Nat} {l : List AV} (h : OfT Tryd.prog n 5 l) : ∃ i, l = [.v (.int .u8 i)] ∧ 0 ≤ i ∧ i < 256 := by
 cases n with
 | zero => exact h.elim
 | succ n =>
  simp only [OfT, Tryd.underlying5] at h
  obtain ⟨i, rfl, hw⟩ := h
  refine ⟨i, rfl, ?_⟩
  simp [Lit.wf, IntKind.min, IntKind.max, IntKind.signed, IntKind.bits] at hw
  omega
open Go Go.Proofs Go.Proofs.YtnipefcppecalaaDoor
open Go.ChangeShapes Go.WideShapes Go.ChangeAt Go.RowKit
def laid56 : List (String × DataW Unit) := Rows.bytecodeCountsRow.laid
theorem lm_tail {P : Program} {x : String × DataW Unit} {r : List (String × DataW Unit)} {w : World} (h : laidMet P (x :: r) w) : laidMet P r w := by
 obtain ⟨n, d⟩ := x
 obtain ⟨ps, ⟨g, t, cs, fuel, p, q, _, _, _, _, hq, rfl⟩, hn, hc⟩ := h
 exact ⟨q, hq, (List.nodup_append.1 hn).2.1, fun b off hm => hc b off (List.mem_append_right _ hm)⟩
theorem kn_of {W : World} (h : laidMetH Tryd.prog laid56 W) : Kn W := by
 rw [MakeChecks.laidMetH_plain _ _ _ (by kernel_rfl)] at h
 have h2 := lm_tail (lm_tail h)
 have h3 := Lib.tabIs_of_head (name := "internal/strconv.uint64pow10") (zs := Lib.pow10Tab) (k := .u64) (g := 0) (t := 153) (e := 125) (n := 20) (by kernel_rfl) (by kernel_rfl) (by kernel_rfl) (by kernel_rfl) (by kernel_rfl) (by kernel_rfl) h2
 intro b hb
 obtain rfl : b = 0 := hb
 unfold Lib.TabIs World.var? at h3
 rw [show Tryd.prog.globalNamed "internal/strconv.uint64pow10" = some 0 from by kernel_rfl] at h3
 simp only [Option.bind_some] at h3
 split at h3
 ·rename_i cs t z hh
  simp only [Option.some.injEq] at h3
  subst h3
  exact ⟨(Array.getElem?_eq_some_iff.1 hh).1, t, z, hh⟩
 ·cases h3
theorem try_own : ownKnob Tryd.prog.godebug = none := by kernel_rfl
theorem try_laid : laidOutB Tryd.prog = true := by kernel_rfl
end Go.Proofs.Eng
