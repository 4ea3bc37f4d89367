/- Rows of the elimination; the reference's small functions. No conditions beyond those in the theorems. -/
import Derived.Test.YtglembbmmnakaaaDoorF4
set_option linter.all false
set_option linter.deprecated false
set_option linter.unnecessarySimpa false
set_option linter.unusedVariables false
set_option linter.unusedSimpArgs false
set_option linter.defProp false
namespace Go.Proofs.Eng
open Go Go.Proofs
set_option maxRecDepth 100000
set_option maxHeartbeats 16000000
/-- A row with its factors. -/
structure Rw where
  A : List Int
  F : List Int
  deriving DecidableEq
def RwIs (r : Rw) (a : AV) : Prop := ∃ t u, a = .agg [.sl (ints r.A) t, .sl (ints r.F) u] ∧ t.pure = true ∧ u.pure = true
theorem rwAgg : AggR RwIs 2 := ⟨fun {x a} h => by obtain ⟨t, u, rfl, _⟩ := h; exact ⟨_, rfl, rfl, rfl⟩, fun {x a} h => by obtain ⟨t, u, rfl, h1, h2⟩ := h; simp [pureAV, pureAVs, h1, h2, ints_pure]⟩
theorem rwPure {r : Rw} {a : AV} (h : RwIs r a) : pureAV a = true := by obtain ⟨t, u, rfl, h1, h2⟩ := h; simp [pureAV, pureAVs, h1, h2, ints_pure]
theorem rwsPure {l : List Rw} {al : List AV} (h : LIs RwIs l al) : pureAVs al = true := h.pure fun _ _ h => rwPure h
/-- The bound of the elimination's numbers. -/
def limB : Int := 1073741824
/-- What is so of a row of the elimination. -/
structure RowE (w m : Nat) (r : Rw) : Prop where
  lA : r.A.length = w
  lF : r.F.length = m
  bA : Bnd limB r.A
  bF : ∀ n ∈ r.F, 0 ≤ n ∧ n ≤ limB
/-- A list has a row with such numbers. -/
def hasR (l : List Rw) (A : List Int) : Bool := l.any fun r => decide (r.A = A)
end Go.Proofs.Eng
