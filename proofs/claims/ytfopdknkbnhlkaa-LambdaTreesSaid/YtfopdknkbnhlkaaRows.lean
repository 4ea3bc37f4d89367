/-
  NARROWER THAN 'FOR EVERY INPUT', by the rows' own cells (each row's printed sentence says how): LambdaChecks: loops · LambdaSubsts: loops · LambdaMoves: loops · LambdaEvals: loops · LambdaTraces: loops · LambdaComposes: loops · LambdaDatas: loops · LambdaTrees: loops.
  DERIVED. THE GIVEN ROWS OF THIS SEAT. 9 by the template 'for every input the law returns true; each argument reads behind the call as it read before'; 0 by the template 'total and deterministic' (their statements: YtfopdknkbnhlkaaTotals.lean).
  GIVEN WITH THE SEED: the statements are not yours to turn. If you find one false, say at which input.
  Laid BY PROGRAM, IN A SANDBOX (cutbox-rows.mjs): the forced cells as the released guide's own fill.sh prints them over the translation 62f25abcab8eeeb8… (all of the seat's roots in one cut). By AI agents, Wed Nov 11 2026. No macro, syntax, notation, axiom, sorry.
-/
import Derived.Test.YtfopdknkbnhlkaaChecked
import GoSem.Claim
import GoSem.ClaimJoined
import GoSem.ClaimMapViews
import Derived.JoinedTies
import Derived.KernelRfl
namespace Go.Proofs.Ytfopdknkbnhlkaa
/- THE CELL 'sum', in the pinned program and in every row, IS THE sha256 OF THE DUMP (.gsa) THAT YtfopdknkbnhlkaaProg.lean LOADS. Nothing in Lean hashes anything: it is a label: what it is worth is what the hold of that sum in a sandbox is worth. -/
noncomputable def Try.pinned : Pinned := { name := "ytfopdknkbnhlkaa", sum := "62f25abcab8eeeb89dedccfd9850add54fe767d0764291c4badb84b923c5d746", checked := Try.checked }
namespace Rows
def none {H : Type} : Left H := { results := [], args := [] }

/-- 'euclidlaw55.LambdaChecks': WHATEVER THE INPUT: true; the input reads as it did. -/
def lambdaChecksSpec : ChangeSpec := { name := "lambdaChecks", fn := fun _ => fun
  | [d] => { results := [.lit (.bool true)], args := [d] }
  | _ => none }
def lambdaChecksRow : OpenClaim := { program := "ytfopdknkbnhlkaa", sum := "62f25abcab8eeeb89dedccfd9850add54fe767d0764291c4badb84b923c5d746", func := "euclid/euclidlaw55.LambdaChecks", spec := "lambdaChecks", unfollowed := true, recurses := true, loops := true, apart := false }
def LambdaChecksSaid : Prop := lambdaChecksRow.holds Try.pinned (OpenSpec.ofChange lambdaChecksSpec)

/-- ITS FALSE NEIGHBOUR: 'it returns false'. Refute it at one input. -/
def lambdaChecksWrong : ChangeSpec := { name := "lambdaChecks", fn := fun _ => fun
  | [d] => { results := [.lit (.bool false)], args := [d] }
  | _ => none }
def LambdaChecksWrongFalsely : Prop := lambdaChecksRow.holds Try.pinned (OpenSpec.ofChange lambdaChecksWrong)

/-- 'euclidlaw55.LambdaSubsts': WHATEVER THE INPUT: true; the input reads as it did. -/
def lambdaSubstsSpec : ChangeSpec := { name := "lambdaSubsts", fn := fun _ => fun
  | [d1, d2] => { results := [.lit (.bool true)], args := [d1, d2] }
  | _ => none }
def lambdaSubstsRow : OpenClaim := { program := "ytfopdknkbnhlkaa", sum := "62f25abcab8eeeb89dedccfd9850add54fe767d0764291c4badb84b923c5d746", func := "euclid/euclidlaw55.LambdaSubsts", spec := "lambdaSubsts", unfollowed := true, recurses := true, loops := true, apart := false }
def LambdaSubstsSaid : Prop := lambdaSubstsRow.holds Try.pinned (OpenSpec.ofChange lambdaSubstsSpec)

/-- ITS FALSE NEIGHBOUR: 'it returns false'. Refute it at one input. -/
def lambdaSubstsWrong : ChangeSpec := { name := "lambdaSubsts", fn := fun _ => fun
  | [d1, d2] => { results := [.lit (.bool false)], args := [d1, d2] }
  | _ => none }
def LambdaSubstsWrongFalsely : Prop := lambdaSubstsRow.holds Try.pinned (OpenSpec.ofChange lambdaSubstsWrong)

/-- 'euclidlaw55.LambdaMoves': WHATEVER THE INPUT: true; the input reads as it did. -/
def lambdaMovesSpec : ChangeSpec := { name := "lambdaMoves", fn := fun _ => fun
  | [d1, d2] => { results := [.lit (.bool true)], args := [d1, d2] }
  | _ => none }
def lambdaMovesRow : OpenClaim := { program := "ytfopdknkbnhlkaa", sum := "62f25abcab8eeeb89dedccfd9850add54fe767d0764291c4badb84b923c5d746", func := "euclid/euclidlaw55.LambdaMoves", spec := "lambdaMoves", unfollowed := true, recurses := true, loops := true, apart := false }
def LambdaMovesSaid : Prop := lambdaMovesRow.holds Try.pinned (OpenSpec.ofChange lambdaMovesSpec)

/-- ITS FALSE NEIGHBOUR: 'it returns false'. Refute it at one input. -/
def lambdaMovesWrong : ChangeSpec := { name := "lambdaMoves", fn := fun _ => fun
  | [d1, d2] => { results := [.lit (.bool false)], args := [d1, d2] }
  | _ => none }
def LambdaMovesWrongFalsely : Prop := lambdaMovesRow.holds Try.pinned (OpenSpec.ofChange lambdaMovesWrong)

/-- 'euclidlaw55.LambdaEvals': WHATEVER THE INPUT: true; the input reads as it did. -/
def lambdaEvalsSpec : ChangeSpec := { name := "lambdaEvals", fn := fun _ => fun
  | [d1, d2] => { results := [.lit (.bool true)], args := [d1, d2] }
  | _ => none }
def lambdaEvalsRow : OpenClaim := { program := "ytfopdknkbnhlkaa", sum := "62f25abcab8eeeb89dedccfd9850add54fe767d0764291c4badb84b923c5d746", func := "euclid/euclidlaw55.LambdaEvals", spec := "lambdaEvals", unfollowed := true, recurses := true, loops := true, apart := false }
def LambdaEvalsSaid : Prop := lambdaEvalsRow.holds Try.pinned (OpenSpec.ofChange lambdaEvalsSpec)

/-- ITS FALSE NEIGHBOUR: 'it returns false'. Refute it at one input. -/
def lambdaEvalsWrong : ChangeSpec := { name := "lambdaEvals", fn := fun _ => fun
  | [d1, d2] => { results := [.lit (.bool false)], args := [d1, d2] }
  | _ => none }
def LambdaEvalsWrongFalsely : Prop := lambdaEvalsRow.holds Try.pinned (OpenSpec.ofChange lambdaEvalsWrong)

/-- 'euclidlaw55.LambdaTraces': WHATEVER THE INPUT: true; the input reads as it did. -/
def lambdaTracesSpec : ChangeSpec := { name := "lambdaTraces", fn := fun _ => fun
  | [d1, d2] => { results := [.lit (.bool true)], args := [d1, d2] }
  | _ => none }
def lambdaTracesRow : OpenClaim := { program := "ytfopdknkbnhlkaa", sum := "62f25abcab8eeeb89dedccfd9850add54fe767d0764291c4badb84b923c5d746", func := "euclid/euclidlaw55.LambdaTraces", spec := "lambdaTraces", unfollowed := true, recurses := true, loops := true, apart := false }
def LambdaTracesSaid : Prop := lambdaTracesRow.holds Try.pinned (OpenSpec.ofChange lambdaTracesSpec)

/-- ITS FALSE NEIGHBOUR: 'it returns false'. Refute it at one input. -/
def lambdaTracesWrong : ChangeSpec := { name := "lambdaTraces", fn := fun _ => fun
  | [d1, d2] => { results := [.lit (.bool false)], args := [d1, d2] }
  | _ => none }
def LambdaTracesWrongFalsely : Prop := lambdaTracesRow.holds Try.pinned (OpenSpec.ofChange lambdaTracesWrong)

/-- 'euclidlaw55.LambdaComposes': WHATEVER THE INPUT: true; the input reads as it did. -/
def lambdaComposesSpec : ChangeSpec := { name := "lambdaComposes", fn := fun _ => fun
  | [d1, d2] => { results := [.lit (.bool true)], args := [d1, d2] }
  | _ => none }
def lambdaComposesRow : OpenClaim := { program := "ytfopdknkbnhlkaa", sum := "62f25abcab8eeeb89dedccfd9850add54fe767d0764291c4badb84b923c5d746", func := "euclid/euclidlaw55.LambdaComposes", spec := "lambdaComposes", unfollowed := true, recurses := true, loops := true, apart := false }
def LambdaComposesSaid : Prop := lambdaComposesRow.holds Try.pinned (OpenSpec.ofChange lambdaComposesSpec)

/-- ITS FALSE NEIGHBOUR: 'it returns false'. Refute it at one input. -/
def lambdaComposesWrong : ChangeSpec := { name := "lambdaComposes", fn := fun _ => fun
  | [d1, d2] => { results := [.lit (.bool false)], args := [d1, d2] }
  | _ => none }
def LambdaComposesWrongFalsely : Prop := lambdaComposesRow.holds Try.pinned (OpenSpec.ofChange lambdaComposesWrong)

/-- 'euclidlaw55.LambdaAdds': WHATEVER THE INPUT: true; the input reads as it did. -/
def lambdaAddsSpec : ChangeSpec := { name := "lambdaAdds", fn := fun _ => fun
  | [d1, d2] => { results := [.lit (.bool true)], args := [d1, d2] }
  | _ => none }
def lambdaAddsRow : OpenClaim := { program := "ytfopdknkbnhlkaa", sum := "62f25abcab8eeeb89dedccfd9850add54fe767d0764291c4badb84b923c5d746", func := "euclid/euclidlaw55.LambdaAdds", spec := "lambdaAdds", unfollowed := true, recurses := true, apart := false }
def LambdaAddsSaid : Prop := lambdaAddsRow.holds Try.pinned (OpenSpec.ofChange lambdaAddsSpec)

/-- ITS FALSE NEIGHBOUR: 'it returns false'. Refute it at one input. -/
def lambdaAddsWrong : ChangeSpec := { name := "lambdaAdds", fn := fun _ => fun
  | [d1, d2] => { results := [.lit (.bool false)], args := [d1, d2] }
  | _ => none }
def LambdaAddsWrongFalsely : Prop := lambdaAddsRow.holds Try.pinned (OpenSpec.ofChange lambdaAddsWrong)

/-- 'euclidlaw55.LambdaDatas': WHATEVER THE INPUT: true; the input reads as it did. -/
def lambdaDatasSpec : ChangeSpec := { name := "lambdaDatas", fn := fun _ => fun
  | [d] => { results := [.lit (.bool true)], args := [d] }
  | _ => none }
def lambdaDatasRow : OpenClaim := { program := "ytfopdknkbnhlkaa", sum := "62f25abcab8eeeb89dedccfd9850add54fe767d0764291c4badb84b923c5d746", func := "euclid/euclidlaw55.LambdaDatas", spec := "lambdaDatas", unfollowed := true, recurses := true, loops := true, apart := false }
def LambdaDatasSaid : Prop := lambdaDatasRow.holds Try.pinned (OpenSpec.ofChange lambdaDatasSpec)

/-- ITS FALSE NEIGHBOUR: 'it returns false'. Refute it at one input. -/
def lambdaDatasWrong : ChangeSpec := { name := "lambdaDatas", fn := fun _ => fun
  | [d] => { results := [.lit (.bool false)], args := [d] }
  | _ => none }
def LambdaDatasWrongFalsely : Prop := lambdaDatasRow.holds Try.pinned (OpenSpec.ofChange lambdaDatasWrong)

/-- 'euclidlaw55.LambdaTrees': WHATEVER THE INPUT: true; the input reads as it did. -/
def lambdaTreesSpec : ChangeSpec := { name := "lambdaTrees", fn := fun _ => fun
  | [d] => { results := [.lit (.bool true)], args := [d] }
  | _ => none }
def lambdaTreesRow : OpenClaim := { program := "ytfopdknkbnhlkaa", sum := "62f25abcab8eeeb89dedccfd9850add54fe767d0764291c4badb84b923c5d746", func := "euclid/euclidlaw55.LambdaTrees", spec := "lambdaTrees", unfollowed := true, recurses := true, loops := true, apart := false }
def LambdaTreesSaid : Prop := lambdaTreesRow.holds Try.pinned (OpenSpec.ofChange lambdaTreesSpec)

/-- ITS FALSE NEIGHBOUR: 'it returns false'. Refute it at one input. -/
def lambdaTreesWrong : ChangeSpec := { name := "lambdaTrees", fn := fun _ => fun
  | [d] => { results := [.lit (.bool false)], args := [d] }
  | _ => none }
def LambdaTreesWrongFalsely : Prop := lambdaTreesRow.holds Try.pinned (OpenSpec.ofChange lambdaTreesWrong)

/- THE SECOND FORM. 'bulk': how many values and letters a reading holds, each counted each time it is reached (what is shared counts as often as it is met; a slice's spare places count too). A statement '..UptoSaid' is the law's where the arguments, and the package variables that the reading takes, are together of bulk at most 1048576: NARROWER than '..Said'. Prove '..Said' where nothing that the law and all that it calls make is longer than what came in: it says more and counts as full. Else prove '..UptoSaid'. A law counts once. -/
mutual
def uptoBulk {H : Type} : DataW H → Nat
  | .lit (.string bytes) => bytes.length + 1
  | .lit _ => 1
  | .nil => 1
  | .ptr d => uptoBulk d + 1
  | .slice elems spare => uptoBulkAll elems + uptoBulkAll spare + 1
  | .agg parts => uptoBulkAll parts + 1
  | .iface _ d => uptoBulk d + 1
  | .map entries => uptoBulkEntries entries + 1
  | .held _ => 1
def uptoBulkAll {H : Type} : List (DataW H) → Nat
  | [] => 0
  | d :: r => uptoBulk d + uptoBulkAll r
def uptoBulkEntries {H : Type} : List (Lit × DataW H) → Nat
  | [] => 0
  | x :: r => uptoBulkEntry x + uptoBulkEntries r
def uptoBulkEntry {H : Type} : Lit × DataW H → Nat
  | (.string bytes, d) => bytes.length + uptoBulk d + 1
  | (_, d) => uptoBulk d + 1
 end
def uptoSmall : (H : Type) → List (DataW H) → Bool := fun _ ds => decide (uptoBulkAll ds ≤ 1048576)
def OpenSpec.upto (s : _root_.Go.ChangeSpec) : _root_.Go.OpenSpec := { _root_.Go.OpenSpec.ofChange s with cond := some uptoSmall }

/-- 'euclidlaw55.LambdaChecks', WHERE WHAT IT READS IS OF BULK AT MOST 1048576: true; the input reads as it did. -/
def lambdaChecksUptoRow : OpenClaim := { program := "ytfopdknkbnhlkaa", sum := "62f25abcab8eeeb89dedccfd9850add54fe767d0764291c4badb84b923c5d746", func := "euclid/euclidlaw55.LambdaChecks", spec := "lambdaChecks", unfollowed := true, recurses := true, loops := true, apart := false, narrowed := true }
def LambdaChecksUptoSaid : Prop := lambdaChecksUptoRow.holds Try.pinned (OpenSpec.upto lambdaChecksSpec)

/-- 'euclidlaw55.LambdaSubsts', WHERE WHAT IT READS IS OF BULK AT MOST 1048576: true; the input reads as it did. -/
def lambdaSubstsUptoRow : OpenClaim := { program := "ytfopdknkbnhlkaa", sum := "62f25abcab8eeeb89dedccfd9850add54fe767d0764291c4badb84b923c5d746", func := "euclid/euclidlaw55.LambdaSubsts", spec := "lambdaSubsts", unfollowed := true, recurses := true, loops := true, apart := false, narrowed := true }
def LambdaSubstsUptoSaid : Prop := lambdaSubstsUptoRow.holds Try.pinned (OpenSpec.upto lambdaSubstsSpec)

/-- 'euclidlaw55.LambdaMoves', WHERE WHAT IT READS IS OF BULK AT MOST 1048576: true; the input reads as it did. -/
def lambdaMovesUptoRow : OpenClaim := { program := "ytfopdknkbnhlkaa", sum := "62f25abcab8eeeb89dedccfd9850add54fe767d0764291c4badb84b923c5d746", func := "euclid/euclidlaw55.LambdaMoves", spec := "lambdaMoves", unfollowed := true, recurses := true, loops := true, apart := false, narrowed := true }
def LambdaMovesUptoSaid : Prop := lambdaMovesUptoRow.holds Try.pinned (OpenSpec.upto lambdaMovesSpec)

/-- 'euclidlaw55.LambdaEvals', WHERE WHAT IT READS IS OF BULK AT MOST 1048576: true; the input reads as it did. -/
def lambdaEvalsUptoRow : OpenClaim := { program := "ytfopdknkbnhlkaa", sum := "62f25abcab8eeeb89dedccfd9850add54fe767d0764291c4badb84b923c5d746", func := "euclid/euclidlaw55.LambdaEvals", spec := "lambdaEvals", unfollowed := true, recurses := true, loops := true, apart := false, narrowed := true }
def LambdaEvalsUptoSaid : Prop := lambdaEvalsUptoRow.holds Try.pinned (OpenSpec.upto lambdaEvalsSpec)

/-- 'euclidlaw55.LambdaTraces', WHERE WHAT IT READS IS OF BULK AT MOST 1048576: true; the input reads as it did. -/
def lambdaTracesUptoRow : OpenClaim := { program := "ytfopdknkbnhlkaa", sum := "62f25abcab8eeeb89dedccfd9850add54fe767d0764291c4badb84b923c5d746", func := "euclid/euclidlaw55.LambdaTraces", spec := "lambdaTraces", unfollowed := true, recurses := true, loops := true, apart := false, narrowed := true }
def LambdaTracesUptoSaid : Prop := lambdaTracesUptoRow.holds Try.pinned (OpenSpec.upto lambdaTracesSpec)

/-- 'euclidlaw55.LambdaComposes', WHERE WHAT IT READS IS OF BULK AT MOST 1048576: true; the input reads as it did. -/
def lambdaComposesUptoRow : OpenClaim := { program := "ytfopdknkbnhlkaa", sum := "62f25abcab8eeeb89dedccfd9850add54fe767d0764291c4badb84b923c5d746", func := "euclid/euclidlaw55.LambdaComposes", spec := "lambdaComposes", unfollowed := true, recurses := true, loops := true, apart := false, narrowed := true }
def LambdaComposesUptoSaid : Prop := lambdaComposesUptoRow.holds Try.pinned (OpenSpec.upto lambdaComposesSpec)

/-- 'euclidlaw55.LambdaAdds', WHERE WHAT IT READS IS OF BULK AT MOST 1048576: true; the input reads as it did. -/
def lambdaAddsUptoRow : OpenClaim := { program := "ytfopdknkbnhlkaa", sum := "62f25abcab8eeeb89dedccfd9850add54fe767d0764291c4badb84b923c5d746", func := "euclid/euclidlaw55.LambdaAdds", spec := "lambdaAdds", unfollowed := true, recurses := true, apart := false, narrowed := true }
def LambdaAddsUptoSaid : Prop := lambdaAddsUptoRow.holds Try.pinned (OpenSpec.upto lambdaAddsSpec)

/-- 'euclidlaw55.LambdaDatas', WHERE WHAT IT READS IS OF BULK AT MOST 1048576: true; the input reads as it did. -/
def lambdaDatasUptoRow : OpenClaim := { program := "ytfopdknkbnhlkaa", sum := "62f25abcab8eeeb89dedccfd9850add54fe767d0764291c4badb84b923c5d746", func := "euclid/euclidlaw55.LambdaDatas", spec := "lambdaDatas", unfollowed := true, recurses := true, loops := true, apart := false, narrowed := true }
def LambdaDatasUptoSaid : Prop := lambdaDatasUptoRow.holds Try.pinned (OpenSpec.upto lambdaDatasSpec)

/-- 'euclidlaw55.LambdaTrees', WHERE WHAT IT READS IS OF BULK AT MOST 1048576: true; the input reads as it did. -/
def lambdaTreesUptoRow : OpenClaim := { program := "ytfopdknkbnhlkaa", sum := "62f25abcab8eeeb89dedccfd9850add54fe767d0764291c4badb84b923c5d746", func := "euclid/euclidlaw55.LambdaTrees", spec := "lambdaTrees", unfollowed := true, recurses := true, loops := true, apart := false, narrowed := true }
def LambdaTreesUptoSaid : Prop := lambdaTreesUptoRow.holds Try.pinned (OpenSpec.upto lambdaTreesSpec)

end Rows
end Go.Proofs.Ytfopdknkbnhlkaa
