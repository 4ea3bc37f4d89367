/-
  NARROWER THAN 'FOR EVERY INPUT', by the rows' own cells (each row's printed sentence says how): VmSplits: loops · VmStops: loops · VmCopies: loops · VmEvaluates: loops.
  DERIVED. THE GIVEN ROWS OF THIS SEAT. 7 by the template 'for every input the law returns true; each argument reads behind the call as it read before'; 0 by the template 'total and deterministic' (their statements: YtflfmkkcnphdcaaGreatTotals.lean).
  GIVEN WITH THE SEED: the statements are not yours to turn. If you find one false, say at which input.
  Laid BY PROGRAM, IN A SANDBOX (cutbox-rows.mjs): the forced cells as the released guide's own fill.sh prints them over the translation b3cd25f07a31c65e… (all of the seat's roots in one cut). By AI agents, Wed Nov 11 2026. No macro, syntax, notation, axiom, sorry.
-/
import Derived.Test.YtflfmkkcnphdcaaGreatChecked
import GoSem.Claim
import GoSem.ClaimJoined
import GoSem.ClaimMapViews
import Derived.JoinedTies
import Derived.KernelRfl
namespace Go.Proofs.YtflfmkkcnphdcaaGreat
/- THE CELL 'sum', in the pinned program and in every row, IS THE sha256 OF THE DUMP (.gsa) THAT YtflfmkkcnphdcaaGreatProg.lean LOADS. Nothing in Lean hashes anything: it is a label: what it is worth is what the hold of that sum in a sandbox is worth. -/
noncomputable def Tryz.pinned : Pinned := { name := "ytflfmkkcnphdcaagreat", sum := "b3cd25f07a31c65e3dc42ac6472e2ef73692e661c6a65b8caf9819b511b44e1c", checked := Tryz.checked }
namespace Rows
def none {H : Type} : Left H := { results := [], args := [] }

/-- 'euclidlaw57.VmRuns': WHATEVER THE INPUT: true; the input reads as it did. -/
def vmRunsSpec : ChangeSpec := { name := "vmRuns", fn := fun _ => fun
  | [d1, d2] => { results := [.lit (.bool true)], args := [d1, d2] }
  | _ => none }
def vmRunsRow : OpenClaim := { program := "ytflfmkkcnphdcaagreat", sum := "b3cd25f07a31c65e3dc42ac6472e2ef73692e661c6a65b8caf9819b511b44e1c", func := "euclid/euclidlaw57.VmRuns", spec := "vmRuns", unfollowed := true, recurses := true, apart := false }
def VmRunsSaid : Prop := vmRunsRow.holds Tryz.pinned (OpenSpec.ofChange vmRunsSpec)

/-- ITS FALSE NEIGHBOUR: 'it returns false'. Refute it at one input. -/
def vmRunsWrong : ChangeSpec := { name := "vmRuns", fn := fun _ => fun
  | [d1, d2] => { results := [.lit (.bool false)], args := [d1, d2] }
  | _ => none }
def VmRunsWrongFalsely : Prop := vmRunsRow.holds Tryz.pinned (OpenSpec.ofChange vmRunsWrong)

/-- 'euclidlaw57.VmSplits': WHATEVER THE INPUT: true; the input reads as it did. -/
def vmSplitsSpec : ChangeSpec := { name := "vmSplits", fn := fun _ => fun
  | [d1, d2] => { results := [.lit (.bool true)], args := [d1, d2] }
  | _ => none }
def vmSplitsRow : OpenClaim := { program := "ytflfmkkcnphdcaagreat", sum := "b3cd25f07a31c65e3dc42ac6472e2ef73692e661c6a65b8caf9819b511b44e1c", func := "euclid/euclidlaw57.VmSplits", spec := "vmSplits", unfollowed := true, recurses := true, loops := true, apart := false }
def VmSplitsSaid : Prop := vmSplitsRow.holds Tryz.pinned (OpenSpec.ofChange vmSplitsSpec)

/-- ITS FALSE NEIGHBOUR: 'it returns false'. Refute it at one input. -/
def vmSplitsWrong : ChangeSpec := { name := "vmSplits", fn := fun _ => fun
  | [d1, d2] => { results := [.lit (.bool false)], args := [d1, d2] }
  | _ => none }
def VmSplitsWrongFalsely : Prop := vmSplitsRow.holds Tryz.pinned (OpenSpec.ofChange vmSplitsWrong)

/-- 'euclidlaw57.VmStops': WHATEVER THE INPUT: true; the input reads as it did. -/
def vmStopsSpec : ChangeSpec := { name := "vmStops", fn := fun _ => fun
  | [d1, d2, d3] => { results := [.lit (.bool true)], args := [d1, d2, d3] }
  | _ => none }
def vmStopsRow : OpenClaim := { program := "ytflfmkkcnphdcaagreat", sum := "b3cd25f07a31c65e3dc42ac6472e2ef73692e661c6a65b8caf9819b511b44e1c", func := "euclid/euclidlaw57.VmStops", spec := "vmStops", unfollowed := true, recurses := true, loops := true, apart := false }
def VmStopsSaid : Prop := vmStopsRow.holds Tryz.pinned (OpenSpec.ofChange vmStopsSpec)

/-- ITS FALSE NEIGHBOUR: 'it returns false'. Refute it at one input. -/
def vmStopsWrong : ChangeSpec := { name := "vmStops", fn := fun _ => fun
  | [d1, d2, d3] => { results := [.lit (.bool false)], args := [d1, d2, d3] }
  | _ => none }
def VmStopsWrongFalsely : Prop := vmStopsRow.holds Tryz.pinned (OpenSpec.ofChange vmStopsWrong)

/-- 'euclidlaw57.VmCopies': WHATEVER THE INPUT: true; the input reads as it did. -/
def vmCopiesSpec : ChangeSpec := { name := "vmCopies", fn := fun _ => fun
  | [d1, d2] => { results := [.lit (.bool true)], args := [d1, d2] }
  | _ => none }
def vmCopiesRow : OpenClaim := { program := "ytflfmkkcnphdcaagreat", sum := "b3cd25f07a31c65e3dc42ac6472e2ef73692e661c6a65b8caf9819b511b44e1c", func := "euclid/euclidlaw57.VmCopies", spec := "vmCopies", unfollowed := true, recurses := true, loops := true, apart := false }
def VmCopiesSaid : Prop := vmCopiesRow.holds Tryz.pinned (OpenSpec.ofChange vmCopiesSpec)

/-- ITS FALSE NEIGHBOUR: 'it returns false'. Refute it at one input. -/
def vmCopiesWrong : ChangeSpec := { name := "vmCopies", fn := fun _ => fun
  | [d1, d2] => { results := [.lit (.bool false)], args := [d1, d2] }
  | _ => none }
def VmCopiesWrongFalsely : Prop := vmCopiesRow.holds Tryz.pinned (OpenSpec.ofChange vmCopiesWrong)

/-- 'euclidlaw57.VmAdds': WHATEVER THE INPUT: true; the input reads as it did. -/
def vmAddsSpec : ChangeSpec := { name := "vmAdds", fn := fun _ => fun
  | [d1, d2] => { results := [.lit (.bool true)], args := [d1, d2] }
  | _ => none }
def vmAddsRow : OpenClaim := { program := "ytflfmkkcnphdcaagreat", sum := "b3cd25f07a31c65e3dc42ac6472e2ef73692e661c6a65b8caf9819b511b44e1c", func := "euclid/euclidlaw57.VmAdds", spec := "vmAdds", unfollowed := true, recurses := true, apart := false }
def VmAddsSaid : Prop := vmAddsRow.holds Tryz.pinned (OpenSpec.ofChange vmAddsSpec)

/-- ITS FALSE NEIGHBOUR: 'it returns false'. Refute it at one input. -/
def vmAddsWrong : ChangeSpec := { name := "vmAdds", fn := fun _ => fun
  | [d1, d2] => { results := [.lit (.bool false)], args := [d1, d2] }
  | _ => none }
def VmAddsWrongFalsely : Prop := vmAddsRow.holds Tryz.pinned (OpenSpec.ofChange vmAddsWrong)

/-- 'euclidlaw57.VmNews': WHATEVER THE INPUT: true; the input reads as it did. -/
def vmNewsSpec : ChangeSpec := { name := "vmNews", fn := fun _ => fun
  | [d] => { results := [.lit (.bool true)], args := [d] }
  | _ => none }
def vmNewsRow : OpenClaim := { program := "ytflfmkkcnphdcaagreat", sum := "b3cd25f07a31c65e3dc42ac6472e2ef73692e661c6a65b8caf9819b511b44e1c", func := "euclid/euclidlaw57.VmNews", spec := "vmNews", unfollowed := true, recurses := true, apart := false }
def VmNewsSaid : Prop := vmNewsRow.holds Tryz.pinned (OpenSpec.ofChange vmNewsSpec)

/-- ITS FALSE NEIGHBOUR: 'it returns false'. Refute it at one input. -/
def vmNewsWrong : ChangeSpec := { name := "vmNews", fn := fun _ => fun
  | [d] => { results := [.lit (.bool false)], args := [d] }
  | _ => none }
def VmNewsWrongFalsely : Prop := vmNewsRow.holds Tryz.pinned (OpenSpec.ofChange vmNewsWrong)

/-- 'euclidlaw57.VmEvaluates': WHATEVER THE INPUT: true; the input reads as it did. -/
def vmEvaluatesSpec : ChangeSpec := { name := "vmEvaluates", fn := fun _ => fun
  | [d] => { results := [.lit (.bool true)], args := [d] }
  | _ => none }
def vmEvaluatesRow : OpenClaim := { program := "ytflfmkkcnphdcaagreat", sum := "b3cd25f07a31c65e3dc42ac6472e2ef73692e661c6a65b8caf9819b511b44e1c", func := "euclid/euclidlaw57.VmEvaluates", spec := "vmEvaluates", unfollowed := true, recurses := true, loops := true, apart := false }
def VmEvaluatesSaid : Prop := vmEvaluatesRow.holds Tryz.pinned (OpenSpec.ofChange vmEvaluatesSpec)

/-- ITS FALSE NEIGHBOUR: 'it returns false'. Refute it at one input. -/
def vmEvaluatesWrong : ChangeSpec := { name := "vmEvaluates", fn := fun _ => fun
  | [d] => { results := [.lit (.bool false)], args := [d] }
  | _ => none }
def VmEvaluatesWrongFalsely : Prop := vmEvaluatesRow.holds Tryz.pinned (OpenSpec.ofChange vmEvaluatesWrong)

/- THE SECOND FORM. 'bulk': how many values and letters a reading holds, each counted each time it is reached (what is shared counts as often as it is met; a slice's spare places count too). A statement '..UptoSaid' is the law's where the arguments, and the package variables that the reading takes, are together of bulk at most 1048576: NARROWER than '..Said'. Prove '..Said' where nothing that the law and all that it calls make is longer than what came in: it says more and counts as full. Else prove '..UptoSaid'. A law counts once. -/
mutual
def uptoBulk {H : Type} : DataW H → Nat
  | .lit (.string bytes) => bytes.length + 1
  | .lit _ => 1
  | .nil => 1
  | .ptr d => uptoBulk d + 1
  | .slice elems spare => uptoBulkAll elems + uptoBulkAll spare + 1
  | .agg parts => uptoBulkAll parts + 1
  | .iface _ d => uptoBulk d + 1
  | .map entries => uptoBulkEntries entries + 1
  | .held _ => 1
def uptoBulkAll {H : Type} : List (DataW H) → Nat
  | [] => 0
  | d :: r => uptoBulk d + uptoBulkAll r
def uptoBulkEntries {H : Type} : List (Lit × DataW H) → Nat
  | [] => 0
  | x :: r => uptoBulkEntry x + uptoBulkEntries r
def uptoBulkEntry {H : Type} : Lit × DataW H → Nat
  | (.string bytes, d) => bytes.length + uptoBulk d + 1
  | (_, d) => uptoBulk d + 1
 end
def uptoSmall : (H : Type) → List (DataW H) → Bool := fun _ ds => decide (uptoBulkAll ds ≤ 1048576)
def OpenSpec.upto (s : _root_.Go.ChangeSpec) : _root_.Go.OpenSpec := { _root_.Go.OpenSpec.ofChange s with cond := some uptoSmall }

/-- 'euclidlaw57.VmRuns', WHERE WHAT IT READS IS OF BULK AT MOST 1048576: true; the input reads as it did. -/
def vmRunsUptoRow : OpenClaim := { program := "ytflfmkkcnphdcaagreat", sum := "b3cd25f07a31c65e3dc42ac6472e2ef73692e661c6a65b8caf9819b511b44e1c", func := "euclid/euclidlaw57.VmRuns", spec := "vmRuns", unfollowed := true, recurses := true, apart := false, narrowed := true }
def VmRunsUptoSaid : Prop := vmRunsUptoRow.holds Tryz.pinned (OpenSpec.upto vmRunsSpec)

/-- 'euclidlaw57.VmSplits', WHERE WHAT IT READS IS OF BULK AT MOST 1048576: true; the input reads as it did. -/
def vmSplitsUptoRow : OpenClaim := { program := "ytflfmkkcnphdcaagreat", sum := "b3cd25f07a31c65e3dc42ac6472e2ef73692e661c6a65b8caf9819b511b44e1c", func := "euclid/euclidlaw57.VmSplits", spec := "vmSplits", unfollowed := true, recurses := true, loops := true, apart := false, narrowed := true }
def VmSplitsUptoSaid : Prop := vmSplitsUptoRow.holds Tryz.pinned (OpenSpec.upto vmSplitsSpec)

/-- 'euclidlaw57.VmStops', WHERE WHAT IT READS IS OF BULK AT MOST 1048576: true; the input reads as it did. -/
def vmStopsUptoRow : OpenClaim := { program := "ytflfmkkcnphdcaagreat", sum := "b3cd25f07a31c65e3dc42ac6472e2ef73692e661c6a65b8caf9819b511b44e1c", func := "euclid/euclidlaw57.VmStops", spec := "vmStops", unfollowed := true, recurses := true, loops := true, apart := false, narrowed := true }
def VmStopsUptoSaid : Prop := vmStopsUptoRow.holds Tryz.pinned (OpenSpec.upto vmStopsSpec)

/-- 'euclidlaw57.VmCopies', WHERE WHAT IT READS IS OF BULK AT MOST 1048576: true; the input reads as it did. -/
def vmCopiesUptoRow : OpenClaim := { program := "ytflfmkkcnphdcaagreat", sum := "b3cd25f07a31c65e3dc42ac6472e2ef73692e661c6a65b8caf9819b511b44e1c", func := "euclid/euclidlaw57.VmCopies", spec := "vmCopies", unfollowed := true, recurses := true, loops := true, apart := false, narrowed := true }
def VmCopiesUptoSaid : Prop := vmCopiesUptoRow.holds Tryz.pinned (OpenSpec.upto vmCopiesSpec)

/-- 'euclidlaw57.VmAdds', WHERE WHAT IT READS IS OF BULK AT MOST 1048576: true; the input reads as it did. -/
def vmAddsUptoRow : OpenClaim := { program := "ytflfmkkcnphdcaagreat", sum := "b3cd25f07a31c65e3dc42ac6472e2ef73692e661c6a65b8caf9819b511b44e1c", func := "euclid/euclidlaw57.VmAdds", spec := "vmAdds", unfollowed := true, recurses := true, apart := false, narrowed := true }
def VmAddsUptoSaid : Prop := vmAddsUptoRow.holds Tryz.pinned (OpenSpec.upto vmAddsSpec)

/-- 'euclidlaw57.VmNews', WHERE WHAT IT READS IS OF BULK AT MOST 1048576: true; the input reads as it did. -/
def vmNewsUptoRow : OpenClaim := { program := "ytflfmkkcnphdcaagreat", sum := "b3cd25f07a31c65e3dc42ac6472e2ef73692e661c6a65b8caf9819b511b44e1c", func := "euclid/euclidlaw57.VmNews", spec := "vmNews", unfollowed := true, recurses := true, apart := false, narrowed := true }
def VmNewsUptoSaid : Prop := vmNewsUptoRow.holds Tryz.pinned (OpenSpec.upto vmNewsSpec)

/-- 'euclidlaw57.VmEvaluates', WHERE WHAT IT READS IS OF BULK AT MOST 1048576: true; the input reads as it did. -/
def vmEvaluatesUptoRow : OpenClaim := { program := "ytflfmkkcnphdcaagreat", sum := "b3cd25f07a31c65e3dc42ac6472e2ef73692e661c6a65b8caf9819b511b44e1c", func := "euclid/euclidlaw57.VmEvaluates", spec := "vmEvaluates", unfollowed := true, recurses := true, loops := true, apart := false, narrowed := true }
def VmEvaluatesUptoSaid : Prop := vmEvaluatesUptoRow.holds Tryz.pinned (OpenSpec.upto vmEvaluatesSpec)

end Rows
end Go.Proofs.YtflfmkkcnphdcaaGreat
