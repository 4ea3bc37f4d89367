/-
  NARROWER THAN 'FOR EVERY INPUT', by the rows' own cells (each row's printed sentence says how): SizechangeCloses: laid · SizechangeDecides: laid · SizechangeComposes: laid · SizechangeAssociates: laid · SizechangeClosed: laid · SizechangeWitness: laid · SizechangeCycles: laid · TopSizeChange: laid · TopSizeChangeRefused: laid.
  DERIVED. THE GIVEN ROWS OF THIS SEAT. 9 by the template 'for every input the law returns true; each argument reads behind the call as it read before'; 0 by the template 'total and deterministic' (their statements: YtodnkbnbjhcikaaDoorTotals.lean).
  GIVEN WITH THE SEED: the statements are not yours to turn. If you find one false, say at which input.
  Laid BY PROGRAM, IN A SANDBOX (cutbox-rows.mjs): the forced cells as the released guide's own fill.sh prints them over the translation c55d26af2527be04… (all of the seat's roots in one cut). By AI agents, Wed Nov 11 2026. No macro, syntax, notation, axiom, sorry.
-/
import Derived.Test.YtodnkbnbjhcikaaDoorChecked
import GoSem.Claim
import GoSem.ClaimJoined
import GoSem.ClaimMapViews
import Derived.JoinedTies
import Derived.KernelRfl
namespace Go.Proofs.YtodnkbnbjhcikaaDoor
/- THE CELL 'sum', in the pinned program and in every row, IS THE sha256 OF THE DUMP (.gsa) THAT YtodnkbnbjhcikaaDoorProg.lean LOADS. Nothing in Lean hashes anything: it is a label: what it is worth is what the hold of that sum in a sandbox is worth. -/
noncomputable def Tryd.pinned : Pinned := { name := "ytodnkbnbjhcikaadoor", sum := "c55d26af2527be0487fc93bd24bf594c6ad178d1af24e3243d76cff8da2a50fa", checked := Tryd.checked }
namespace Rows
def none {H : Type} : Left H := { results := [], args := [] }

/- WHAT THE LISTED PACKAGE-LEVEL VARIABLES READ AS WHEN THE CALL BEGINS. Each datum BY PROGRAM (the guide's laid-datum.mjs) off the statement by which the dump's own 'gosem.cut.vars' lays the variable. In a bare row this is a premise. The card (YtodnkbnbjhcikaaDoorCards.lean) ties it to the program's text. -/
def laid_math_bits_deBruijn32tab {H : Type} : DataW H := .agg [.lit (.int .u8 0), .lit (.int .u8 1), .lit (.int .u8 28), .lit (.int .u8 2), .lit (.int .u8 29), .lit (.int .u8 14), .lit (.int .u8 24), .lit (.int .u8 3), .lit (.int .u8 30), .lit (.int .u8 22), .lit (.int .u8 20), .lit (.int .u8 15), .lit (.int .u8 25), .lit (.int .u8 17), .lit (.int .u8 4), .lit (.int .u8 8), .lit (.int .u8 31), .lit (.int .u8 27), .lit (.int .u8 13), .lit (.int .u8 23), .lit (.int .u8 21), .lit (.int .u8 19), .lit (.int .u8 16), .lit (.int .u8 7), .lit (.int .u8 26), .lit (.int .u8 12), .lit (.int .u8 18), .lit (.int .u8 6), .lit (.int .u8 11), .lit (.int .u8 5), .lit (.int .u8 10), .lit (.int .u8 9)]
def laid_math_bits_deBruijn64tab {H : Type} : DataW H := .agg [.lit (.int .u8 0), .lit (.int .u8 1), .lit (.int .u8 56), .lit (.int .u8 2), .lit (.int .u8 57), .lit (.int .u8 49), .lit (.int .u8 28), .lit (.int .u8 3), .lit (.int .u8 61), .lit (.int .u8 58), .lit (.int .u8 42), .lit (.int .u8 50), .lit (.int .u8 38), .lit (.int .u8 29), .lit (.int .u8 17), .lit (.int .u8 4), .lit (.int .u8 62), .lit (.int .u8 47), .lit (.int .u8 59), .lit (.int .u8 36), .lit (.int .u8 45), .lit (.int .u8 43), .lit (.int .u8 51), .lit (.int .u8 22), .lit (.int .u8 53), .lit (.int .u8 39), .lit (.int .u8 33), .lit (.int .u8 30), .lit (.int .u8 24), .lit (.int .u8 18), .lit (.int .u8 12), .lit (.int .u8 5), .lit (.int .u8 63), .lit (.int .u8 55), .lit (.int .u8 48), .lit (.int .u8 27), .lit (.int .u8 60), .lit (.int .u8 41), .lit (.int .u8 37), .lit (.int .u8 16), .lit (.int .u8 46), .lit (.int .u8 35), .lit (.int .u8 44), .lit (.int .u8 21), .lit (.int .u8 52), .lit (.int .u8 32), .lit (.int .u8 23), .lit (.int .u8 11), .lit (.int .u8 54), .lit (.int .u8 26), .lit (.int .u8 40), .lit (.int .u8 15), .lit (.int .u8 34), .lit (.int .u8 20), .lit (.int .u8 31), .lit (.int .u8 10), .lit (.int .u8 25), .lit (.int .u8 14), .lit (.int .u8 19), .lit (.int .u8 9), .lit (.int .u8 13), .lit (.int .u8 8), .lit (.int .u8 7), .lit (.int .u8 6)]
def laid_internal_strconv_uint64pow10 {H : Type} : DataW H := .agg [.lit (.int .u64 1), .lit (.int .u64 10), .lit (.int .u64 100), .lit (.int .u64 1000), .lit (.int .u64 10000), .lit (.int .u64 100000), .lit (.int .u64 1000000), .lit (.int .u64 10000000), .lit (.int .u64 100000000), .lit (.int .u64 1000000000), .lit (.int .u64 10000000000), .lit (.int .u64 100000000000), .lit (.int .u64 1000000000000), .lit (.int .u64 10000000000000), .lit (.int .u64 100000000000000), .lit (.int .u64 1000000000000000), .lit (.int .u64 10000000000000000), .lit (.int .u64 100000000000000000), .lit (.int .u64 1000000000000000000), .lit (.int .u64 10000000000000000000)]

/-- 'euclidlaw22.SizechangeCloses': WHATEVER THE INPUT: true; the input reads as it did. -/
def sizechangeClosesSpec : ChangeSpec := { name := "sizechangeCloses", fn := fun _ => fun
  | [d] => { results := [.lit (.bool true)], args := [d] }
  | _ => none }
def sizechangeClosesRow : OpenClaim := { program := "ytodnkbnbjhcikaadoor", sum := "c55d26af2527be0487fc93bd24bf594c6ad178d1af24e3243d76cff8da2a50fa", func := "euclid/euclidlaw22.SizechangeCloses", spec := "sizechangeCloses", unfollowed := true, recurses := true, named := ["internal/strconv.uint64pow10", "math/bits.deBruijn32tab", "math/bits.deBruijn64tab"], apart := false, laid := [("math/bits.deBruijn32tab", laid_math_bits_deBruijn32tab), ("math/bits.deBruijn64tab", laid_math_bits_deBruijn64tab), ("internal/strconv.uint64pow10", laid_internal_strconv_uint64pow10)] }
def SizechangeClosesSaid : Prop := sizechangeClosesRow.holds Tryd.pinned (OpenSpec.ofChange sizechangeClosesSpec)

/-- ITS FALSE NEIGHBOUR: 'it returns false'. Refute it at one input. -/
def sizechangeClosesWrong : ChangeSpec := { name := "sizechangeCloses", fn := fun _ => fun
  | [d] => { results := [.lit (.bool false)], args := [d] }
  | _ => none }
def SizechangeClosesWrongFalsely : Prop := sizechangeClosesRow.holds Tryd.pinned (OpenSpec.ofChange sizechangeClosesWrong)

/-- 'euclidlaw22.SizechangeDecides': WHATEVER THE INPUT: true; the input reads as it did. -/
def sizechangeDecidesSpec : ChangeSpec := { name := "sizechangeDecides", fn := fun _ => fun
  | [d] => { results := [.lit (.bool true)], args := [d] }
  | _ => none }
def sizechangeDecidesRow : OpenClaim := { program := "ytodnkbnbjhcikaadoor", sum := "c55d26af2527be0487fc93bd24bf594c6ad178d1af24e3243d76cff8da2a50fa", func := "euclid/euclidlaw22.SizechangeDecides", spec := "sizechangeDecides", unfollowed := true, recurses := true, named := ["internal/strconv.uint64pow10", "math/bits.deBruijn32tab", "math/bits.deBruijn64tab"], apart := false, laid := [("math/bits.deBruijn32tab", laid_math_bits_deBruijn32tab), ("math/bits.deBruijn64tab", laid_math_bits_deBruijn64tab), ("internal/strconv.uint64pow10", laid_internal_strconv_uint64pow10)] }
def SizechangeDecidesSaid : Prop := sizechangeDecidesRow.holds Tryd.pinned (OpenSpec.ofChange sizechangeDecidesSpec)

/-- ITS FALSE NEIGHBOUR: 'it returns false'. Refute it at one input. -/
def sizechangeDecidesWrong : ChangeSpec := { name := "sizechangeDecides", fn := fun _ => fun
  | [d] => { results := [.lit (.bool false)], args := [d] }
  | _ => none }
def SizechangeDecidesWrongFalsely : Prop := sizechangeDecidesRow.holds Tryd.pinned (OpenSpec.ofChange sizechangeDecidesWrong)

/-- 'euclidlaw22.SizechangeComposes': WHATEVER THE INPUT: true; the input reads as it did. -/
def sizechangeComposesSpec : ChangeSpec := { name := "sizechangeComposes", fn := fun _ => fun
  | [d1, d2] => { results := [.lit (.bool true)], args := [d1, d2] }
  | _ => none }
def sizechangeComposesRow : OpenClaim := { program := "ytodnkbnbjhcikaadoor", sum := "c55d26af2527be0487fc93bd24bf594c6ad178d1af24e3243d76cff8da2a50fa", func := "euclid/euclidlaw22.SizechangeComposes", spec := "sizechangeComposes", unfollowed := true, recurses := true, named := ["internal/strconv.uint64pow10", "math/bits.deBruijn32tab", "math/bits.deBruijn64tab"], apart := false, laid := [("math/bits.deBruijn32tab", laid_math_bits_deBruijn32tab), ("math/bits.deBruijn64tab", laid_math_bits_deBruijn64tab), ("internal/strconv.uint64pow10", laid_internal_strconv_uint64pow10)] }
def SizechangeComposesSaid : Prop := sizechangeComposesRow.holds Tryd.pinned (OpenSpec.ofChange sizechangeComposesSpec)

/-- ITS FALSE NEIGHBOUR: 'it returns false'. Refute it at one input. -/
def sizechangeComposesWrong : ChangeSpec := { name := "sizechangeComposes", fn := fun _ => fun
  | [d1, d2] => { results := [.lit (.bool false)], args := [d1, d2] }
  | _ => none }
def SizechangeComposesWrongFalsely : Prop := sizechangeComposesRow.holds Tryd.pinned (OpenSpec.ofChange sizechangeComposesWrong)

/-- 'euclidlaw22.SizechangeAssociates': WHATEVER THE INPUT: true; the input reads as it did. -/
def sizechangeAssociatesSpec : ChangeSpec := { name := "sizechangeAssociates", fn := fun _ => fun
  | [d1, d2, d3] => { results := [.lit (.bool true)], args := [d1, d2, d3] }
  | _ => none }
def sizechangeAssociatesRow : OpenClaim := { program := "ytodnkbnbjhcikaadoor", sum := "c55d26af2527be0487fc93bd24bf594c6ad178d1af24e3243d76cff8da2a50fa", func := "euclid/euclidlaw22.SizechangeAssociates", spec := "sizechangeAssociates", unfollowed := true, recurses := true, named := ["internal/strconv.uint64pow10", "math/bits.deBruijn32tab", "math/bits.deBruijn64tab"], apart := false, laid := [("math/bits.deBruijn32tab", laid_math_bits_deBruijn32tab), ("math/bits.deBruijn64tab", laid_math_bits_deBruijn64tab), ("internal/strconv.uint64pow10", laid_internal_strconv_uint64pow10)] }
def SizechangeAssociatesSaid : Prop := sizechangeAssociatesRow.holds Tryd.pinned (OpenSpec.ofChange sizechangeAssociatesSpec)

/-- ITS FALSE NEIGHBOUR: 'it returns false'. Refute it at one input. -/
def sizechangeAssociatesWrong : ChangeSpec := { name := "sizechangeAssociates", fn := fun _ => fun
  | [d1, d2, d3] => { results := [.lit (.bool false)], args := [d1, d2, d3] }
  | _ => none }
def SizechangeAssociatesWrongFalsely : Prop := sizechangeAssociatesRow.holds Tryd.pinned (OpenSpec.ofChange sizechangeAssociatesWrong)

/-- 'euclidlaw22.SizechangeClosed': WHATEVER THE INPUT: true; the input reads as it did. -/
def sizechangeClosedSpec : ChangeSpec := { name := "sizechangeClosed", fn := fun _ => fun
  | [d1, d2, d3] => { results := [.lit (.bool true)], args := [d1, d2, d3] }
  | _ => none }
def sizechangeClosedRow : OpenClaim := { program := "ytodnkbnbjhcikaadoor", sum := "c55d26af2527be0487fc93bd24bf594c6ad178d1af24e3243d76cff8da2a50fa", func := "euclid/euclidlaw22.SizechangeClosed", spec := "sizechangeClosed", unfollowed := true, recurses := true, named := ["internal/strconv.uint64pow10", "math/bits.deBruijn32tab", "math/bits.deBruijn64tab"], apart := false, laid := [("math/bits.deBruijn32tab", laid_math_bits_deBruijn32tab), ("math/bits.deBruijn64tab", laid_math_bits_deBruijn64tab), ("internal/strconv.uint64pow10", laid_internal_strconv_uint64pow10)] }
def SizechangeClosedSaid : Prop := sizechangeClosedRow.holds Tryd.pinned (OpenSpec.ofChange sizechangeClosedSpec)

/-- ITS FALSE NEIGHBOUR: 'it returns false'. Refute it at one input. -/
def sizechangeClosedWrong : ChangeSpec := { name := "sizechangeClosed", fn := fun _ => fun
  | [d1, d2, d3] => { results := [.lit (.bool false)], args := [d1, d2, d3] }
  | _ => none }
def SizechangeClosedWrongFalsely : Prop := sizechangeClosedRow.holds Tryd.pinned (OpenSpec.ofChange sizechangeClosedWrong)

/-- 'euclidlaw22.SizechangeWitness': WHATEVER THE INPUT: true; the input reads as it did. -/
def sizechangeWitnessSpec : ChangeSpec := { name := "sizechangeWitness", fn := fun _ => fun
  | [d] => { results := [.lit (.bool true)], args := [d] }
  | _ => none }
def sizechangeWitnessRow : OpenClaim := { program := "ytodnkbnbjhcikaadoor", sum := "c55d26af2527be0487fc93bd24bf594c6ad178d1af24e3243d76cff8da2a50fa", func := "euclid/euclidlaw22.SizechangeWitness", spec := "sizechangeWitness", unfollowed := true, recurses := true, named := ["internal/strconv.uint64pow10", "math/bits.deBruijn32tab", "math/bits.deBruijn64tab"], apart := false, laid := [("math/bits.deBruijn32tab", laid_math_bits_deBruijn32tab), ("math/bits.deBruijn64tab", laid_math_bits_deBruijn64tab), ("internal/strconv.uint64pow10", laid_internal_strconv_uint64pow10)] }
def SizechangeWitnessSaid : Prop := sizechangeWitnessRow.holds Tryd.pinned (OpenSpec.ofChange sizechangeWitnessSpec)

/-- ITS FALSE NEIGHBOUR: 'it returns false'. Refute it at one input. -/
def sizechangeWitnessWrong : ChangeSpec := { name := "sizechangeWitness", fn := fun _ => fun
  | [d] => { results := [.lit (.bool false)], args := [d] }
  | _ => none }
def SizechangeWitnessWrongFalsely : Prop := sizechangeWitnessRow.holds Tryd.pinned (OpenSpec.ofChange sizechangeWitnessWrong)

/-- 'euclidlaw22.SizechangeCycles': WHATEVER THE INPUT: true; the input reads as it did. -/
def sizechangeCyclesSpec : ChangeSpec := { name := "sizechangeCycles", fn := fun _ => fun
  | [d1, d2] => { results := [.lit (.bool true)], args := [d1, d2] }
  | _ => none }
def sizechangeCyclesRow : OpenClaim := { program := "ytodnkbnbjhcikaadoor", sum := "c55d26af2527be0487fc93bd24bf594c6ad178d1af24e3243d76cff8da2a50fa", func := "euclid/euclidlaw22.SizechangeCycles", spec := "sizechangeCycles", unfollowed := true, recurses := true, named := ["internal/strconv.uint64pow10", "math/bits.deBruijn32tab", "math/bits.deBruijn64tab"], apart := false, laid := [("math/bits.deBruijn32tab", laid_math_bits_deBruijn32tab), ("math/bits.deBruijn64tab", laid_math_bits_deBruijn64tab), ("internal/strconv.uint64pow10", laid_internal_strconv_uint64pow10)] }
def SizechangeCyclesSaid : Prop := sizechangeCyclesRow.holds Tryd.pinned (OpenSpec.ofChange sizechangeCyclesSpec)

/-- ITS FALSE NEIGHBOUR: 'it returns false'. Refute it at one input. -/
def sizechangeCyclesWrong : ChangeSpec := { name := "sizechangeCycles", fn := fun _ => fun
  | [d1, d2] => { results := [.lit (.bool false)], args := [d1, d2] }
  | _ => none }
def SizechangeCyclesWrongFalsely : Prop := sizechangeCyclesRow.holds Tryd.pinned (OpenSpec.ofChange sizechangeCyclesWrong)

/-- 'euclidtop.TopSizeChange': WHATEVER THE INPUT: true; the input reads as it did. -/
def topSizeChangeSpec : ChangeSpec := { name := "topSizeChange", fn := fun _ => fun
  | [d] => { results := [.lit (.bool true)], args := [d] }
  | _ => none }
def topSizeChangeRow : OpenClaim := { program := "ytodnkbnbjhcikaadoor", sum := "c55d26af2527be0487fc93bd24bf594c6ad178d1af24e3243d76cff8da2a50fa", func := "euclid/euclidtop.TopSizeChange", spec := "topSizeChange", unfollowed := true, recurses := true, named := ["internal/strconv.uint64pow10", "math/bits.deBruijn32tab", "math/bits.deBruijn64tab"], apart := false, laid := [("math/bits.deBruijn32tab", laid_math_bits_deBruijn32tab), ("math/bits.deBruijn64tab", laid_math_bits_deBruijn64tab), ("internal/strconv.uint64pow10", laid_internal_strconv_uint64pow10)] }
def TopSizeChangeSaid : Prop := topSizeChangeRow.holds Tryd.pinned (OpenSpec.ofChange topSizeChangeSpec)

/-- ITS FALSE NEIGHBOUR: 'it returns false'. Refute it at one input. -/
def topSizeChangeWrong : ChangeSpec := { name := "topSizeChange", fn := fun _ => fun
  | [d] => { results := [.lit (.bool false)], args := [d] }
  | _ => none }
def TopSizeChangeWrongFalsely : Prop := topSizeChangeRow.holds Tryd.pinned (OpenSpec.ofChange topSizeChangeWrong)

/-- 'euclidtop.TopSizeChangeRefused': WHATEVER THE INPUT: true; the input reads as it did. -/
def topSizeChangeRefusedSpec : ChangeSpec := { name := "topSizeChangeRefused", fn := fun _ => fun
  | [d] => { results := [.lit (.bool true)], args := [d] }
  | _ => none }
def topSizeChangeRefusedRow : OpenClaim := { program := "ytodnkbnbjhcikaadoor", sum := "c55d26af2527be0487fc93bd24bf594c6ad178d1af24e3243d76cff8da2a50fa", func := "euclid/euclidtop.TopSizeChangeRefused", spec := "topSizeChangeRefused", unfollowed := true, recurses := true, named := ["internal/strconv.uint64pow10", "math/bits.deBruijn32tab", "math/bits.deBruijn64tab"], apart := false, laid := [("math/bits.deBruijn32tab", laid_math_bits_deBruijn32tab), ("math/bits.deBruijn64tab", laid_math_bits_deBruijn64tab), ("internal/strconv.uint64pow10", laid_internal_strconv_uint64pow10)] }
def TopSizeChangeRefusedSaid : Prop := topSizeChangeRefusedRow.holds Tryd.pinned (OpenSpec.ofChange topSizeChangeRefusedSpec)

/-- ITS FALSE NEIGHBOUR: 'it returns false'. Refute it at one input. -/
def topSizeChangeRefusedWrong : ChangeSpec := { name := "topSizeChangeRefused", fn := fun _ => fun
  | [d] => { results := [.lit (.bool false)], args := [d] }
  | _ => none }
def TopSizeChangeRefusedWrongFalsely : Prop := topSizeChangeRefusedRow.holds Tryd.pinned (OpenSpec.ofChange topSizeChangeRefusedWrong)

/- THE SECOND FORM. 'bulk': how many values and letters a reading holds, each counted each time it is reached (what is shared counts as often as it is met; a slice's spare places count too). A statement '..UptoSaid' is the law's where the arguments, and the package variables that the reading takes, are together of bulk at most 1048576: NARROWER than '..Said'. Prove '..Said' where nothing that the law and all that it calls make is longer than what came in: it says more and counts as full. Else prove '..UptoSaid'. A law counts once. -/
mutual
def uptoBulk {H : Type} : DataW H → Nat
  | .lit (.string bytes) => bytes.length + 1
  | .lit _ => 1
  | .nil => 1
  | .ptr d => uptoBulk d + 1
  | .slice elems spare => uptoBulkAll elems + uptoBulkAll spare + 1
  | .agg parts => uptoBulkAll parts + 1
  | .iface _ d => uptoBulk d + 1
  | .map entries => uptoBulkEntries entries + 1
  | .held _ => 1
def uptoBulkAll {H : Type} : List (DataW H) → Nat
  | [] => 0
  | d :: r => uptoBulk d + uptoBulkAll r
def uptoBulkEntries {H : Type} : List (Lit × DataW H) → Nat
  | [] => 0
  | x :: r => uptoBulkEntry x + uptoBulkEntries r
def uptoBulkEntry {H : Type} : Lit × DataW H → Nat
  | (.string bytes, d) => bytes.length + uptoBulk d + 1
  | (_, d) => uptoBulk d + 1
 end
def uptoSmall : (H : Type) → List (DataW H) → Bool := fun _ ds => decide (uptoBulkAll ds ≤ 1048576)
def OpenSpec.upto (s : _root_.Go.ChangeSpec) : _root_.Go.OpenSpec := { _root_.Go.OpenSpec.ofChange s with cond := some uptoSmall }

/-- 'euclidlaw22.SizechangeCloses', WHERE WHAT IT READS IS OF BULK AT MOST 1048576: true; the input reads as it did. -/
def sizechangeClosesUptoRow : OpenClaim := { program := "ytodnkbnbjhcikaadoor", sum := "c55d26af2527be0487fc93bd24bf594c6ad178d1af24e3243d76cff8da2a50fa", func := "euclid/euclidlaw22.SizechangeCloses", spec := "sizechangeCloses", unfollowed := true, recurses := true, named := ["internal/strconv.uint64pow10", "math/bits.deBruijn32tab", "math/bits.deBruijn64tab"], apart := false, laid := [("math/bits.deBruijn32tab", laid_math_bits_deBruijn32tab), ("math/bits.deBruijn64tab", laid_math_bits_deBruijn64tab), ("internal/strconv.uint64pow10", laid_internal_strconv_uint64pow10)], narrowed := true }
def SizechangeClosesUptoSaid : Prop := sizechangeClosesUptoRow.holds Tryd.pinned (OpenSpec.upto sizechangeClosesSpec)

/-- 'euclidlaw22.SizechangeDecides', WHERE WHAT IT READS IS OF BULK AT MOST 1048576: true; the input reads as it did. -/
def sizechangeDecidesUptoRow : OpenClaim := { program := "ytodnkbnbjhcikaadoor", sum := "c55d26af2527be0487fc93bd24bf594c6ad178d1af24e3243d76cff8da2a50fa", func := "euclid/euclidlaw22.SizechangeDecides", spec := "sizechangeDecides", unfollowed := true, recurses := true, named := ["internal/strconv.uint64pow10", "math/bits.deBruijn32tab", "math/bits.deBruijn64tab"], apart := false, laid := [("math/bits.deBruijn32tab", laid_math_bits_deBruijn32tab), ("math/bits.deBruijn64tab", laid_math_bits_deBruijn64tab), ("internal/strconv.uint64pow10", laid_internal_strconv_uint64pow10)], narrowed := true }
def SizechangeDecidesUptoSaid : Prop := sizechangeDecidesUptoRow.holds Tryd.pinned (OpenSpec.upto sizechangeDecidesSpec)

/-- 'euclidlaw22.SizechangeComposes', WHERE WHAT IT READS IS OF BULK AT MOST 1048576: true; the input reads as it did. -/
def sizechangeComposesUptoRow : OpenClaim := { program := "ytodnkbnbjhcikaadoor", sum := "c55d26af2527be0487fc93bd24bf594c6ad178d1af24e3243d76cff8da2a50fa", func := "euclid/euclidlaw22.SizechangeComposes", spec := "sizechangeComposes", unfollowed := true, recurses := true, named := ["internal/strconv.uint64pow10", "math/bits.deBruijn32tab", "math/bits.deBruijn64tab"], apart := false, laid := [("math/bits.deBruijn32tab", laid_math_bits_deBruijn32tab), ("math/bits.deBruijn64tab", laid_math_bits_deBruijn64tab), ("internal/strconv.uint64pow10", laid_internal_strconv_uint64pow10)], narrowed := true }
def SizechangeComposesUptoSaid : Prop := sizechangeComposesUptoRow.holds Tryd.pinned (OpenSpec.upto sizechangeComposesSpec)

/-- 'euclidlaw22.SizechangeAssociates', WHERE WHAT IT READS IS OF BULK AT MOST 1048576: true; the input reads as it did. -/
def sizechangeAssociatesUptoRow : OpenClaim := { program := "ytodnkbnbjhcikaadoor", sum := "c55d26af2527be0487fc93bd24bf594c6ad178d1af24e3243d76cff8da2a50fa", func := "euclid/euclidlaw22.SizechangeAssociates", spec := "sizechangeAssociates", unfollowed := true, recurses := true, named := ["internal/strconv.uint64pow10", "math/bits.deBruijn32tab", "math/bits.deBruijn64tab"], apart := false, laid := [("math/bits.deBruijn32tab", laid_math_bits_deBruijn32tab), ("math/bits.deBruijn64tab", laid_math_bits_deBruijn64tab), ("internal/strconv.uint64pow10", laid_internal_strconv_uint64pow10)], narrowed := true }
def SizechangeAssociatesUptoSaid : Prop := sizechangeAssociatesUptoRow.holds Tryd.pinned (OpenSpec.upto sizechangeAssociatesSpec)

/-- 'euclidlaw22.SizechangeClosed', WHERE WHAT IT READS IS OF BULK AT MOST 1048576: true; the input reads as it did. -/
def sizechangeClosedUptoRow : OpenClaim := { program := "ytodnkbnbjhcikaadoor", sum := "c55d26af2527be0487fc93bd24bf594c6ad178d1af24e3243d76cff8da2a50fa", func := "euclid/euclidlaw22.SizechangeClosed", spec := "sizechangeClosed", unfollowed := true, recurses := true, named := ["internal/strconv.uint64pow10", "math/bits.deBruijn32tab", "math/bits.deBruijn64tab"], apart := false, laid := [("math/bits.deBruijn32tab", laid_math_bits_deBruijn32tab), ("math/bits.deBruijn64tab", laid_math_bits_deBruijn64tab), ("internal/strconv.uint64pow10", laid_internal_strconv_uint64pow10)], narrowed := true }
def SizechangeClosedUptoSaid : Prop := sizechangeClosedUptoRow.holds Tryd.pinned (OpenSpec.upto sizechangeClosedSpec)

/-- 'euclidlaw22.SizechangeWitness', WHERE WHAT IT READS IS OF BULK AT MOST 1048576: true; the input reads as it did. -/
def sizechangeWitnessUptoRow : OpenClaim := { program := "ytodnkbnbjhcikaadoor", sum := "c55d26af2527be0487fc93bd24bf594c6ad178d1af24e3243d76cff8da2a50fa", func := "euclid/euclidlaw22.SizechangeWitness", spec := "sizechangeWitness", unfollowed := true, recurses := true, named := ["internal/strconv.uint64pow10", "math/bits.deBruijn32tab", "math/bits.deBruijn64tab"], apart := false, laid := [("math/bits.deBruijn32tab", laid_math_bits_deBruijn32tab), ("math/bits.deBruijn64tab", laid_math_bits_deBruijn64tab), ("internal/strconv.uint64pow10", laid_internal_strconv_uint64pow10)], narrowed := true }
def SizechangeWitnessUptoSaid : Prop := sizechangeWitnessUptoRow.holds Tryd.pinned (OpenSpec.upto sizechangeWitnessSpec)

/-- 'euclidlaw22.SizechangeCycles', WHERE WHAT IT READS IS OF BULK AT MOST 1048576: true; the input reads as it did. -/
def sizechangeCyclesUptoRow : OpenClaim := { program := "ytodnkbnbjhcikaadoor", sum := "c55d26af2527be0487fc93bd24bf594c6ad178d1af24e3243d76cff8da2a50fa", func := "euclid/euclidlaw22.SizechangeCycles", spec := "sizechangeCycles", unfollowed := true, recurses := true, named := ["internal/strconv.uint64pow10", "math/bits.deBruijn32tab", "math/bits.deBruijn64tab"], apart := false, laid := [("math/bits.deBruijn32tab", laid_math_bits_deBruijn32tab), ("math/bits.deBruijn64tab", laid_math_bits_deBruijn64tab), ("internal/strconv.uint64pow10", laid_internal_strconv_uint64pow10)], narrowed := true }
def SizechangeCyclesUptoSaid : Prop := sizechangeCyclesUptoRow.holds Tryd.pinned (OpenSpec.upto sizechangeCyclesSpec)

/-- 'euclidtop.TopSizeChange', WHERE WHAT IT READS IS OF BULK AT MOST 1048576: true; the input reads as it did. -/
def topSizeChangeUptoRow : OpenClaim := { program := "ytodnkbnbjhcikaadoor", sum := "c55d26af2527be0487fc93bd24bf594c6ad178d1af24e3243d76cff8da2a50fa", func := "euclid/euclidtop.TopSizeChange", spec := "topSizeChange", unfollowed := true, recurses := true, named := ["internal/strconv.uint64pow10", "math/bits.deBruijn32tab", "math/bits.deBruijn64tab"], apart := false, laid := [("math/bits.deBruijn32tab", laid_math_bits_deBruijn32tab), ("math/bits.deBruijn64tab", laid_math_bits_deBruijn64tab), ("internal/strconv.uint64pow10", laid_internal_strconv_uint64pow10)], narrowed := true }
def TopSizeChangeUptoSaid : Prop := topSizeChangeUptoRow.holds Tryd.pinned (OpenSpec.upto topSizeChangeSpec)

/-- 'euclidtop.TopSizeChangeRefused', WHERE WHAT IT READS IS OF BULK AT MOST 1048576: true; the input reads as it did. -/
def topSizeChangeRefusedUptoRow : OpenClaim := { program := "ytodnkbnbjhcikaadoor", sum := "c55d26af2527be0487fc93bd24bf594c6ad178d1af24e3243d76cff8da2a50fa", func := "euclid/euclidtop.TopSizeChangeRefused", spec := "topSizeChangeRefused", unfollowed := true, recurses := true, named := ["internal/strconv.uint64pow10", "math/bits.deBruijn32tab", "math/bits.deBruijn64tab"], apart := false, laid := [("math/bits.deBruijn32tab", laid_math_bits_deBruijn32tab), ("math/bits.deBruijn64tab", laid_math_bits_deBruijn64tab), ("internal/strconv.uint64pow10", laid_internal_strconv_uint64pow10)], narrowed := true }
def TopSizeChangeRefusedUptoSaid : Prop := topSizeChangeRefusedUptoRow.holds Tryd.pinned (OpenSpec.upto topSizeChangeRefusedSpec)

end Rows
end Go.Proofs.YtodnkbnbjhcikaaDoor
