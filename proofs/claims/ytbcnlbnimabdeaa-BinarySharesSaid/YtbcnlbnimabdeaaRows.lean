/-
  NARROWER THAN 'FOR EVERY INPUT', by the rows' own cells (each row's printed sentence says how): BinaryTerms: loops · BinaryBack: loops · BinaryShares: loops.
  DERIVED. THE GIVEN ROWS OF THIS SEAT. 9 by the template 'for every input the law returns true; each argument reads behind the call as it read before'; 0 by the template 'total and deterministic' (their statements: YtbcnlbnimabdeaaTotals.lean).
  GIVEN WITH THE SEED: the statements are not yours to turn. If you find one false, say at which input.
  Laid BY PROGRAM, IN A SANDBOX (cutbox-rows.mjs): the forced cells as the released guide's own fill.sh prints them over the translation ec88dba86120b184… (all of the seat's roots in one cut). By AI agents, Wed Nov 11 2026. No macro, syntax, notation, axiom, sorry.
-/
import Derived.Test.YtbcnlbnimabdeaaChecked
import GoSem.Claim
import GoSem.ClaimJoined
import GoSem.ClaimMapViews
import Derived.JoinedTies
import Derived.KernelRfl
namespace Go.Proofs.Ytbcnlbnimabdeaa
/- THE CELL 'sum', in the pinned program and in every row, IS THE sha256 OF THE DUMP (.gsa) THAT YtbcnlbnimabdeaaProg.lean LOADS. Nothing in Lean hashes anything: it is a label: what it is worth is what the hold of that sum in a sandbox is worth. -/
noncomputable def Try.pinned : Pinned := { name := "ytbcnlbnimabdeaa", sum := "ec88dba86120b1841b9475932ae25d95a20cc5a874680278d46ba2a279a9b431", checked := Try.checked }
namespace Rows
def none {H : Type} : Left H := { results := [], args := [] }

/-- 'euclidlaw48.BinaryNumbers': WHATEVER THE INPUT: true; the input reads as it did. -/
def binaryNumbersSpec : ChangeSpec := { name := "binaryNumbers", fn := fun _ => fun
  | [d1, d2] => { results := [.lit (.bool true)], args := [d1, d2] }
  | _ => none }
def binaryNumbersRow : OpenClaim := { program := "ytbcnlbnimabdeaa", sum := "ec88dba86120b1841b9475932ae25d95a20cc5a874680278d46ba2a279a9b431", func := "euclid/euclidlaw48.BinaryNumbers", spec := "binaryNumbers", unfollowed := true, recurses := true, apart := false }
def BinaryNumbersSaid : Prop := binaryNumbersRow.holds Try.pinned (OpenSpec.ofChange binaryNumbersSpec)

/-- ITS FALSE NEIGHBOUR: 'it returns false'. Refute it at one input. -/
def binaryNumbersWrong : ChangeSpec := { name := "binaryNumbers", fn := fun _ => fun
  | [d1, d2] => { results := [.lit (.bool false)], args := [d1, d2] }
  | _ => none }
def BinaryNumbersWrongFalsely : Prop := binaryNumbersRow.holds Try.pinned (OpenSpec.ofChange binaryNumbersWrong)

/-- 'euclidlaw48.BinaryTerms': WHATEVER THE INPUT: true; the input reads as it did. -/
def binaryTermsSpec : ChangeSpec := { name := "binaryTerms", fn := fun _ => fun
  | [d] => { results := [.lit (.bool true)], args := [d] }
  | _ => none }
def binaryTermsRow : OpenClaim := { program := "ytbcnlbnimabdeaa", sum := "ec88dba86120b1841b9475932ae25d95a20cc5a874680278d46ba2a279a9b431", func := "euclid/euclidlaw48.BinaryTerms", spec := "binaryTerms", unfollowed := true, recurses := true, loops := true, apart := false }
def BinaryTermsSaid : Prop := binaryTermsRow.holds Try.pinned (OpenSpec.ofChange binaryTermsSpec)

/-- ITS FALSE NEIGHBOUR: 'it returns false'. Refute it at one input. -/
def binaryTermsWrong : ChangeSpec := { name := "binaryTerms", fn := fun _ => fun
  | [d] => { results := [.lit (.bool false)], args := [d] }
  | _ => none }
def BinaryTermsWrongFalsely : Prop := binaryTermsRow.holds Try.pinned (OpenSpec.ofChange binaryTermsWrong)

/-- 'euclidlaw48.BinaryGets': WHATEVER THE INPUT: true; the input reads as it did. -/
def binaryGetsSpec : ChangeSpec := { name := "binaryGets", fn := fun _ => fun
  | [d] => { results := [.lit (.bool true)], args := [d] }
  | _ => none }
def binaryGetsRow : OpenClaim := { program := "ytbcnlbnimabdeaa", sum := "ec88dba86120b1841b9475932ae25d95a20cc5a874680278d46ba2a279a9b431", func := "euclid/euclidlaw48.BinaryGets", spec := "binaryGets", unfollowed := true, recurses := true, apart := false }
def BinaryGetsSaid : Prop := binaryGetsRow.holds Try.pinned (OpenSpec.ofChange binaryGetsSpec)

/-- ITS FALSE NEIGHBOUR: 'it returns false'. Refute it at one input. -/
def binaryGetsWrong : ChangeSpec := { name := "binaryGets", fn := fun _ => fun
  | [d] => { results := [.lit (.bool false)], args := [d] }
  | _ => none }
def BinaryGetsWrongFalsely : Prop := binaryGetsRow.holds Try.pinned (OpenSpec.ofChange binaryGetsWrong)

/-- 'euclidlaw48.BinaryBack': WHATEVER THE INPUT: true; the input reads as it did. -/
def binaryBackSpec : ChangeSpec := { name := "binaryBack", fn := fun _ => fun
  | [d1, d2] => { results := [.lit (.bool true)], args := [d1, d2] }
  | _ => none }
def binaryBackRow : OpenClaim := { program := "ytbcnlbnimabdeaa", sum := "ec88dba86120b1841b9475932ae25d95a20cc5a874680278d46ba2a279a9b431", func := "euclid/euclidlaw48.BinaryBack", spec := "binaryBack", unfollowed := true, recurses := true, loops := true, apart := false }
def BinaryBackSaid : Prop := binaryBackRow.holds Try.pinned (OpenSpec.ofChange binaryBackSpec)

/-- ITS FALSE NEIGHBOUR: 'it returns false'. Refute it at one input. -/
def binaryBackWrong : ChangeSpec := { name := "binaryBack", fn := fun _ => fun
  | [d1, d2] => { results := [.lit (.bool false)], args := [d1, d2] }
  | _ => none }
def BinaryBackWrongFalsely : Prop := binaryBackRow.holds Try.pinned (OpenSpec.ofChange binaryBackWrong)

/-- 'euclidlaw48.BinaryShares': WHATEVER THE INPUT: true; the input reads as it did. -/
def binarySharesSpec : ChangeSpec := { name := "binaryShares", fn := fun _ => fun
  | [d] => { results := [.lit (.bool true)], args := [d] }
  | _ => none }
def binarySharesRow : OpenClaim := { program := "ytbcnlbnimabdeaa", sum := "ec88dba86120b1841b9475932ae25d95a20cc5a874680278d46ba2a279a9b431", func := "euclid/euclidlaw48.BinaryShares", spec := "binaryShares", unfollowed := true, recurses := true, loops := true, apart := false }
def BinarySharesSaid : Prop := binarySharesRow.holds Try.pinned (OpenSpec.ofChange binarySharesSpec)

/-- ITS FALSE NEIGHBOUR: 'it returns false'. Refute it at one input. -/
def binarySharesWrong : ChangeSpec := { name := "binaryShares", fn := fun _ => fun
  | [d] => { results := [.lit (.bool false)], args := [d] }
  | _ => none }
def BinarySharesWrongFalsely : Prop := binarySharesRow.holds Try.pinned (OpenSpec.ofChange binarySharesWrong)

/-- 'euclidlaw48.BinarySums': WHATEVER THE INPUT: true; the input reads as it did. -/
def binarySumsSpec : ChangeSpec := { name := "binarySums", fn := fun _ => fun
  | [d1, d2, d3] => { results := [.lit (.bool true)], args := [d1, d2, d3] }
  | _ => none }
def binarySumsRow : OpenClaim := { program := "ytbcnlbnimabdeaa", sum := "ec88dba86120b1841b9475932ae25d95a20cc5a874680278d46ba2a279a9b431", func := "euclid/euclidlaw48.BinarySums", spec := "binarySums", unfollowed := true, recurses := true, apart := false }
def BinarySumsSaid : Prop := binarySumsRow.holds Try.pinned (OpenSpec.ofChange binarySumsSpec)

/-- ITS FALSE NEIGHBOUR: 'it returns false'. Refute it at one input. -/
def binarySumsWrong : ChangeSpec := { name := "binarySums", fn := fun _ => fun
  | [d1, d2, d3] => { results := [.lit (.bool false)], args := [d1, d2, d3] }
  | _ => none }
def BinarySumsWrongFalsely : Prop := binarySumsRow.holds Try.pinned (OpenSpec.ofChange binarySumsWrong)

/-- 'euclidlaw48.BinaryReads': WHATEVER THE INPUT: true; the input reads as it did. -/
def binaryReadsSpec : ChangeSpec := { name := "binaryReads", fn := fun _ => fun
  | [d] => { results := [.lit (.bool true)], args := [d] }
  | _ => none }
def binaryReadsRow : OpenClaim := { program := "ytbcnlbnimabdeaa", sum := "ec88dba86120b1841b9475932ae25d95a20cc5a874680278d46ba2a279a9b431", func := "euclid/euclidlaw48.BinaryReads", spec := "binaryReads", unfollowed := true, recurses := true, apart := false }
def BinaryReadsSaid : Prop := binaryReadsRow.holds Try.pinned (OpenSpec.ofChange binaryReadsSpec)

/-- ITS FALSE NEIGHBOUR: 'it returns false'. Refute it at one input. -/
def binaryReadsWrong : ChangeSpec := { name := "binaryReads", fn := fun _ => fun
  | [d] => { results := [.lit (.bool false)], args := [d] }
  | _ => none }
def BinaryReadsWrongFalsely : Prop := binaryReadsRow.holds Try.pinned (OpenSpec.ofChange binaryReadsWrong)

/-- 'euclidlaw48.BinaryStrings': WHATEVER THE INPUT: true; the input reads as it did. -/
def binaryStringsSpec : ChangeSpec := { name := "binaryStrings", fn := fun _ => fun
  | [d1, d2] => { results := [.lit (.bool true)], args := [d1, d2] }
  | _ => none }
def binaryStringsRow : OpenClaim := { program := "ytbcnlbnimabdeaa", sum := "ec88dba86120b1841b9475932ae25d95a20cc5a874680278d46ba2a279a9b431", func := "euclid/euclidlaw48.BinaryStrings", spec := "binaryStrings", unfollowed := true, recurses := true, apart := false }
def BinaryStringsSaid : Prop := binaryStringsRow.holds Try.pinned (OpenSpec.ofChange binaryStringsSpec)

/-- ITS FALSE NEIGHBOUR: 'it returns false'. Refute it at one input. -/
def binaryStringsWrong : ChangeSpec := { name := "binaryStrings", fn := fun _ => fun
  | [d1, d2] => { results := [.lit (.bool false)], args := [d1, d2] }
  | _ => none }
def BinaryStringsWrongFalsely : Prop := binaryStringsRow.holds Try.pinned (OpenSpec.ofChange binaryStringsWrong)

/-- 'euclidlaw48.BinaryOne': WHATEVER THE INPUT: true; the input reads as it did. -/
def binaryOneSpec : ChangeSpec := { name := "binaryOne", fn := fun _ => fun
  | [d] => { results := [.lit (.bool true)], args := [d] }
  | _ => none }
def binaryOneRow : OpenClaim := { program := "ytbcnlbnimabdeaa", sum := "ec88dba86120b1841b9475932ae25d95a20cc5a874680278d46ba2a279a9b431", func := "euclid/euclidlaw48.BinaryOne", spec := "binaryOne", unfollowed := true, recurses := true, apart := false }
def BinaryOneSaid : Prop := binaryOneRow.holds Try.pinned (OpenSpec.ofChange binaryOneSpec)

/-- ITS FALSE NEIGHBOUR: 'it returns false'. Refute it at one input. -/
def binaryOneWrong : ChangeSpec := { name := "binaryOne", fn := fun _ => fun
  | [d] => { results := [.lit (.bool false)], args := [d] }
  | _ => none }
def BinaryOneWrongFalsely : Prop := binaryOneRow.holds Try.pinned (OpenSpec.ofChange binaryOneWrong)

/- THE SECOND FORM. 'bulk': how many values and letters a reading holds, each counted each time it is reached (what is shared counts as often as it is met; a slice's spare places count too). A statement '..UptoSaid' is the law's where the arguments, and the package variables that the reading takes, are together of bulk at most 1048576: NARROWER than '..Said'. Prove '..Said' where nothing that the law and all that it calls make is longer than what came in: it says more and counts as full. Else prove '..UptoSaid'. A law counts once. -/
mutual
def uptoBulk {H : Type} : DataW H → Nat
  | .lit (.string bytes) => bytes.length + 1
  | .lit _ => 1
  | .nil => 1
  | .ptr d => uptoBulk d + 1
  | .slice elems spare => uptoBulkAll elems + uptoBulkAll spare + 1
  | .agg parts => uptoBulkAll parts + 1
  | .iface _ d => uptoBulk d + 1
  | .map entries => uptoBulkEntries entries + 1
  | .held _ => 1
def uptoBulkAll {H : Type} : List (DataW H) → Nat
  | [] => 0
  | d :: r => uptoBulk d + uptoBulkAll r
def uptoBulkEntries {H : Type} : List (Lit × DataW H) → Nat
  | [] => 0
  | x :: r => uptoBulkEntry x + uptoBulkEntries r
def uptoBulkEntry {H : Type} : Lit × DataW H → Nat
  | (.string bytes, d) => bytes.length + uptoBulk d + 1
  | (_, d) => uptoBulk d + 1
 end
def uptoSmall : (H : Type) → List (DataW H) → Bool := fun _ ds => decide (uptoBulkAll ds ≤ 1048576)
def OpenSpec.upto (s : _root_.Go.ChangeSpec) : _root_.Go.OpenSpec := { _root_.Go.OpenSpec.ofChange s with cond := some uptoSmall }

/-- 'euclidlaw48.BinaryNumbers', WHERE WHAT IT READS IS OF BULK AT MOST 1048576: true; the input reads as it did. -/
def binaryNumbersUptoRow : OpenClaim := { program := "ytbcnlbnimabdeaa", sum := "ec88dba86120b1841b9475932ae25d95a20cc5a874680278d46ba2a279a9b431", func := "euclid/euclidlaw48.BinaryNumbers", spec := "binaryNumbers", unfollowed := true, recurses := true, apart := false, narrowed := true }
def BinaryNumbersUptoSaid : Prop := binaryNumbersUptoRow.holds Try.pinned (OpenSpec.upto binaryNumbersSpec)

/-- 'euclidlaw48.BinaryTerms', WHERE WHAT IT READS IS OF BULK AT MOST 1048576: true; the input reads as it did. -/
def binaryTermsUptoRow : OpenClaim := { program := "ytbcnlbnimabdeaa", sum := "ec88dba86120b1841b9475932ae25d95a20cc5a874680278d46ba2a279a9b431", func := "euclid/euclidlaw48.BinaryTerms", spec := "binaryTerms", unfollowed := true, recurses := true, loops := true, apart := false, narrowed := true }
def BinaryTermsUptoSaid : Prop := binaryTermsUptoRow.holds Try.pinned (OpenSpec.upto binaryTermsSpec)

/-- 'euclidlaw48.BinaryGets', WHERE WHAT IT READS IS OF BULK AT MOST 1048576: true; the input reads as it did. -/
def binaryGetsUptoRow : OpenClaim := { program := "ytbcnlbnimabdeaa", sum := "ec88dba86120b1841b9475932ae25d95a20cc5a874680278d46ba2a279a9b431", func := "euclid/euclidlaw48.BinaryGets", spec := "binaryGets", unfollowed := true, recurses := true, apart := false, narrowed := true }
def BinaryGetsUptoSaid : Prop := binaryGetsUptoRow.holds Try.pinned (OpenSpec.upto binaryGetsSpec)

/-- 'euclidlaw48.BinaryBack', WHERE WHAT IT READS IS OF BULK AT MOST 1048576: true; the input reads as it did. -/
def binaryBackUptoRow : OpenClaim := { program := "ytbcnlbnimabdeaa", sum := "ec88dba86120b1841b9475932ae25d95a20cc5a874680278d46ba2a279a9b431", func := "euclid/euclidlaw48.BinaryBack", spec := "binaryBack", unfollowed := true, recurses := true, loops := true, apart := false, narrowed := true }
def BinaryBackUptoSaid : Prop := binaryBackUptoRow.holds Try.pinned (OpenSpec.upto binaryBackSpec)

/-- 'euclidlaw48.BinaryShares', WHERE WHAT IT READS IS OF BULK AT MOST 1048576: true; the input reads as it did. -/
def binarySharesUptoRow : OpenClaim := { program := "ytbcnlbnimabdeaa", sum := "ec88dba86120b1841b9475932ae25d95a20cc5a874680278d46ba2a279a9b431", func := "euclid/euclidlaw48.BinaryShares", spec := "binaryShares", unfollowed := true, recurses := true, loops := true, apart := false, narrowed := true }
def BinarySharesUptoSaid : Prop := binarySharesUptoRow.holds Try.pinned (OpenSpec.upto binarySharesSpec)

/-- 'euclidlaw48.BinarySums', WHERE WHAT IT READS IS OF BULK AT MOST 1048576: true; the input reads as it did. -/
def binarySumsUptoRow : OpenClaim := { program := "ytbcnlbnimabdeaa", sum := "ec88dba86120b1841b9475932ae25d95a20cc5a874680278d46ba2a279a9b431", func := "euclid/euclidlaw48.BinarySums", spec := "binarySums", unfollowed := true, recurses := true, apart := false, narrowed := true }
def BinarySumsUptoSaid : Prop := binarySumsUptoRow.holds Try.pinned (OpenSpec.upto binarySumsSpec)

/-- 'euclidlaw48.BinaryReads', WHERE WHAT IT READS IS OF BULK AT MOST 1048576: true; the input reads as it did. -/
def binaryReadsUptoRow : OpenClaim := { program := "ytbcnlbnimabdeaa", sum := "ec88dba86120b1841b9475932ae25d95a20cc5a874680278d46ba2a279a9b431", func := "euclid/euclidlaw48.BinaryReads", spec := "binaryReads", unfollowed := true, recurses := true, apart := false, narrowed := true }
def BinaryReadsUptoSaid : Prop := binaryReadsUptoRow.holds Try.pinned (OpenSpec.upto binaryReadsSpec)

/-- 'euclidlaw48.BinaryStrings', WHERE WHAT IT READS IS OF BULK AT MOST 1048576: true; the input reads as it did. -/
def binaryStringsUptoRow : OpenClaim := { program := "ytbcnlbnimabdeaa", sum := "ec88dba86120b1841b9475932ae25d95a20cc5a874680278d46ba2a279a9b431", func := "euclid/euclidlaw48.BinaryStrings", spec := "binaryStrings", unfollowed := true, recurses := true, apart := false, narrowed := true }
def BinaryStringsUptoSaid : Prop := binaryStringsUptoRow.holds Try.pinned (OpenSpec.upto binaryStringsSpec)

/-- 'euclidlaw48.BinaryOne', WHERE WHAT IT READS IS OF BULK AT MOST 1048576: true; the input reads as it did. -/
def binaryOneUptoRow : OpenClaim := { program := "ytbcnlbnimabdeaa", sum := "ec88dba86120b1841b9475932ae25d95a20cc5a874680278d46ba2a279a9b431", func := "euclid/euclidlaw48.BinaryOne", spec := "binaryOne", unfollowed := true, recurses := true, apart := false, narrowed := true }
def BinaryOneUptoSaid : Prop := binaryOneUptoRow.holds Try.pinned (OpenSpec.upto binaryOneSpec)

end Rows
end Go.Proofs.Ytbcnlbnimabdeaa
