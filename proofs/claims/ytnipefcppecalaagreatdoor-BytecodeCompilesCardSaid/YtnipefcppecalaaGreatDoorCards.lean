/-
  DERIVED. GIVEN WITH THE SEED: THE CARDS: each row of YtnipefcppecalaaGreatDoorRows.lean that lists a variable, with what it lists TIED to the program's text (the seventh form; the later family's looks); each row that meets fmt, with fmt's text TOLD by the authors' own Lean function (tested against real Go, not proved from fmt's source: count such statements apart). THE CARD IS WHAT COUNTS. Prove the row's statement (the work); the ties are given (YtnipefcppecalaaGreatDoorTie.lean); close each card by the builder's one call (the guide's Derived/Test/ToyasCard.lean, 'card_holds'). Laid BY PROGRAM, IN A SANDBOX (cutbox-door.mjs). By AI agents, Wed Nov 11 2026. No macro, syntax, notation, axiom, sorry.
-/
import Derived.Test.YtnipefcppecalaaGreatDoorRows
import GoSem.ClaimSeven
namespace Go.Proofs.YtnipefcppecalaaGreatDoor
namespace Rows

/-- THE TIED CARD OF 'euclidlaw56.BytecodeCompiles'. -/
def bytecodeCompilesCard : Claim7 := { stood := { row := bytecodeCompilesRow, standIns := [], harness := (true, "1f2aca98258d6eb312a1af4ef14fcce517e0a3fbad0802386136eb39dbb9ef0a"), looks := true }, kinds := [], alts := [], laidByText := true, laidKinds := [.data, .data, .data], laidTests := true, laidLooks := .later }
def BytecodeCompilesCardSaid : Prop := Claim7.holds Tryz.pinned (.plain (OpenSpec.ofChange bytecodeCompilesSpec)) bytecodeCompilesCard

/-- THE TIED CARD OF 'euclidlaw56.BytecodeMeans'. -/
def bytecodeMeansCard : Claim7 := { stood := { row := bytecodeMeansRow, standIns := [], harness := (true, "1f2aca98258d6eb312a1af4ef14fcce517e0a3fbad0802386136eb39dbb9ef0a"), looks := true }, kinds := [], alts := [], laidByText := true, laidKinds := [.data, .data, .data], laidTests := true, laidLooks := .later }
def BytecodeMeansCardSaid : Prop := Claim7.holds Tryz.pinned (.plain (OpenSpec.ofChange bytecodeMeansSpec)) bytecodeMeansCard

/-- THE SECOND FORM's CARD OF 'euclidlaw56.BytecodeCompiles'. -/
def bytecodeCompilesUptoCard : Claim7 := { stood := { row := bytecodeCompilesUptoRow, standIns := [], harness := (true, "1f2aca98258d6eb312a1af4ef14fcce517e0a3fbad0802386136eb39dbb9ef0a"), looks := true }, kinds := [], alts := [], laidByText := true, laidKinds := [.data, .data, .data], laidTests := true, laidLooks := .later }
def BytecodeCompilesUptoCardSaid : Prop := Claim7.holds Tryz.pinned (.plain (OpenSpec.upto bytecodeCompilesSpec)) bytecodeCompilesUptoCard

/-- THE SECOND FORM's CARD OF 'euclidlaw56.BytecodeMeans'. -/
def bytecodeMeansUptoCard : Claim7 := { stood := { row := bytecodeMeansUptoRow, standIns := [], harness := (true, "1f2aca98258d6eb312a1af4ef14fcce517e0a3fbad0802386136eb39dbb9ef0a"), looks := true }, kinds := [], alts := [], laidByText := true, laidKinds := [.data, .data, .data], laidTests := true, laidLooks := .later }
def BytecodeMeansUptoCardSaid : Prop := Claim7.holds Tryz.pinned (.plain (OpenSpec.upto bytecodeMeansSpec)) bytecodeMeansUptoCard
end Rows
end Go.Proofs.YtnipefcppecalaaGreatDoor
