/-
  DERIVED. GIVEN WITH THE SEED: THE CARDS: each row of YtnipefcppecalaaDoorRows.lean that lists a variable, with what it lists TIED to the program's text (the seventh form; the later family's looks); each row that meets fmt, with fmt's text TOLD by the authors' own Lean function (tested against real Go, not proved from fmt's source: count such statements apart). THE CARD IS WHAT COUNTS. Prove the row's statement (the work); the ties are given (YtnipefcppecalaaDoorTie.lean); close each card by the builder's one call (the guide's Derived/Test/ToyasCard.lean, 'card_holds'). Laid BY PROGRAM, IN A SANDBOX (cutbox-door.mjs). By AI agents, Wed Nov 11 2026. No macro, syntax, notation, axiom, sorry.
-/
import Derived.Test.YtnipefcppecalaaDoorRows
import GoSem.ClaimSeven
namespace Go.Proofs.YtnipefcppecalaaDoor
namespace Rows

/-- THE TIED CARD OF 'euclidlaw56.BytecodeChecks'. -/
def bytecodeChecksCard : Claim7 := { stood := { row := bytecodeChecksRow, standIns := [], harness := (true, "bd6e828d56f4ea946acfbaa7b36f46fc6f922293f91b5724a05159c51e13d7f1"), looks := true }, kinds := [], alts := [], laidByText := true, laidKinds := [.data, .data, .data], laidTests := true, laidLooks := .later }
def BytecodeChecksCardSaid : Prop := Claim7.holds Tryd.pinned (.plain (OpenSpec.ofChange bytecodeChecksSpec)) bytecodeChecksCard

/-- THE TIED CARD OF 'euclidlaw56.BytecodeTexts'. -/
def bytecodeTextsCard : Claim7 := { stood := { row := bytecodeTextsRow, standIns := [], harness := (true, "bd6e828d56f4ea946acfbaa7b36f46fc6f922293f91b5724a05159c51e13d7f1"), looks := true }, kinds := [], alts := [], laidByText := true, laidKinds := [.data, .data, .data], laidTests := true, laidLooks := .later }
def BytecodeTextsCardSaid : Prop := Claim7.holds Tryd.pinned (.plain (OpenSpec.ofChange bytecodeTextsSpec)) bytecodeTextsCard

/-- THE TIED CARD OF 'euclidlaw56.BytecodeAccepts'. -/
def bytecodeAcceptsCard : Claim7 := { stood := { row := bytecodeAcceptsRow, standIns := [], harness := (true, "bd6e828d56f4ea946acfbaa7b36f46fc6f922293f91b5724a05159c51e13d7f1"), looks := true }, kinds := [], alts := [], laidByText := true, laidKinds := [.data, .data, .data], laidTests := true, laidLooks := .later }
def BytecodeAcceptsCardSaid : Prop := Claim7.holds Tryd.pinned (.plain (OpenSpec.ofChange bytecodeAcceptsSpec)) bytecodeAcceptsCard

/-- THE TIED CARD OF 'euclidlaw56.BytecodeCounts'. -/
def bytecodeCountsCard : Claim7 := { stood := { row := bytecodeCountsRow, standIns := [], harness := (true, "bd6e828d56f4ea946acfbaa7b36f46fc6f922293f91b5724a05159c51e13d7f1"), looks := true }, kinds := [], alts := [], laidByText := true, laidKinds := [.data, .data, .data], laidTests := true, laidLooks := .later }
def BytecodeCountsCardSaid : Prop := Claim7.holds Tryd.pinned (.plain (OpenSpec.ofChange bytecodeCountsSpec)) bytecodeCountsCard

/-- THE TIED CARD OF 'euclidlaw56.BytecodeNames'. -/
def bytecodeNamesCard : Claim7 := { stood := { row := bytecodeNamesRow, standIns := [], harness := (true, "bd6e828d56f4ea946acfbaa7b36f46fc6f922293f91b5724a05159c51e13d7f1"), looks := true }, kinds := [], alts := [], laidByText := true, laidKinds := [.data, .data, .data], laidTests := true, laidLooks := .later }
def BytecodeNamesCardSaid : Prop := Claim7.holds Tryd.pinned (.plain (OpenSpec.ofChange bytecodeNamesSpec)) bytecodeNamesCard

/-- THE SECOND FORM's CARD OF 'euclidlaw56.BytecodeChecks'. -/
def bytecodeChecksUptoCard : Claim7 := { stood := { row := bytecodeChecksUptoRow, standIns := [], harness := (true, "bd6e828d56f4ea946acfbaa7b36f46fc6f922293f91b5724a05159c51e13d7f1"), looks := true }, kinds := [], alts := [], laidByText := true, laidKinds := [.data, .data, .data], laidTests := true, laidLooks := .later }
def BytecodeChecksUptoCardSaid : Prop := Claim7.holds Tryd.pinned (.plain (OpenSpec.upto bytecodeChecksSpec)) bytecodeChecksUptoCard

/-- THE SECOND FORM's CARD OF 'euclidlaw56.BytecodeTexts'. -/
def bytecodeTextsUptoCard : Claim7 := { stood := { row := bytecodeTextsUptoRow, standIns := [], harness := (true, "bd6e828d56f4ea946acfbaa7b36f46fc6f922293f91b5724a05159c51e13d7f1"), looks := true }, kinds := [], alts := [], laidByText := true, laidKinds := [.data, .data, .data], laidTests := true, laidLooks := .later }
def BytecodeTextsUptoCardSaid : Prop := Claim7.holds Tryd.pinned (.plain (OpenSpec.upto bytecodeTextsSpec)) bytecodeTextsUptoCard

/-- THE SECOND FORM's CARD OF 'euclidlaw56.BytecodeAccepts'. -/
def bytecodeAcceptsUptoCard : Claim7 := { stood := { row := bytecodeAcceptsUptoRow, standIns := [], harness := (true, "bd6e828d56f4ea946acfbaa7b36f46fc6f922293f91b5724a05159c51e13d7f1"), looks := true }, kinds := [], alts := [], laidByText := true, laidKinds := [.data, .data, .data], laidTests := true, laidLooks := .later }
def BytecodeAcceptsUptoCardSaid : Prop := Claim7.holds Tryd.pinned (.plain (OpenSpec.upto bytecodeAcceptsSpec)) bytecodeAcceptsUptoCard

/-- THE SECOND FORM's CARD OF 'euclidlaw56.BytecodeCounts'. -/
def bytecodeCountsUptoCard : Claim7 := { stood := { row := bytecodeCountsUptoRow, standIns := [], harness := (true, "bd6e828d56f4ea946acfbaa7b36f46fc6f922293f91b5724a05159c51e13d7f1"), looks := true }, kinds := [], alts := [], laidByText := true, laidKinds := [.data, .data, .data], laidTests := true, laidLooks := .later }
def BytecodeCountsUptoCardSaid : Prop := Claim7.holds Tryd.pinned (.plain (OpenSpec.upto bytecodeCountsSpec)) bytecodeCountsUptoCard

/-- THE SECOND FORM's CARD OF 'euclidlaw56.BytecodeNames'. -/
def bytecodeNamesUptoCard : Claim7 := { stood := { row := bytecodeNamesUptoRow, standIns := [], harness := (true, "bd6e828d56f4ea946acfbaa7b36f46fc6f922293f91b5724a05159c51e13d7f1"), looks := true }, kinds := [], alts := [], laidByText := true, laidKinds := [.data, .data, .data], laidTests := true, laidLooks := .later }
def BytecodeNamesUptoCardSaid : Prop := Claim7.holds Tryd.pinned (.plain (OpenSpec.upto bytecodeNamesSpec)) bytecodeNamesUptoCard
end Rows
end Go.Proofs.YtnipefcppecalaaDoor
