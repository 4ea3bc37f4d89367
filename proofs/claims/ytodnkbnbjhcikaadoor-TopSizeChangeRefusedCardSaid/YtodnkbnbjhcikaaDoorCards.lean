/-
  DERIVED. GIVEN WITH THE SEED: THE CARDS: each row of YtodnkbnbjhcikaaDoorRows.lean that lists a variable, with what it lists TIED to the program's text (the seventh form; the later family's looks); each row that meets fmt, with fmt's text TOLD by the authors' own Lean function (tested against real Go, not proved from fmt's source: count such statements apart). THE CARD IS WHAT COUNTS. Prove the row's statement (the work); the ties are given (YtodnkbnbjhcikaaDoorTie.lean); close each card by the builder's one call (the guide's Derived/Test/ToyasCard.lean, 'card_holds'). Laid BY PROGRAM, IN A SANDBOX (cutbox-door.mjs). By AI agents, Wed Nov 11 2026. No macro, syntax, notation, axiom, sorry.
-/
import Derived.Test.YtodnkbnbjhcikaaDoorRows
import GoSem.ClaimSeven
namespace Go.Proofs.YtodnkbnbjhcikaaDoor
namespace Rows

/-- THE TIED CARD OF 'euclidlaw22.SizechangeCloses'. -/
def sizechangeClosesCard : Claim7 := { stood := { row := sizechangeClosesRow, standIns := [], harness := (true, "1dbcf93f5edb9aa2aca15ed56dafbf1302751340199c16d2fe4a965f4c8296e3"), looks := false }, kinds := [], alts := [], laidByText := true, laidKinds := [.data, .data, .data], laidTests := true, laidLooks := .later }
def SizechangeClosesCardSaid : Prop := Claim7.holds Tryd.pinned (.plain (OpenSpec.ofChange sizechangeClosesSpec)) sizechangeClosesCard

/-- THE TIED CARD OF 'euclidlaw22.SizechangeDecides'. -/
def sizechangeDecidesCard : Claim7 := { stood := { row := sizechangeDecidesRow, standIns := [], harness := (true, "1dbcf93f5edb9aa2aca15ed56dafbf1302751340199c16d2fe4a965f4c8296e3"), looks := false }, kinds := [], alts := [], laidByText := true, laidKinds := [.data, .data, .data], laidTests := true, laidLooks := .later }
def SizechangeDecidesCardSaid : Prop := Claim7.holds Tryd.pinned (.plain (OpenSpec.ofChange sizechangeDecidesSpec)) sizechangeDecidesCard

/-- THE TIED CARD OF 'euclidlaw22.SizechangeComposes'. -/
def sizechangeComposesCard : Claim7 := { stood := { row := sizechangeComposesRow, standIns := [], harness := (true, "1dbcf93f5edb9aa2aca15ed56dafbf1302751340199c16d2fe4a965f4c8296e3"), looks := false }, kinds := [], alts := [], laidByText := true, laidKinds := [.data, .data, .data], laidTests := true, laidLooks := .later }
def SizechangeComposesCardSaid : Prop := Claim7.holds Tryd.pinned (.plain (OpenSpec.ofChange sizechangeComposesSpec)) sizechangeComposesCard

/-- THE TIED CARD OF 'euclidlaw22.SizechangeAssociates'. -/
def sizechangeAssociatesCard : Claim7 := { stood := { row := sizechangeAssociatesRow, standIns := [], harness := (true, "1dbcf93f5edb9aa2aca15ed56dafbf1302751340199c16d2fe4a965f4c8296e3"), looks := false }, kinds := [], alts := [], laidByText := true, laidKinds := [.data, .data, .data], laidTests := true, laidLooks := .later }
def SizechangeAssociatesCardSaid : Prop := Claim7.holds Tryd.pinned (.plain (OpenSpec.ofChange sizechangeAssociatesSpec)) sizechangeAssociatesCard

/-- THE TIED CARD OF 'euclidlaw22.SizechangeClosed'. -/
def sizechangeClosedCard : Claim7 := { stood := { row := sizechangeClosedRow, standIns := [], harness := (true, "1dbcf93f5edb9aa2aca15ed56dafbf1302751340199c16d2fe4a965f4c8296e3"), looks := false }, kinds := [], alts := [], laidByText := true, laidKinds := [.data, .data, .data], laidTests := true, laidLooks := .later }
def SizechangeClosedCardSaid : Prop := Claim7.holds Tryd.pinned (.plain (OpenSpec.ofChange sizechangeClosedSpec)) sizechangeClosedCard

/-- THE TIED CARD OF 'euclidlaw22.SizechangeWitness'. -/
def sizechangeWitnessCard : Claim7 := { stood := { row := sizechangeWitnessRow, standIns := [], harness := (true, "1dbcf93f5edb9aa2aca15ed56dafbf1302751340199c16d2fe4a965f4c8296e3"), looks := false }, kinds := [], alts := [], laidByText := true, laidKinds := [.data, .data, .data], laidTests := true, laidLooks := .later }
def SizechangeWitnessCardSaid : Prop := Claim7.holds Tryd.pinned (.plain (OpenSpec.ofChange sizechangeWitnessSpec)) sizechangeWitnessCard

/-- THE TIED CARD OF 'euclidlaw22.SizechangeCycles'. -/
def sizechangeCyclesCard : Claim7 := { stood := { row := sizechangeCyclesRow, standIns := [], harness := (true, "1dbcf93f5edb9aa2aca15ed56dafbf1302751340199c16d2fe4a965f4c8296e3"), looks := false }, kinds := [], alts := [], laidByText := true, laidKinds := [.data, .data, .data], laidTests := true, laidLooks := .later }
def SizechangeCyclesCardSaid : Prop := Claim7.holds Tryd.pinned (.plain (OpenSpec.ofChange sizechangeCyclesSpec)) sizechangeCyclesCard

/-- THE TIED CARD OF 'euclidtop.TopSizeChange'. -/
def topSizeChangeCard : Claim7 := { stood := { row := topSizeChangeRow, standIns := [], harness := (true, "1dbcf93f5edb9aa2aca15ed56dafbf1302751340199c16d2fe4a965f4c8296e3"), looks := false }, kinds := [], alts := [], laidByText := true, laidKinds := [.data, .data, .data], laidTests := true, laidLooks := .later }
def TopSizeChangeCardSaid : Prop := Claim7.holds Tryd.pinned (.plain (OpenSpec.ofChange topSizeChangeSpec)) topSizeChangeCard

/-- THE TIED CARD OF 'euclidtop.TopSizeChangeRefused'. -/
def topSizeChangeRefusedCard : Claim7 := { stood := { row := topSizeChangeRefusedRow, standIns := [], harness := (true, "1dbcf93f5edb9aa2aca15ed56dafbf1302751340199c16d2fe4a965f4c8296e3"), looks := false }, kinds := [], alts := [], laidByText := true, laidKinds := [.data, .data, .data], laidTests := true, laidLooks := .later }
def TopSizeChangeRefusedCardSaid : Prop := Claim7.holds Tryd.pinned (.plain (OpenSpec.ofChange topSizeChangeRefusedSpec)) topSizeChangeRefusedCard

/-- THE SECOND FORM's CARD OF 'euclidlaw22.SizechangeCloses'. -/
def sizechangeClosesUptoCard : Claim7 := { stood := { row := sizechangeClosesUptoRow, standIns := [], harness := (true, "1dbcf93f5edb9aa2aca15ed56dafbf1302751340199c16d2fe4a965f4c8296e3"), looks := false }, kinds := [], alts := [], laidByText := true, laidKinds := [.data, .data, .data], laidTests := true, laidLooks := .later }
def SizechangeClosesUptoCardSaid : Prop := Claim7.holds Tryd.pinned (.plain (OpenSpec.upto sizechangeClosesSpec)) sizechangeClosesUptoCard

/-- THE SECOND FORM's CARD OF 'euclidlaw22.SizechangeDecides'. -/
def sizechangeDecidesUptoCard : Claim7 := { stood := { row := sizechangeDecidesUptoRow, standIns := [], harness := (true, "1dbcf93f5edb9aa2aca15ed56dafbf1302751340199c16d2fe4a965f4c8296e3"), looks := false }, kinds := [], alts := [], laidByText := true, laidKinds := [.data, .data, .data], laidTests := true, laidLooks := .later }
def SizechangeDecidesUptoCardSaid : Prop := Claim7.holds Tryd.pinned (.plain (OpenSpec.upto sizechangeDecidesSpec)) sizechangeDecidesUptoCard

/-- THE SECOND FORM's CARD OF 'euclidlaw22.SizechangeComposes'. -/
def sizechangeComposesUptoCard : Claim7 := { stood := { row := sizechangeComposesUptoRow, standIns := [], harness := (true, "1dbcf93f5edb9aa2aca15ed56dafbf1302751340199c16d2fe4a965f4c8296e3"), looks := false }, kinds := [], alts := [], laidByText := true, laidKinds := [.data, .data, .data], laidTests := true, laidLooks := .later }
def SizechangeComposesUptoCardSaid : Prop := Claim7.holds Tryd.pinned (.plain (OpenSpec.upto sizechangeComposesSpec)) sizechangeComposesUptoCard

/-- THE SECOND FORM's CARD OF 'euclidlaw22.SizechangeAssociates'. -/
def sizechangeAssociatesUptoCard : Claim7 := { stood := { row := sizechangeAssociatesUptoRow, standIns := [], harness := (true, "1dbcf93f5edb9aa2aca15ed56dafbf1302751340199c16d2fe4a965f4c8296e3"), looks := false }, kinds := [], alts := [], laidByText := true, laidKinds := [.data, .data, .data], laidTests := true, laidLooks := .later }
def SizechangeAssociatesUptoCardSaid : Prop := Claim7.holds Tryd.pinned (.plain (OpenSpec.upto sizechangeAssociatesSpec)) sizechangeAssociatesUptoCard

/-- THE SECOND FORM's CARD OF 'euclidlaw22.SizechangeClosed'. -/
def sizechangeClosedUptoCard : Claim7 := { stood := { row := sizechangeClosedUptoRow, standIns := [], harness := (true, "1dbcf93f5edb9aa2aca15ed56dafbf1302751340199c16d2fe4a965f4c8296e3"), looks := false }, kinds := [], alts := [], laidByText := true, laidKinds := [.data, .data, .data], laidTests := true, laidLooks := .later }
def SizechangeClosedUptoCardSaid : Prop := Claim7.holds Tryd.pinned (.plain (OpenSpec.upto sizechangeClosedSpec)) sizechangeClosedUptoCard

/-- THE SECOND FORM's CARD OF 'euclidlaw22.SizechangeWitness'. -/
def sizechangeWitnessUptoCard : Claim7 := { stood := { row := sizechangeWitnessUptoRow, standIns := [], harness := (true, "1dbcf93f5edb9aa2aca15ed56dafbf1302751340199c16d2fe4a965f4c8296e3"), looks := false }, kinds := [], alts := [], laidByText := true, laidKinds := [.data, .data, .data], laidTests := true, laidLooks := .later }
def SizechangeWitnessUptoCardSaid : Prop := Claim7.holds Tryd.pinned (.plain (OpenSpec.upto sizechangeWitnessSpec)) sizechangeWitnessUptoCard

/-- THE SECOND FORM's CARD OF 'euclidlaw22.SizechangeCycles'. -/
def sizechangeCyclesUptoCard : Claim7 := { stood := { row := sizechangeCyclesUptoRow, standIns := [], harness := (true, "1dbcf93f5edb9aa2aca15ed56dafbf1302751340199c16d2fe4a965f4c8296e3"), looks := false }, kinds := [], alts := [], laidByText := true, laidKinds := [.data, .data, .data], laidTests := true, laidLooks := .later }
def SizechangeCyclesUptoCardSaid : Prop := Claim7.holds Tryd.pinned (.plain (OpenSpec.upto sizechangeCyclesSpec)) sizechangeCyclesUptoCard

/-- THE SECOND FORM's CARD OF 'euclidtop.TopSizeChange'. -/
def topSizeChangeUptoCard : Claim7 := { stood := { row := topSizeChangeUptoRow, standIns := [], harness := (true, "1dbcf93f5edb9aa2aca15ed56dafbf1302751340199c16d2fe4a965f4c8296e3"), looks := false }, kinds := [], alts := [], laidByText := true, laidKinds := [.data, .data, .data], laidTests := true, laidLooks := .later }
def TopSizeChangeUptoCardSaid : Prop := Claim7.holds Tryd.pinned (.plain (OpenSpec.upto topSizeChangeSpec)) topSizeChangeUptoCard

/-- THE SECOND FORM's CARD OF 'euclidtop.TopSizeChangeRefused'. -/
def topSizeChangeRefusedUptoCard : Claim7 := { stood := { row := topSizeChangeRefusedUptoRow, standIns := [], harness := (true, "1dbcf93f5edb9aa2aca15ed56dafbf1302751340199c16d2fe4a965f4c8296e3"), looks := false }, kinds := [], alts := [], laidByText := true, laidKinds := [.data, .data, .data], laidTests := true, laidLooks := .later }
def TopSizeChangeRefusedUptoCardSaid : Prop := Claim7.holds Tryd.pinned (.plain (OpenSpec.upto topSizeChangeRefusedSpec)) topSizeChangeRefusedUptoCard
end Rows
end Go.Proofs.YtodnkbnbjhcikaaDoor
