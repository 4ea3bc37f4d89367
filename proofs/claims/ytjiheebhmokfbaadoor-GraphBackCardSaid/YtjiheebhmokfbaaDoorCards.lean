/-
  DERIVED. GIVEN WITH THE SEED: THE CARDS: each row of YtjiheebhmokfbaaDoorRows.lean that lists a variable, with what it lists TIED to the program's text (the seventh form; the later family's looks); each row that meets fmt, with fmt's text TOLD by the authors' own Lean function (tested against real Go, not proved from fmt's source: count such statements apart). THE CARD IS WHAT COUNTS. Prove the row's statement (the work); the ties are given (YtjiheebhmokfbaaDoorTie.lean); close each card by the builder's one call (the guide's Derived/Test/ToyasCard.lean, 'card_holds'). Laid BY PROGRAM, IN A SANDBOX (cutbox-door.mjs). By AI agents, Wed Nov 11 2026. No macro, syntax, notation, axiom, sorry.
-/
import Derived.Test.YtjiheebhmokfbaaDoorRows
import GoSem.ClaimSeven
namespace Go.Proofs.YtjiheebhmokfbaaDoor
namespace Rows

/-- THE TIED CARD OF 'euclidlaw50.GraphChecks'. -/
def graphChecksCard : Claim7 := { stood := { row := graphChecksRow, standIns := [], harness := (true, "f8525b4fee2b48f010131804dc9daea4444964d94cfe33c78c734218f42f25e2"), looks := false }, kinds := [], alts := [], laidByText := true, laidKinds := [.data, .data, .data], laidTests := true, laidLooks := .later }
def GraphChecksCardSaid : Prop := Claim7.holds Tryd.pinned (.plain (OpenSpec.ofChange graphChecksSpec)) graphChecksCard

/-- THE TIED CARD OF 'euclidlaw50.GraphAdds'. -/
def graphAddsCard : Claim7 := { stood := { row := graphAddsRow, standIns := [], harness := (true, "f8525b4fee2b48f010131804dc9daea4444964d94cfe33c78c734218f42f25e2"), looks := false }, kinds := [], alts := [], laidByText := true, laidKinds := [.data, .data, .data], laidTests := true, laidLooks := .later }
def GraphAddsCardSaid : Prop := Claim7.holds Tryd.pinned (.plain (OpenSpec.ofChange graphAddsSpec)) graphAddsCard

/-- THE TIED CARD OF 'euclidlaw50.GraphLifts'. -/
def graphLiftsCard : Claim7 := { stood := { row := graphLiftsRow, standIns := [], harness := (true, "f8525b4fee2b48f010131804dc9daea4444964d94cfe33c78c734218f42f25e2"), looks := false }, kinds := [], alts := [], laidByText := true, laidKinds := [.data, .data, .data], laidTests := true, laidLooks := .later }
def GraphLiftsCardSaid : Prop := Claim7.holds Tryd.pinned (.plain (OpenSpec.ofChange graphLiftsSpec)) graphLiftsCard

/-- THE TIED CARD OF 'euclidlaw50.GraphPuts'. -/
def graphPutsCard : Claim7 := { stood := { row := graphPutsRow, standIns := [], harness := (true, "f8525b4fee2b48f010131804dc9daea4444964d94cfe33c78c734218f42f25e2"), looks := false }, kinds := [], alts := [], laidByText := true, laidKinds := [.data, .data, .data], laidTests := true, laidLooks := .later }
def GraphPutsCardSaid : Prop := Claim7.holds Tryd.pinned (.plain (OpenSpec.ofChange graphPutsSpec)) graphPutsCard

/-- THE TIED CARD OF 'euclidlaw50.GraphShares'. -/
def graphSharesCard : Claim7 := { stood := { row := graphSharesRow, standIns := [], harness := (true, "f8525b4fee2b48f010131804dc9daea4444964d94cfe33c78c734218f42f25e2"), looks := false }, kinds := [], alts := [], laidByText := true, laidKinds := [.data, .data, .data], laidTests := true, laidLooks := .later }
def GraphSharesCardSaid : Prop := Claim7.holds Tryd.pinned (.plain (OpenSpec.ofChange graphSharesSpec)) graphSharesCard

/-- THE TIED CARD OF 'euclidlaw50.GraphBack'. -/
def graphBackCard : Claim7 := { stood := { row := graphBackRow, standIns := [], harness := (true, "f8525b4fee2b48f010131804dc9daea4444964d94cfe33c78c734218f42f25e2"), looks := false }, kinds := [], alts := [], laidByText := true, laidKinds := [.data, .data, .data], laidTests := true, laidLooks := .later }
def GraphBackCardSaid : Prop := Claim7.holds Tryd.pinned (.plain (OpenSpec.ofChange graphBackSpec)) graphBackCard

/-- THE TIED CARD OF 'euclidlaw50.GraphTerms'. -/
def graphTermsCard : Claim7 := { stood := { row := graphTermsRow, standIns := [], harness := (true, "f8525b4fee2b48f010131804dc9daea4444964d94cfe33c78c734218f42f25e2"), looks := false }, kinds := [], alts := [], laidByText := true, laidKinds := [.data, .data, .data], laidTests := true, laidLooks := .later }
def GraphTermsCardSaid : Prop := Claim7.holds Tryd.pinned (.plain (OpenSpec.ofChange graphTermsSpec)) graphTermsCard

/-- THE SECOND FORM's CARD OF 'euclidlaw50.GraphChecks'. -/
def graphChecksUptoCard : Claim7 := { stood := { row := graphChecksUptoRow, standIns := [], harness := (true, "f8525b4fee2b48f010131804dc9daea4444964d94cfe33c78c734218f42f25e2"), looks := false }, kinds := [], alts := [], laidByText := true, laidKinds := [.data, .data, .data], laidTests := true, laidLooks := .later }
def GraphChecksUptoCardSaid : Prop := Claim7.holds Tryd.pinned (.plain (OpenSpec.upto graphChecksSpec)) graphChecksUptoCard

/-- THE SECOND FORM's CARD OF 'euclidlaw50.GraphAdds'. -/
def graphAddsUptoCard : Claim7 := { stood := { row := graphAddsUptoRow, standIns := [], harness := (true, "f8525b4fee2b48f010131804dc9daea4444964d94cfe33c78c734218f42f25e2"), looks := false }, kinds := [], alts := [], laidByText := true, laidKinds := [.data, .data, .data], laidTests := true, laidLooks := .later }
def GraphAddsUptoCardSaid : Prop := Claim7.holds Tryd.pinned (.plain (OpenSpec.upto graphAddsSpec)) graphAddsUptoCard

/-- THE SECOND FORM's CARD OF 'euclidlaw50.GraphLifts'. -/
def graphLiftsUptoCard : Claim7 := { stood := { row := graphLiftsUptoRow, standIns := [], harness := (true, "f8525b4fee2b48f010131804dc9daea4444964d94cfe33c78c734218f42f25e2"), looks := false }, kinds := [], alts := [], laidByText := true, laidKinds := [.data, .data, .data], laidTests := true, laidLooks := .later }
def GraphLiftsUptoCardSaid : Prop := Claim7.holds Tryd.pinned (.plain (OpenSpec.upto graphLiftsSpec)) graphLiftsUptoCard

/-- THE SECOND FORM's CARD OF 'euclidlaw50.GraphPuts'. -/
def graphPutsUptoCard : Claim7 := { stood := { row := graphPutsUptoRow, standIns := [], harness := (true, "f8525b4fee2b48f010131804dc9daea4444964d94cfe33c78c734218f42f25e2"), looks := false }, kinds := [], alts := [], laidByText := true, laidKinds := [.data, .data, .data], laidTests := true, laidLooks := .later }
def GraphPutsUptoCardSaid : Prop := Claim7.holds Tryd.pinned (.plain (OpenSpec.upto graphPutsSpec)) graphPutsUptoCard

/-- THE SECOND FORM's CARD OF 'euclidlaw50.GraphShares'. -/
def graphSharesUptoCard : Claim7 := { stood := { row := graphSharesUptoRow, standIns := [], harness := (true, "f8525b4fee2b48f010131804dc9daea4444964d94cfe33c78c734218f42f25e2"), looks := false }, kinds := [], alts := [], laidByText := true, laidKinds := [.data, .data, .data], laidTests := true, laidLooks := .later }
def GraphSharesUptoCardSaid : Prop := Claim7.holds Tryd.pinned (.plain (OpenSpec.upto graphSharesSpec)) graphSharesUptoCard

/-- THE SECOND FORM's CARD OF 'euclidlaw50.GraphBack'. -/
def graphBackUptoCard : Claim7 := { stood := { row := graphBackUptoRow, standIns := [], harness := (true, "f8525b4fee2b48f010131804dc9daea4444964d94cfe33c78c734218f42f25e2"), looks := false }, kinds := [], alts := [], laidByText := true, laidKinds := [.data, .data, .data], laidTests := true, laidLooks := .later }
def GraphBackUptoCardSaid : Prop := Claim7.holds Tryd.pinned (.plain (OpenSpec.upto graphBackSpec)) graphBackUptoCard

/-- THE SECOND FORM's CARD OF 'euclidlaw50.GraphTerms'. -/
def graphTermsUptoCard : Claim7 := { stood := { row := graphTermsUptoRow, standIns := [], harness := (true, "f8525b4fee2b48f010131804dc9daea4444964d94cfe33c78c734218f42f25e2"), looks := false }, kinds := [], alts := [], laidByText := true, laidKinds := [.data, .data, .data], laidTests := true, laidLooks := .later }
def GraphTermsUptoCardSaid : Prop := Claim7.holds Tryd.pinned (.plain (OpenSpec.upto graphTermsSpec)) graphTermsUptoCard
end Rows
end Go.Proofs.YtjiheebhmokfbaaDoor
