/-
  DERIVED. GIVEN WITH THE SEED: THE CARDS: each row of YtglembbmmnakaaaDoorRows.lean that lists a variable, with what it lists TIED to the program's text (the seventh form; the later family's looks); each row that meets fmt, with fmt's text TOLD by the authors' own Lean function (tested against real Go, not proved from fmt's source: count such statements apart). THE CARD IS WHAT COUNTS. Prove the row's statement (the work); the ties are given (YtglembbmmnakaaaDoorTie.lean); close each card by the builder's one call (the guide's Derived/Test/ToyasCard.lean, 'card_holds'). Laid BY PROGRAM, IN A SANDBOX (cutbox-door.mjs). By AI agents, Wed Nov 11 2026. No macro, syntax, notation, axiom, sorry.
-/
import Derived.Test.YtglembbmmnakaaaDoorRows
import GoSem.ClaimSeven
namespace Go.Proofs.YtglembbmmnakaaaDoor
namespace Rows

/-- THE TIED CARD OF 'euclidlaw41.FarkasBounds'. -/
def farkasBoundsCard : Claim7 := { stood := { row := farkasBoundsRow, standIns := [], harness := (true, "2b48563415bca89b875e60035a8c5b194520fd26329b9efbd13e5b85a184748d"), looks := true }, kinds := [], alts := [], laidByText := true, laidKinds := [.data, .data, .data], laidTests := true, laidLooks := .later }
def FarkasBoundsCardSaid : Prop := Claim7.holds Tryd.pinned (.plain (OpenSpec.ofChange farkasBoundsSpec)) farkasBoundsCard

/-- THE TIED CARD OF 'euclidlaw41.FarkasRefutes'. -/
def farkasRefutesCard : Claim7 := { stood := { row := farkasRefutesRow, standIns := [], harness := (true, "2b48563415bca89b875e60035a8c5b194520fd26329b9efbd13e5b85a184748d"), looks := true }, kinds := [], alts := [], laidByText := true, laidKinds := [.data, .data, .data], laidTests := true, laidLooks := .later }
def FarkasRefutesCardSaid : Prop := Claim7.holds Tryd.pinned (.plain (OpenSpec.ofChange farkasRefutesSpec)) farkasRefutesCard

/-- THE TIED CARD OF 'euclidlaw41.FarkasChecks'. -/
def farkasChecksCard : Claim7 := { stood := { row := farkasChecksRow, standIns := [], harness := (true, "2b48563415bca89b875e60035a8c5b194520fd26329b9efbd13e5b85a184748d"), looks := true }, kinds := [], alts := [], laidByText := true, laidKinds := [.data, .data, .data], laidTests := true, laidLooks := .later }
def FarkasChecksCardSaid : Prop := Claim7.holds Tryd.pinned (.plain (OpenSpec.ofChange farkasChecksSpec)) farkasChecksCard

/-- THE TIED CARD OF 'euclidlaw41.FarkasPoints'. -/
def farkasPointsCard : Claim7 := { stood := { row := farkasPointsRow, standIns := [], harness := (true, "2b48563415bca89b875e60035a8c5b194520fd26329b9efbd13e5b85a184748d"), looks := true }, kinds := [], alts := [], laidByText := true, laidKinds := [.data, .data, .data], laidTests := true, laidLooks := .later }
def FarkasPointsCardSaid : Prop := Claim7.holds Tryd.pinned (.plain (OpenSpec.ofChange farkasPointsSpec)) farkasPointsCard

/-- THE TIED CARD OF 'euclidlaw41.FarkasCertifies'. -/
def farkasCertifiesCard : Claim7 := { stood := { row := farkasCertifiesRow, standIns := [], harness := (true, "2b48563415bca89b875e60035a8c5b194520fd26329b9efbd13e5b85a184748d"), looks := true }, kinds := [], alts := [], laidByText := true, laidKinds := [.data, .data, .data], laidTests := true, laidLooks := .later }
def FarkasCertifiesCardSaid : Prop := Claim7.holds Tryd.pinned (.plain (OpenSpec.ofChange farkasCertifiesSpec)) farkasCertifiesCard

/-- THE TIED CARD OF 'euclidlaw41.FarkasSearches'. -/
def farkasSearchesCard : Claim7 := { stood := { row := farkasSearchesRow, standIns := [], harness := (true, "2b48563415bca89b875e60035a8c5b194520fd26329b9efbd13e5b85a184748d"), looks := true }, kinds := [], alts := [], laidByText := true, laidKinds := [.data, .data, .data], laidTests := true, laidLooks := .later }
def FarkasSearchesCardSaid : Prop := Claim7.holds Tryd.pinned (.plain (OpenSpec.ofChange farkasSearchesSpec)) farkasSearchesCard

/-- THE TIED CARD OF 'euclidlaw41.FarkasScales'. -/
def farkasScalesCard : Claim7 := { stood := { row := farkasScalesRow, standIns := [], harness := (true, "2b48563415bca89b875e60035a8c5b194520fd26329b9efbd13e5b85a184748d"), looks := true }, kinds := [], alts := [], laidByText := true, laidKinds := [.data, .data, .data], laidTests := true, laidLooks := .later }
def FarkasScalesCardSaid : Prop := Claim7.holds Tryd.pinned (.plain (OpenSpec.ofChange farkasScalesSpec)) farkasScalesCard

/-- THE SECOND FORM's CARD OF 'euclidlaw41.FarkasBounds'. -/
def farkasBoundsUptoCard : Claim7 := { stood := { row := farkasBoundsUptoRow, standIns := [], harness := (true, "2b48563415bca89b875e60035a8c5b194520fd26329b9efbd13e5b85a184748d"), looks := true }, kinds := [], alts := [], laidByText := true, laidKinds := [.data, .data, .data], laidTests := true, laidLooks := .later }
def FarkasBoundsUptoCardSaid : Prop := Claim7.holds Tryd.pinned (.plain (OpenSpec.upto farkasBoundsSpec)) farkasBoundsUptoCard

/-- THE SECOND FORM's CARD OF 'euclidlaw41.FarkasRefutes'. -/
def farkasRefutesUptoCard : Claim7 := { stood := { row := farkasRefutesUptoRow, standIns := [], harness := (true, "2b48563415bca89b875e60035a8c5b194520fd26329b9efbd13e5b85a184748d"), looks := true }, kinds := [], alts := [], laidByText := true, laidKinds := [.data, .data, .data], laidTests := true, laidLooks := .later }
def FarkasRefutesUptoCardSaid : Prop := Claim7.holds Tryd.pinned (.plain (OpenSpec.upto farkasRefutesSpec)) farkasRefutesUptoCard

/-- THE SECOND FORM's CARD OF 'euclidlaw41.FarkasChecks'. -/
def farkasChecksUptoCard : Claim7 := { stood := { row := farkasChecksUptoRow, standIns := [], harness := (true, "2b48563415bca89b875e60035a8c5b194520fd26329b9efbd13e5b85a184748d"), looks := true }, kinds := [], alts := [], laidByText := true, laidKinds := [.data, .data, .data], laidTests := true, laidLooks := .later }
def FarkasChecksUptoCardSaid : Prop := Claim7.holds Tryd.pinned (.plain (OpenSpec.upto farkasChecksSpec)) farkasChecksUptoCard

/-- THE SECOND FORM's CARD OF 'euclidlaw41.FarkasPoints'. -/
def farkasPointsUptoCard : Claim7 := { stood := { row := farkasPointsUptoRow, standIns := [], harness := (true, "2b48563415bca89b875e60035a8c5b194520fd26329b9efbd13e5b85a184748d"), looks := true }, kinds := [], alts := [], laidByText := true, laidKinds := [.data, .data, .data], laidTests := true, laidLooks := .later }
def FarkasPointsUptoCardSaid : Prop := Claim7.holds Tryd.pinned (.plain (OpenSpec.upto farkasPointsSpec)) farkasPointsUptoCard

/-- THE SECOND FORM's CARD OF 'euclidlaw41.FarkasCertifies'. -/
def farkasCertifiesUptoCard : Claim7 := { stood := { row := farkasCertifiesUptoRow, standIns := [], harness := (true, "2b48563415bca89b875e60035a8c5b194520fd26329b9efbd13e5b85a184748d"), looks := true }, kinds := [], alts := [], laidByText := true, laidKinds := [.data, .data, .data], laidTests := true, laidLooks := .later }
def FarkasCertifiesUptoCardSaid : Prop := Claim7.holds Tryd.pinned (.plain (OpenSpec.upto farkasCertifiesSpec)) farkasCertifiesUptoCard

/-- THE SECOND FORM's CARD OF 'euclidlaw41.FarkasSearches'. -/
def farkasSearchesUptoCard : Claim7 := { stood := { row := farkasSearchesUptoRow, standIns := [], harness := (true, "2b48563415bca89b875e60035a8c5b194520fd26329b9efbd13e5b85a184748d"), looks := true }, kinds := [], alts := [], laidByText := true, laidKinds := [.data, .data, .data], laidTests := true, laidLooks := .later }
def FarkasSearchesUptoCardSaid : Prop := Claim7.holds Tryd.pinned (.plain (OpenSpec.upto farkasSearchesSpec)) farkasSearchesUptoCard

/-- THE SECOND FORM's CARD OF 'euclidlaw41.FarkasScales'. -/
def farkasScalesUptoCard : Claim7 := { stood := { row := farkasScalesUptoRow, standIns := [], harness := (true, "2b48563415bca89b875e60035a8c5b194520fd26329b9efbd13e5b85a184748d"), looks := true }, kinds := [], alts := [], laidByText := true, laidKinds := [.data, .data, .data], laidTests := true, laidLooks := .later }
def FarkasScalesUptoCardSaid : Prop := Claim7.holds Tryd.pinned (.plain (OpenSpec.upto farkasScalesSpec)) farkasScalesUptoCard
end Rows
end Go.Proofs.YtglembbmmnakaaaDoor
