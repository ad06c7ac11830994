/-
  DERIVED. GIVEN WITH THE SEED: THE CARDS: each row of YtflehiokbbldgaaDoorRows.lean that lists a variable, with what it lists TIED to the program's text (the seventh form; the later family's looks); each row that meets fmt, with fmt's text TOLD by the authors' own Lean function (tested against real Go, not proved from fmt's source: count such statements apart). THE CARD IS WHAT COUNTS. Prove the row's statement (the work); the ties are given (YtflehiokbbldgaaDoorTie.lean); close each card by the builder's one call (the guide's Derived/Test/ToyasCard.lean, 'card_holds'). Laid BY PROGRAM, IN A SANDBOX (cutbox-door.mjs). By AI agents, Wed Nov 11 2026. No macro, syntax, notation, axiom, sorry.
-/
import Derived.Test.YtflehiokbbldgaaDoorRows
import GoSem.ClaimSeven
namespace Go.Proofs.YtflehiokbbldgaaDoor
namespace Rows

/-- THE TIED CARD OF 'broadsidelaw01.FixedParses'. -/
def fixedParsesCard : Claim7 := { stood := { row := fixedParsesRow, standIns := [], harness := (true, "8b7b922b56607582c83b214d45a07005e2cc7a41d691723e411f61563c5dff93"), looks := true }, kinds := [], alts := [], laidByText := true, laidKinds := [.data, .data, .data, .data, .sentinel, .sentinel, .pinned], laidTests := true, laidLooks := .later }
def FixedParsesCardSaid : Prop := Claim7.holds Tryd.pinned (.plain (OpenSpec.ofChange fixedParsesSpec)) fixedParsesCard

/-- THE TIED CARD OF 'broadsidelaw01.FixedPrints'. -/
def fixedPrintsCard : Claim7 := { stood := { row := fixedPrintsRow, standIns := [], harness := (true, "8b7b922b56607582c83b214d45a07005e2cc7a41d691723e411f61563c5dff93"), looks := true }, kinds := [], alts := [], laidByText := true, laidKinds := [.data, .data, .data, .data, .sentinel, .sentinel, .pinned], laidTests := true, laidLooks := .later }
def FixedPrintsCardSaid : Prop := Claim7.holds Tryd.pinned (.plain (OpenSpec.ofChange fixedPrintsSpec)) fixedPrintsCard

/-- THE TIED CARD OF 'broadsidelaw01.FixedShifts'. -/
def fixedShiftsCard : Claim7 := { stood := { row := fixedShiftsRow, standIns := [], harness := (true, "8b7b922b56607582c83b214d45a07005e2cc7a41d691723e411f61563c5dff93"), looks := true }, kinds := [], alts := [], laidByText := true, laidKinds := [.data, .data, .data, .data, .sentinel, .sentinel, .pinned], laidTests := true, laidLooks := .later }
def FixedShiftsCardSaid : Prop := Claim7.holds Tryd.pinned (.plain (OpenSpec.ofChange fixedShiftsSpec)) fixedShiftsCard

/-- THE TIED CARD OF 'broadsidelaw01.FixedBegins'. -/
def fixedBeginsCard : Claim7 := { stood := { row := fixedBeginsRow, standIns := [], harness := (true, "8b7b922b56607582c83b214d45a07005e2cc7a41d691723e411f61563c5dff93"), looks := true }, kinds := [], alts := [], laidByText := true, laidKinds := [.data, .data, .data, .data, .sentinel, .sentinel, .pinned], laidTests := true, laidLooks := .later }
def FixedBeginsCardSaid : Prop := Claim7.holds Tryd.pinned (.plain (OpenSpec.ofChange fixedBeginsSpec)) fixedBeginsCard

/-- THE TIED CARD OF 'broadsidelaw01.FixedReckons'. -/
def fixedReckonsCard : Claim7 := { stood := { row := fixedReckonsRow, standIns := [], harness := (true, "8b7b922b56607582c83b214d45a07005e2cc7a41d691723e411f61563c5dff93"), looks := true }, kinds := [], alts := [], laidByText := true, laidKinds := [.data, .data, .data, .data, .sentinel, .sentinel, .pinned], laidTests := true, laidLooks := .later }
def FixedReckonsCardSaid : Prop := Claim7.holds Tryd.pinned (.plain (OpenSpec.ofChange fixedReckonsSpec)) fixedReckonsCard

/-- THE TIED CARD OF 'broadsidelaw01.FixedOrder'. -/
def fixedOrderCard : Claim7 := { stood := { row := fixedOrderRow, standIns := [], harness := (true, "8b7b922b56607582c83b214d45a07005e2cc7a41d691723e411f61563c5dff93"), looks := true }, kinds := [], alts := [], laidByText := true, laidKinds := [.data, .data, .data, .data, .sentinel, .sentinel, .pinned], laidTests := true, laidLooks := .later }
def FixedOrderCardSaid : Prop := Claim7.holds Tryd.pinned (.plain (OpenSpec.ofChange fixedOrderSpec)) fixedOrderCard

/-- THE TIED CARD OF 'broadsidelaw01.FixedSums'. -/
def fixedSumsCard : Claim7 := { stood := { row := fixedSumsRow, standIns := [], harness := (true, "8b7b922b56607582c83b214d45a07005e2cc7a41d691723e411f61563c5dff93"), looks := true }, kinds := [], alts := [], laidByText := true, laidKinds := [.data, .data, .data, .data, .sentinel, .sentinel, .pinned], laidTests := true, laidLooks := .later }
def FixedSumsCardSaid : Prop := Claim7.holds Tryd.pinned (.plain (OpenSpec.ofChange fixedSumsSpec)) fixedSumsCard

/-- THE SECOND FORM's CARD OF 'broadsidelaw01.FixedParses'. -/
def fixedParsesUptoCard : Claim7 := { stood := { row := fixedParsesUptoRow, standIns := [], harness := (true, "8b7b922b56607582c83b214d45a07005e2cc7a41d691723e411f61563c5dff93"), looks := true }, kinds := [], alts := [], laidByText := true, laidKinds := [.data, .data, .data, .data, .sentinel, .sentinel, .pinned], laidTests := true, laidLooks := .later }
def FixedParsesUptoCardSaid : Prop := Claim7.holds Tryd.pinned (.plain (OpenSpec.upto fixedParsesSpec)) fixedParsesUptoCard

/-- THE SECOND FORM's CARD OF 'broadsidelaw01.FixedPrints'. -/
def fixedPrintsUptoCard : Claim7 := { stood := { row := fixedPrintsUptoRow, standIns := [], harness := (true, "8b7b922b56607582c83b214d45a07005e2cc7a41d691723e411f61563c5dff93"), looks := true }, kinds := [], alts := [], laidByText := true, laidKinds := [.data, .data, .data, .data, .sentinel, .sentinel, .pinned], laidTests := true, laidLooks := .later }
def FixedPrintsUptoCardSaid : Prop := Claim7.holds Tryd.pinned (.plain (OpenSpec.upto fixedPrintsSpec)) fixedPrintsUptoCard

/-- THE SECOND FORM's CARD OF 'broadsidelaw01.FixedShifts'. -/
def fixedShiftsUptoCard : Claim7 := { stood := { row := fixedShiftsUptoRow, standIns := [], harness := (true, "8b7b922b56607582c83b214d45a07005e2cc7a41d691723e411f61563c5dff93"), looks := true }, kinds := [], alts := [], laidByText := true, laidKinds := [.data, .data, .data, .data, .sentinel, .sentinel, .pinned], laidTests := true, laidLooks := .later }
def FixedShiftsUptoCardSaid : Prop := Claim7.holds Tryd.pinned (.plain (OpenSpec.upto fixedShiftsSpec)) fixedShiftsUptoCard

/-- THE SECOND FORM's CARD OF 'broadsidelaw01.FixedBegins'. -/
def fixedBeginsUptoCard : Claim7 := { stood := { row := fixedBeginsUptoRow, standIns := [], harness := (true, "8b7b922b56607582c83b214d45a07005e2cc7a41d691723e411f61563c5dff93"), looks := true }, kinds := [], alts := [], laidByText := true, laidKinds := [.data, .data, .data, .data, .sentinel, .sentinel, .pinned], laidTests := true, laidLooks := .later }
def FixedBeginsUptoCardSaid : Prop := Claim7.holds Tryd.pinned (.plain (OpenSpec.upto fixedBeginsSpec)) fixedBeginsUptoCard

/-- THE SECOND FORM's CARD OF 'broadsidelaw01.FixedReckons'. -/
def fixedReckonsUptoCard : Claim7 := { stood := { row := fixedReckonsUptoRow, standIns := [], harness := (true, "8b7b922b56607582c83b214d45a07005e2cc7a41d691723e411f61563c5dff93"), looks := true }, kinds := [], alts := [], laidByText := true, laidKinds := [.data, .data, .data, .data, .sentinel, .sentinel, .pinned], laidTests := true, laidLooks := .later }
def FixedReckonsUptoCardSaid : Prop := Claim7.holds Tryd.pinned (.plain (OpenSpec.upto fixedReckonsSpec)) fixedReckonsUptoCard

/-- THE SECOND FORM's CARD OF 'broadsidelaw01.FixedOrder'. -/
def fixedOrderUptoCard : Claim7 := { stood := { row := fixedOrderUptoRow, standIns := [], harness := (true, "8b7b922b56607582c83b214d45a07005e2cc7a41d691723e411f61563c5dff93"), looks := true }, kinds := [], alts := [], laidByText := true, laidKinds := [.data, .data, .data, .data, .sentinel, .sentinel, .pinned], laidTests := true, laidLooks := .later }
def FixedOrderUptoCardSaid : Prop := Claim7.holds Tryd.pinned (.plain (OpenSpec.upto fixedOrderSpec)) fixedOrderUptoCard

/-- THE SECOND FORM's CARD OF 'broadsidelaw01.FixedSums'. -/
def fixedSumsUptoCard : Claim7 := { stood := { row := fixedSumsUptoRow, standIns := [], harness := (true, "8b7b922b56607582c83b214d45a07005e2cc7a41d691723e411f61563c5dff93"), looks := true }, kinds := [], alts := [], laidByText := true, laidKinds := [.data, .data, .data, .data, .sentinel, .sentinel, .pinned], laidTests := true, laidLooks := .later }
def FixedSumsUptoCardSaid : Prop := Claim7.holds Tryd.pinned (.plain (OpenSpec.upto fixedSumsSpec)) fixedSumsUptoCard
end Rows
end Go.Proofs.YtflehiokbbldgaaDoor
