/-
  DERIVED. GIVEN WITH THE SEED: THE CARDS: each row of YthimfoonalfoeaaGreatDoorRows.lean that lists a variable, with what it lists TIED to the program's text (the seventh form; the later family's looks); each row that meets fmt, with fmt's text TOLD by the authors' own Lean function (tested against real Go, not proved from fmt's source: count such statements apart). THE CARD IS WHAT COUNTS. Prove the row's statement (the work); the ties are given (YthimfoonalfoeaaGreatDoorTie.lean); close each card by the builder's one call (the guide's Derived/Test/ToyasCard.lean, 'card_holds'). Laid BY PROGRAM, IN A SANDBOX (cutbox-door.mjs). By AI agents, Wed Nov 11 2026. No macro, syntax, notation, axiom, sorry.
-/
import Derived.Test.YthimfoonalfoeaaGreatDoorRows
import GoSem.ClaimSeven
namespace Go.Proofs.YthimfoonalfoeaaGreatDoor
namespace Rows

/-- THE TIED CARD OF 'broadsidelaw04.PrintBack'. -/
def printBackCard : Claim7 := { stood := { row := printBackRow, standIns := [], harness := (true, "d5ec84a45be1d31d7d5bd480bc3bd83476c5d7dffcc3a9b62d03c0876648e3a2"), looks := true }, kinds := [], alts := [], laidByText := true, laidKinds := [.data, .data, .data, .data, .sentinel, .sentinel, .pinned], laidTests := true, laidLooks := .later }
def PrintBackCardSaid : Prop := Claim7.holds Tryz.pinned (.plain (OpenSpec.ofChange printBackSpec)) printBackCard

/-- THE TIED CARD OF 'broadsidelaw04.PrintOne'. -/
def printOneCard : Claim7 := { stood := { row := printOneRow, standIns := [], harness := (true, "d5ec84a45be1d31d7d5bd480bc3bd83476c5d7dffcc3a9b62d03c0876648e3a2"), looks := true }, kinds := [], alts := [], laidByText := true, laidKinds := [.data, .data, .data, .data, .sentinel, .sentinel, .pinned], laidTests := true, laidLooks := .later }
def PrintOneCardSaid : Prop := Claim7.holds Tryz.pinned (.plain (OpenSpec.ofChange printOneSpec)) printOneCard

/-- THE TIED CARD OF 'broadsidelaw04.PrintPairs'. -/
def printPairsCard : Claim7 := { stood := { row := printPairsRow, standIns := [], harness := (true, "d5ec84a45be1d31d7d5bd480bc3bd83476c5d7dffcc3a9b62d03c0876648e3a2"), looks := true }, kinds := [], alts := [], laidByText := true, laidKinds := [.data, .data, .data, .data, .sentinel, .sentinel, .pinned], laidTests := true, laidLooks := .later }
def PrintPairsCardSaid : Prop := Claim7.holds Tryz.pinned (.plain (OpenSpec.ofChange printPairsSpec)) printPairsCard

/-- THE SECOND FORM's CARD OF 'broadsidelaw04.PrintBack'. -/
def printBackUptoCard : Claim7 := { stood := { row := printBackUptoRow, standIns := [], harness := (true, "d5ec84a45be1d31d7d5bd480bc3bd83476c5d7dffcc3a9b62d03c0876648e3a2"), looks := true }, kinds := [], alts := [], laidByText := true, laidKinds := [.data, .data, .data, .data, .sentinel, .sentinel, .pinned], laidTests := true, laidLooks := .later }
def PrintBackUptoCardSaid : Prop := Claim7.holds Tryz.pinned (.plain (OpenSpec.upto printBackSpec)) printBackUptoCard

/-- THE SECOND FORM's CARD OF 'broadsidelaw04.PrintOne'. -/
def printOneUptoCard : Claim7 := { stood := { row := printOneUptoRow, standIns := [], harness := (true, "d5ec84a45be1d31d7d5bd480bc3bd83476c5d7dffcc3a9b62d03c0876648e3a2"), looks := true }, kinds := [], alts := [], laidByText := true, laidKinds := [.data, .data, .data, .data, .sentinel, .sentinel, .pinned], laidTests := true, laidLooks := .later }
def PrintOneUptoCardSaid : Prop := Claim7.holds Tryz.pinned (.plain (OpenSpec.upto printOneSpec)) printOneUptoCard

/-- THE SECOND FORM's CARD OF 'broadsidelaw04.PrintPairs'. -/
def printPairsUptoCard : Claim7 := { stood := { row := printPairsUptoRow, standIns := [], harness := (true, "d5ec84a45be1d31d7d5bd480bc3bd83476c5d7dffcc3a9b62d03c0876648e3a2"), looks := true }, kinds := [], alts := [], laidByText := true, laidKinds := [.data, .data, .data, .data, .sentinel, .sentinel, .pinned], laidTests := true, laidLooks := .later }
def PrintPairsUptoCardSaid : Prop := Claim7.holds Tryz.pinned (.plain (OpenSpec.upto printPairsSpec)) printPairsUptoCard
end Rows
end Go.Proofs.YthimfoonalfoeaaGreatDoor
