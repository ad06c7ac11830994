/-
  DERIVED. GIVEN WITH THE SEED: THE CARDS: each row of YthimfoonalfoeaaDoorRows.lean that lists a variable, with what it lists TIED to the program's text (the seventh form; the later family's looks); each row that meets fmt, with fmt's text TOLD by the authors' own Lean function (tested against real Go, not proved from fmt's source: count such statements apart). THE CARD IS WHAT COUNTS. Prove the row's statement (the work); the ties are given (YthimfoonalfoeaaDoorTie.lean); close each card by the builder's one call (the guide's Derived/Test/ToyasCard.lean, 'card_holds'). Laid BY PROGRAM, IN A SANDBOX (cutbox-door.mjs). By AI agents, Wed Nov 11 2026. No macro, syntax, notation, axiom, sorry.
-/
import Derived.Test.YthimfoonalfoeaaDoorRows
import GoSem.ClaimSeven
namespace Go.Proofs.YthimfoonalfoeaaDoor
namespace Rows

/-- THE TIED CARD OF 'broadsidelaw04.PrintTells'. -/
def printTellsCard : Claim7 := { stood := { row := printTellsRow, standIns := [], harness := (true, "c62f3f05eb3bc941a6e9842c9c06670abb7ac37e3bc0b7ac8ce2af3d02fc7cf4"), looks := false }, kinds := [], alts := [], laidByText := true, laidKinds := [.data, .data, .data, .data, .pinned], laidTests := true, laidLooks := .later }
def PrintTellsCardSaid : Prop := Claim7.holds Tryd.pinned (.plain (OpenSpec.ofChange printTellsSpec)) printTellsCard

/-- THE TIED CARD OF 'broadsidelaw04.PrintSame'. -/
def printSameCard : Claim7 := { stood := { row := printSameRow, standIns := [], harness := (true, "c62f3f05eb3bc941a6e9842c9c06670abb7ac37e3bc0b7ac8ce2af3d02fc7cf4"), looks := false }, kinds := [], alts := [], laidByText := true, laidKinds := [.data, .data, .data, .data, .pinned], laidTests := true, laidLooks := .later }
def PrintSameCardSaid : Prop := Claim7.holds Tryd.pinned (.plain (OpenSpec.ofChange printSameSpec)) printSameCard

/-- THE TIED CARD OF 'broadsidelaw04.PrintAscii'. -/
def printAsciiCard : Claim7 := { stood := { row := printAsciiRow, standIns := [], harness := (true, "c62f3f05eb3bc941a6e9842c9c06670abb7ac37e3bc0b7ac8ce2af3d02fc7cf4"), looks := false }, kinds := [], alts := [], laidByText := true, laidKinds := [.data, .data, .data, .data, .pinned], laidTests := true, laidLooks := .later }
def PrintAsciiCardSaid : Prop := Claim7.holds Tryd.pinned (.plain (OpenSpec.ofChange printAsciiSpec)) printAsciiCard

/-- THE SECOND FORM's CARD OF 'broadsidelaw04.PrintTells'. -/
def printTellsUptoCard : Claim7 := { stood := { row := printTellsUptoRow, standIns := [], harness := (true, "c62f3f05eb3bc941a6e9842c9c06670abb7ac37e3bc0b7ac8ce2af3d02fc7cf4"), looks := false }, kinds := [], alts := [], laidByText := true, laidKinds := [.data, .data, .data, .data, .pinned], laidTests := true, laidLooks := .later }
def PrintTellsUptoCardSaid : Prop := Claim7.holds Tryd.pinned (.plain (OpenSpec.upto printTellsSpec)) printTellsUptoCard

/-- THE SECOND FORM's CARD OF 'broadsidelaw04.PrintSame'. -/
def printSameUptoCard : Claim7 := { stood := { row := printSameUptoRow, standIns := [], harness := (true, "c62f3f05eb3bc941a6e9842c9c06670abb7ac37e3bc0b7ac8ce2af3d02fc7cf4"), looks := false }, kinds := [], alts := [], laidByText := true, laidKinds := [.data, .data, .data, .data, .pinned], laidTests := true, laidLooks := .later }
def PrintSameUptoCardSaid : Prop := Claim7.holds Tryd.pinned (.plain (OpenSpec.upto printSameSpec)) printSameUptoCard

/-- THE SECOND FORM's CARD OF 'broadsidelaw04.PrintAscii'. -/
def printAsciiUptoCard : Claim7 := { stood := { row := printAsciiUptoRow, standIns := [], harness := (true, "c62f3f05eb3bc941a6e9842c9c06670abb7ac37e3bc0b7ac8ce2af3d02fc7cf4"), looks := false }, kinds := [], alts := [], laidByText := true, laidKinds := [.data, .data, .data, .data, .pinned], laidTests := true, laidLooks := .later }
def PrintAsciiUptoCardSaid : Prop := Claim7.holds Tryd.pinned (.plain (OpenSpec.upto printAsciiSpec)) printAsciiUptoCard
end Rows
end Go.Proofs.YthimfoonalfoeaaDoor
