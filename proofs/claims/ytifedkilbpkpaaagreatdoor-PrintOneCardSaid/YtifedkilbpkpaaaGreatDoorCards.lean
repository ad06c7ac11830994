/-
  DERIVED. GIVEN WITH THE SEED: THE CARDS: each row of YtifedkilbpkpaaaGreatDoorRows.lean that lists a variable, with what it lists TIED to the program's text (the seventh form; the later family's looks); each row that meets fmt, with fmt's text TOLD by the authors' own Lean function (tested against real Go, not proved from fmt's source: count such statements apart). THE CARD IS WHAT COUNTS. Prove the row's statement (the work); the ties are given (YtifedkilbpkpaaaGreatDoorTie.lean); close each card by the builder's one call (the guide's Derived/Test/ToyasCard.lean, 'card_holds'). Laid BY PROGRAM, IN A SANDBOX (cutbox-door.mjs). By AI agents, Wed Nov 11 2026. No macro, syntax, notation, axiom, sorry.
-/
import Derived.Test.YtifedkilbpkpaaaGreatDoorRows
import GoSem.ClaimSeven
namespace Go.Proofs.YtifedkilbpkpaaaGreatDoor
namespace Rows

/-- THE TIED CARD OF 'broadsidelaw04.PrintOne'. -/
def printOneCard : Claim7 := { stood := { row := printOneRow, standIns := [], harness := (true, "85abe49fbce541dd4f32122aa64c1c965cd35ae8f423c252b7f772d91e93001b"), looks := true }, kinds := [], alts := [], laidByText := true, laidKinds := [.data, .data, .data, .data, .sentinel, .sentinel, .pinned], laidTests := true, laidLooks := .later }
def PrintOneCardSaid : Prop := Claim7.holds Tryz.pinned (.plain (OpenSpec.ofChange printOneSpec)) printOneCard

/-- THE TIED CARD OF 'broadsidelaw04.PrintPairs'. -/
def printPairsCard : Claim7 := { stood := { row := printPairsRow, standIns := [], harness := (true, "85abe49fbce541dd4f32122aa64c1c965cd35ae8f423c252b7f772d91e93001b"), looks := true }, kinds := [], alts := [], laidByText := true, laidKinds := [.data, .data, .data, .data, .sentinel, .sentinel, .pinned], laidTests := true, laidLooks := .later }
def PrintPairsCardSaid : Prop := Claim7.holds Tryz.pinned (.plain (OpenSpec.ofChange printPairsSpec)) printPairsCard

/-- THE SECOND FORM's CARD OF 'broadsidelaw04.PrintOne'. -/
def printOneUptoCard : Claim7 := { stood := { row := printOneUptoRow, standIns := [], harness := (true, "85abe49fbce541dd4f32122aa64c1c965cd35ae8f423c252b7f772d91e93001b"), looks := true }, kinds := [], alts := [], laidByText := true, laidKinds := [.data, .data, .data, .data, .sentinel, .sentinel, .pinned], laidTests := true, laidLooks := .later }
def PrintOneUptoCardSaid : Prop := Claim7.holds Tryz.pinned (.plain (OpenSpec.upto printOneSpec)) printOneUptoCard

/-- THE SECOND FORM's CARD OF 'broadsidelaw04.PrintPairs'. -/
def printPairsUptoCard : Claim7 := { stood := { row := printPairsUptoRow, standIns := [], harness := (true, "85abe49fbce541dd4f32122aa64c1c965cd35ae8f423c252b7f772d91e93001b"), looks := true }, kinds := [], alts := [], laidByText := true, laidKinds := [.data, .data, .data, .data, .sentinel, .sentinel, .pinned], laidTests := true, laidLooks := .later }
def PrintPairsUptoCardSaid : Prop := Claim7.holds Tryz.pinned (.plain (OpenSpec.upto printPairsSpec)) printPairsUptoCard
end Rows
end Go.Proofs.YtifedkilbpkpaaaGreatDoor
