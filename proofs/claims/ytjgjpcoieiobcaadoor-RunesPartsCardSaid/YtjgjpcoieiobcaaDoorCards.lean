/-
  DERIVED. GIVEN WITH THE SEED: THE CARDS: each row of YtjgjpcoieiobcaaDoorRows.lean that lists a variable, with what it lists TIED to the program's text (the seventh form; the later family's looks); each row that meets fmt, with fmt's text TOLD by the authors' own Lean function (tested against real Go, not proved from fmt's source: count such statements apart). THE CARD IS WHAT COUNTS. Prove the row's statement (the work); the ties are given (YtjgjpcoieiobcaaDoorTie.lean); close each card by the builder's one call (the guide's Derived/Test/ToyasCard.lean, 'card_holds'). Laid BY PROGRAM, IN A SANDBOX (cutbox-door.mjs). By AI agents, Wed Nov 11 2026. No macro, syntax, notation, axiom, sorry.
-/
import Derived.Test.YtjgjpcoieiobcaaDoorRows
import GoSem.ClaimSeven
namespace Go.Proofs.YtjgjpcoieiobcaaDoor
namespace Rows

/-- THE TIED CARD OF 'broadsidelaw02.RunesRead'. -/
def runesReadCard : Claim7 := { stood := { row := runesReadRow, standIns := [], harness := (true, "27e652ae73694704ea7514ccb906739c97c042531e3c8fd7d7e9ed7f84764c53"), looks := false }, kinds := [], alts := [], laidByText := true, laidKinds := [.data, .pinned], laidTests := true, laidLooks := .later }
def RunesReadCardSaid : Prop := Claim7.holds Tryd.pinned (.plain (OpenSpec.ofChange runesReadSpec)) runesReadCard

/-- THE TIED CARD OF 'broadsidelaw02.RunesWrite'. -/
def runesWriteCard : Claim7 := { stood := { row := runesWriteRow, standIns := [], harness := (true, "27e652ae73694704ea7514ccb906739c97c042531e3c8fd7d7e9ed7f84764c53"), looks := false }, kinds := [], alts := [], laidByText := true, laidKinds := [.data, .pinned], laidTests := true, laidLooks := .later }
def RunesWriteCardSaid : Prop := Claim7.holds Tryd.pinned (.plain (OpenSpec.ofChange runesWriteSpec)) runesWriteCard

/-- THE TIED CARD OF 'broadsidelaw02.RunesBack'. -/
def runesBackCard : Claim7 := { stood := { row := runesBackRow, standIns := [], harness := (true, "27e652ae73694704ea7514ccb906739c97c042531e3c8fd7d7e9ed7f84764c53"), looks := false }, kinds := [], alts := [], laidByText := true, laidKinds := [.data, .pinned], laidTests := true, laidLooks := .later }
def RunesBackCardSaid : Prop := Claim7.holds Tryd.pinned (.plain (OpenSpec.ofChange runesBackSpec)) runesBackCard

/-- THE TIED CARD OF 'broadsidelaw02.RunesLower'. -/
def runesLowerCard : Claim7 := { stood := { row := runesLowerRow, standIns := [], harness := (true, "27e652ae73694704ea7514ccb906739c97c042531e3c8fd7d7e9ed7f84764c53"), looks := false }, kinds := [], alts := [], laidByText := true, laidKinds := [.data, .pinned], laidTests := true, laidLooks := .later }
def RunesLowerCardSaid : Prop := Claim7.holds Tryd.pinned (.plain (OpenSpec.ofChange runesLowerSpec)) runesLowerCard

/-- THE TIED CARD OF 'broadsidelaw02.RunesAgain'. -/
def runesAgainCard : Claim7 := { stood := { row := runesAgainRow, standIns := [], harness := (true, "27e652ae73694704ea7514ccb906739c97c042531e3c8fd7d7e9ed7f84764c53"), looks := false }, kinds := [], alts := [], laidByText := true, laidKinds := [.data, .pinned], laidTests := true, laidLooks := .later }
def RunesAgainCardSaid : Prop := Claim7.holds Tryd.pinned (.plain (OpenSpec.ofChange runesAgainSpec)) runesAgainCard

/-- THE TIED CARD OF 'broadsidelaw02.RunesParts'. -/
def runesPartsCard : Claim7 := { stood := { row := runesPartsRow, standIns := [], harness := (true, "27e652ae73694704ea7514ccb906739c97c042531e3c8fd7d7e9ed7f84764c53"), looks := false }, kinds := [], alts := [], laidByText := true, laidKinds := [.data, .pinned], laidTests := true, laidLooks := .later }
def RunesPartsCardSaid : Prop := Claim7.holds Tryd.pinned (.plain (OpenSpec.ofChange runesPartsSpec)) runesPartsCard

/-- THE TIED CARD OF 'broadsidelaw02.RunesTell'. -/
def runesTellCard : Claim7 := { stood := { row := runesTellRow, standIns := [], harness := (true, "27e652ae73694704ea7514ccb906739c97c042531e3c8fd7d7e9ed7f84764c53"), looks := false }, kinds := [], alts := [], laidByText := true, laidKinds := [.data, .pinned], laidTests := true, laidLooks := .later }
def RunesTellCardSaid : Prop := Claim7.holds Tryd.pinned (.plain (OpenSpec.ofChange runesTellSpec)) runesTellCard

/-- THE SECOND FORM's CARD OF 'broadsidelaw02.RunesRead'. -/
def runesReadUptoCard : Claim7 := { stood := { row := runesReadUptoRow, standIns := [], harness := (true, "27e652ae73694704ea7514ccb906739c97c042531e3c8fd7d7e9ed7f84764c53"), looks := false }, kinds := [], alts := [], laidByText := true, laidKinds := [.data, .pinned], laidTests := true, laidLooks := .later }
def RunesReadUptoCardSaid : Prop := Claim7.holds Tryd.pinned (.plain (OpenSpec.upto runesReadSpec)) runesReadUptoCard

/-- THE SECOND FORM's CARD OF 'broadsidelaw02.RunesWrite'. -/
def runesWriteUptoCard : Claim7 := { stood := { row := runesWriteUptoRow, standIns := [], harness := (true, "27e652ae73694704ea7514ccb906739c97c042531e3c8fd7d7e9ed7f84764c53"), looks := false }, kinds := [], alts := [], laidByText := true, laidKinds := [.data, .pinned], laidTests := true, laidLooks := .later }
def RunesWriteUptoCardSaid : Prop := Claim7.holds Tryd.pinned (.plain (OpenSpec.upto runesWriteSpec)) runesWriteUptoCard

/-- THE SECOND FORM's CARD OF 'broadsidelaw02.RunesBack'. -/
def runesBackUptoCard : Claim7 := { stood := { row := runesBackUptoRow, standIns := [], harness := (true, "27e652ae73694704ea7514ccb906739c97c042531e3c8fd7d7e9ed7f84764c53"), looks := false }, kinds := [], alts := [], laidByText := true, laidKinds := [.data, .pinned], laidTests := true, laidLooks := .later }
def RunesBackUptoCardSaid : Prop := Claim7.holds Tryd.pinned (.plain (OpenSpec.upto runesBackSpec)) runesBackUptoCard

/-- THE SECOND FORM's CARD OF 'broadsidelaw02.RunesLower'. -/
def runesLowerUptoCard : Claim7 := { stood := { row := runesLowerUptoRow, standIns := [], harness := (true, "27e652ae73694704ea7514ccb906739c97c042531e3c8fd7d7e9ed7f84764c53"), looks := false }, kinds := [], alts := [], laidByText := true, laidKinds := [.data, .pinned], laidTests := true, laidLooks := .later }
def RunesLowerUptoCardSaid : Prop := Claim7.holds Tryd.pinned (.plain (OpenSpec.upto runesLowerSpec)) runesLowerUptoCard

/-- THE SECOND FORM's CARD OF 'broadsidelaw02.RunesAgain'. -/
def runesAgainUptoCard : Claim7 := { stood := { row := runesAgainUptoRow, standIns := [], harness := (true, "27e652ae73694704ea7514ccb906739c97c042531e3c8fd7d7e9ed7f84764c53"), looks := false }, kinds := [], alts := [], laidByText := true, laidKinds := [.data, .pinned], laidTests := true, laidLooks := .later }
def RunesAgainUptoCardSaid : Prop := Claim7.holds Tryd.pinned (.plain (OpenSpec.upto runesAgainSpec)) runesAgainUptoCard

/-- THE SECOND FORM's CARD OF 'broadsidelaw02.RunesParts'. -/
def runesPartsUptoCard : Claim7 := { stood := { row := runesPartsUptoRow, standIns := [], harness := (true, "27e652ae73694704ea7514ccb906739c97c042531e3c8fd7d7e9ed7f84764c53"), looks := false }, kinds := [], alts := [], laidByText := true, laidKinds := [.data, .pinned], laidTests := true, laidLooks := .later }
def RunesPartsUptoCardSaid : Prop := Claim7.holds Tryd.pinned (.plain (OpenSpec.upto runesPartsSpec)) runesPartsUptoCard

/-- THE SECOND FORM's CARD OF 'broadsidelaw02.RunesTell'. -/
def runesTellUptoCard : Claim7 := { stood := { row := runesTellUptoRow, standIns := [], harness := (true, "27e652ae73694704ea7514ccb906739c97c042531e3c8fd7d7e9ed7f84764c53"), looks := false }, kinds := [], alts := [], laidByText := true, laidKinds := [.data, .pinned], laidTests := true, laidLooks := .later }
def RunesTellUptoCardSaid : Prop := Claim7.holds Tryd.pinned (.plain (OpenSpec.upto runesTellSpec)) runesTellUptoCard
end Rows
end Go.Proofs.YtjgjpcoieiobcaaDoor
