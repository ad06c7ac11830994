/-
  DERIVED. GIVEN WITH THE SEED: THE CARDS: each row of YthkagpefgkpgeaaDoorRows.lean that lists a variable, with what it lists TIED to the program's text (the seventh form; the later family's looks); each row that meets fmt, with fmt's text TOLD by the authors' own Lean function (tested against real Go, not proved from fmt's source: count such statements apart). THE CARD IS WHAT COUNTS. Prove the row's statement (the work); the ties are given (YthkagpefgkpgeaaDoorTie.lean); close each card by the builder's one call (the guide's Derived/Test/ToyasCard.lean, 'card_holds'). Laid BY PROGRAM, IN A SANDBOX (cutbox-door.mjs). By AI agents, Wed Nov 11 2026. No macro, syntax, notation, axiom, sorry.
-/
import Derived.Test.YthkagpefgkpgeaaDoorRows
import GoSem.ClaimSeven
namespace Go.Proofs.YthkagpefgkpgeaaDoor
namespace Rows

/-- THE TIED CARD OF 'broadsidelaw03.TokenSpaces'. -/
def tokenSpacesCard : Claim7 := { stood := { row := tokenSpacesRow, standIns := [], harness := (true, "308677c37400781a6566952f8ea705c270a8370055dcd2ed368f3d79d5899977"), looks := true }, kinds := [], alts := [], laidByText := true, laidKinds := [.data, .data, .data, .data, .sentinel, .sentinel, .pinned], laidTests := true, laidLooks := .later }
def TokenSpacesCardSaid : Prop := Claim7.holds Tryd.pinned (.plain (OpenSpec.ofChange tokenSpacesSpec)) tokenSpacesCard

/-- THE TIED CARD OF 'broadsidelaw03.TokenParts'. -/
def tokenPartsCard : Claim7 := { stood := { row := tokenPartsRow, standIns := [], harness := (true, "308677c37400781a6566952f8ea705c270a8370055dcd2ed368f3d79d5899977"), looks := true }, kinds := [], alts := [], laidByText := true, laidKinds := [.data, .data, .data, .data, .sentinel, .sentinel, .pinned], laidTests := true, laidLooks := .later }
def TokenPartsCardSaid : Prop := Claim7.holds Tryd.pinned (.plain (OpenSpec.ofChange tokenPartsSpec)) tokenPartsCard

/-- THE TIED CARD OF 'broadsidelaw03.TokenComments'. -/
def tokenCommentsCard : Claim7 := { stood := { row := tokenCommentsRow, standIns := [], harness := (true, "308677c37400781a6566952f8ea705c270a8370055dcd2ed368f3d79d5899977"), looks := true }, kinds := [], alts := [], laidByText := true, laidKinds := [.data, .data, .data, .data, .sentinel, .sentinel, .pinned], laidTests := true, laidLooks := .later }
def TokenCommentsCardSaid : Prop := Claim7.holds Tryd.pinned (.plain (OpenSpec.ofChange tokenCommentsSpec)) tokenCommentsCard

/-- THE TIED CARD OF 'broadsidelaw03.TokenNames'. -/
def tokenNamesCard : Claim7 := { stood := { row := tokenNamesRow, standIns := [], harness := (true, "308677c37400781a6566952f8ea705c270a8370055dcd2ed368f3d79d5899977"), looks := true }, kinds := [], alts := [], laidByText := true, laidKinds := [.data, .data, .data, .data, .sentinel, .sentinel, .pinned], laidTests := true, laidLooks := .later }
def TokenNamesCardSaid : Prop := Claim7.holds Tryd.pinned (.plain (OpenSpec.ofChange tokenNamesSpec)) tokenNamesCard

/-- THE TIED CARD OF 'broadsidelaw03.TokenTexts'. -/
def tokenTextsCard : Claim7 := { stood := { row := tokenTextsRow, standIns := [], harness := (true, "308677c37400781a6566952f8ea705c270a8370055dcd2ed368f3d79d5899977"), looks := true }, kinds := [], alts := [], laidByText := true, laidKinds := [.data, .data, .data, .data, .sentinel, .sentinel, .pinned], laidTests := true, laidLooks := .later }
def TokenTextsCardSaid : Prop := Claim7.holds Tryd.pinned (.plain (OpenSpec.ofChange tokenTextsSpec)) tokenTextsCard

/-- THE SECOND FORM's CARD OF 'broadsidelaw03.TokenSpaces'. -/
def tokenSpacesUptoCard : Claim7 := { stood := { row := tokenSpacesUptoRow, standIns := [], harness := (true, "308677c37400781a6566952f8ea705c270a8370055dcd2ed368f3d79d5899977"), looks := true }, kinds := [], alts := [], laidByText := true, laidKinds := [.data, .data, .data, .data, .sentinel, .sentinel, .pinned], laidTests := true, laidLooks := .later }
def TokenSpacesUptoCardSaid : Prop := Claim7.holds Tryd.pinned (.plain (OpenSpec.upto tokenSpacesSpec)) tokenSpacesUptoCard

/-- THE SECOND FORM's CARD OF 'broadsidelaw03.TokenParts'. -/
def tokenPartsUptoCard : Claim7 := { stood := { row := tokenPartsUptoRow, standIns := [], harness := (true, "308677c37400781a6566952f8ea705c270a8370055dcd2ed368f3d79d5899977"), looks := true }, kinds := [], alts := [], laidByText := true, laidKinds := [.data, .data, .data, .data, .sentinel, .sentinel, .pinned], laidTests := true, laidLooks := .later }
def TokenPartsUptoCardSaid : Prop := Claim7.holds Tryd.pinned (.plain (OpenSpec.upto tokenPartsSpec)) tokenPartsUptoCard

/-- THE SECOND FORM's CARD OF 'broadsidelaw03.TokenComments'. -/
def tokenCommentsUptoCard : Claim7 := { stood := { row := tokenCommentsUptoRow, standIns := [], harness := (true, "308677c37400781a6566952f8ea705c270a8370055dcd2ed368f3d79d5899977"), looks := true }, kinds := [], alts := [], laidByText := true, laidKinds := [.data, .data, .data, .data, .sentinel, .sentinel, .pinned], laidTests := true, laidLooks := .later }
def TokenCommentsUptoCardSaid : Prop := Claim7.holds Tryd.pinned (.plain (OpenSpec.upto tokenCommentsSpec)) tokenCommentsUptoCard

/-- THE SECOND FORM's CARD OF 'broadsidelaw03.TokenNames'. -/
def tokenNamesUptoCard : Claim7 := { stood := { row := tokenNamesUptoRow, standIns := [], harness := (true, "308677c37400781a6566952f8ea705c270a8370055dcd2ed368f3d79d5899977"), looks := true }, kinds := [], alts := [], laidByText := true, laidKinds := [.data, .data, .data, .data, .sentinel, .sentinel, .pinned], laidTests := true, laidLooks := .later }
def TokenNamesUptoCardSaid : Prop := Claim7.holds Tryd.pinned (.plain (OpenSpec.upto tokenNamesSpec)) tokenNamesUptoCard

/-- THE SECOND FORM's CARD OF 'broadsidelaw03.TokenTexts'. -/
def tokenTextsUptoCard : Claim7 := { stood := { row := tokenTextsUptoRow, standIns := [], harness := (true, "308677c37400781a6566952f8ea705c270a8370055dcd2ed368f3d79d5899977"), looks := true }, kinds := [], alts := [], laidByText := true, laidKinds := [.data, .data, .data, .data, .sentinel, .sentinel, .pinned], laidTests := true, laidLooks := .later }
def TokenTextsUptoCardSaid : Prop := Claim7.holds Tryd.pinned (.plain (OpenSpec.upto tokenTextsSpec)) tokenTextsUptoCard
end Rows
end Go.Proofs.YthkagpefgkpgeaaDoor
