/-
  DERIVED. GIVEN WITH THE SEED: THE CARDS: each row of YtfhdihdafmahgaaGreatDoorRows.lean that lists a variable, with what it lists TIED to the program's text (the seventh form; the later family's looks); each row that meets fmt, with fmt's text TOLD by the authors' own Lean function (tested against real Go, not proved from fmt's source: count such statements apart). THE CARD IS WHAT COUNTS. Prove the row's statement (the work); the ties are given (YtfhdihdafmahgaaGreatDoorTie.lean); close each card by the builder's one call (the guide's Derived/Test/ToyasCard.lean, 'card_holds'). Laid BY PROGRAM, IN A SANDBOX (cutbox-door.mjs). By AI agents, Wed Nov 11 2026. No macro, syntax, notation, axiom, sorry.
-/
import Derived.Test.YtfhdihdafmahgaaGreatDoorRows
import GoSem.ClaimSeven
namespace Go.Proofs.YtfhdihdafmahgaaGreatDoor
namespace Rows

/-- THE TIED CARD OF 'broadsidelaw06.RulesParse'. -/
def rulesParseCard : Claim7 := { stood := { row := rulesParseRow, standIns := [], harness := (true, "4df6f91332f00af6e27641cc0f214e1474a201b9f34894a098739c1f1e6f54df"), looks := true }, kinds := [], alts := [], laidByText := true, laidKinds := [.data, .data, .data, .data, .sentinel, .sentinel, .data, .pinned], laidTests := true, laidLooks := .later }
def RulesParseCardSaid : Prop := Claim7.holds Tryz.pinned (.plain (OpenSpec.ofChange rulesParseSpec)) rulesParseCard

/-- THE TIED CARD OF 'broadsidelaw06.RulesSame'. -/
def rulesSameCard : Claim7 := { stood := { row := rulesSameRow, standIns := [], harness := (true, "4df6f91332f00af6e27641cc0f214e1474a201b9f34894a098739c1f1e6f54df"), looks := true }, kinds := [], alts := [], laidByText := true, laidKinds := [.data, .data, .data, .data, .sentinel, .sentinel, .data, .pinned], laidTests := true, laidLooks := .later }
def RulesSameCardSaid : Prop := Claim7.holds Tryz.pinned (.plain (OpenSpec.ofChange rulesSameSpec)) rulesSameCard

/-- THE TIED CARD OF 'broadsidelaw06.RulesPrint'. -/
def rulesPrintCard : Claim7 := { stood := { row := rulesPrintRow, standIns := [], harness := (true, "4df6f91332f00af6e27641cc0f214e1474a201b9f34894a098739c1f1e6f54df"), looks := true }, kinds := [], alts := [], laidByText := true, laidKinds := [.data, .data, .data, .data, .sentinel, .sentinel, .data, .pinned], laidTests := true, laidLooks := .later }
def RulesPrintCardSaid : Prop := Claim7.holds Tryz.pinned (.plain (OpenSpec.ofChange rulesPrintSpec)) rulesPrintCard

/-- THE TIED CARD OF 'broadsidelaw06.RulesSpaces'. -/
def rulesSpacesCard : Claim7 := { stood := { row := rulesSpacesRow, standIns := [], harness := (true, "4df6f91332f00af6e27641cc0f214e1474a201b9f34894a098739c1f1e6f54df"), looks := true }, kinds := [], alts := [], laidByText := true, laidKinds := [.data, .data, .data, .data, .sentinel, .sentinel, .data, .pinned], laidTests := true, laidLooks := .later }
def RulesSpacesCardSaid : Prop := Claim7.holds Tryz.pinned (.plain (OpenSpec.ofChange rulesSpacesSpec)) rulesSpacesCard

/-- THE TIED CARD OF 'broadsidelaw06.RulesDrops'. -/
def rulesDropsCard : Claim7 := { stood := { row := rulesDropsRow, standIns := [], harness := (true, "4df6f91332f00af6e27641cc0f214e1474a201b9f34894a098739c1f1e6f54df"), looks := true }, kinds := [], alts := [], laidByText := true, laidKinds := [.data, .data, .data, .data, .sentinel, .sentinel, .data, .pinned], laidTests := true, laidLooks := .later }
def RulesDropsCardSaid : Prop := Claim7.holds Tryz.pinned (.plain (OpenSpec.ofChange rulesDropsSpec)) rulesDropsCard

/-- THE SECOND FORM's CARD OF 'broadsidelaw06.RulesParse'. -/
def rulesParseUptoCard : Claim7 := { stood := { row := rulesParseUptoRow, standIns := [], harness := (true, "4df6f91332f00af6e27641cc0f214e1474a201b9f34894a098739c1f1e6f54df"), looks := true }, kinds := [], alts := [], laidByText := true, laidKinds := [.data, .data, .data, .data, .sentinel, .sentinel, .data, .pinned], laidTests := true, laidLooks := .later }
def RulesParseUptoCardSaid : Prop := Claim7.holds Tryz.pinned (.plain (OpenSpec.upto rulesParseSpec)) rulesParseUptoCard

/-- THE SECOND FORM's CARD OF 'broadsidelaw06.RulesSame'. -/
def rulesSameUptoCard : Claim7 := { stood := { row := rulesSameUptoRow, standIns := [], harness := (true, "4df6f91332f00af6e27641cc0f214e1474a201b9f34894a098739c1f1e6f54df"), looks := true }, kinds := [], alts := [], laidByText := true, laidKinds := [.data, .data, .data, .data, .sentinel, .sentinel, .data, .pinned], laidTests := true, laidLooks := .later }
def RulesSameUptoCardSaid : Prop := Claim7.holds Tryz.pinned (.plain (OpenSpec.upto rulesSameSpec)) rulesSameUptoCard

/-- THE SECOND FORM's CARD OF 'broadsidelaw06.RulesPrint'. -/
def rulesPrintUptoCard : Claim7 := { stood := { row := rulesPrintUptoRow, standIns := [], harness := (true, "4df6f91332f00af6e27641cc0f214e1474a201b9f34894a098739c1f1e6f54df"), looks := true }, kinds := [], alts := [], laidByText := true, laidKinds := [.data, .data, .data, .data, .sentinel, .sentinel, .data, .pinned], laidTests := true, laidLooks := .later }
def RulesPrintUptoCardSaid : Prop := Claim7.holds Tryz.pinned (.plain (OpenSpec.upto rulesPrintSpec)) rulesPrintUptoCard

/-- THE SECOND FORM's CARD OF 'broadsidelaw06.RulesSpaces'. -/
def rulesSpacesUptoCard : Claim7 := { stood := { row := rulesSpacesUptoRow, standIns := [], harness := (true, "4df6f91332f00af6e27641cc0f214e1474a201b9f34894a098739c1f1e6f54df"), looks := true }, kinds := [], alts := [], laidByText := true, laidKinds := [.data, .data, .data, .data, .sentinel, .sentinel, .data, .pinned], laidTests := true, laidLooks := .later }
def RulesSpacesUptoCardSaid : Prop := Claim7.holds Tryz.pinned (.plain (OpenSpec.upto rulesSpacesSpec)) rulesSpacesUptoCard

/-- THE SECOND FORM's CARD OF 'broadsidelaw06.RulesDrops'. -/
def rulesDropsUptoCard : Claim7 := { stood := { row := rulesDropsUptoRow, standIns := [], harness := (true, "4df6f91332f00af6e27641cc0f214e1474a201b9f34894a098739c1f1e6f54df"), looks := true }, kinds := [], alts := [], laidByText := true, laidKinds := [.data, .data, .data, .data, .sentinel, .sentinel, .data, .pinned], laidTests := true, laidLooks := .later }
def RulesDropsUptoCardSaid : Prop := Claim7.holds Tryz.pinned (.plain (OpenSpec.upto rulesDropsSpec)) rulesDropsUptoCard
end Rows
end Go.Proofs.YtfhdihdafmahgaaGreatDoor
