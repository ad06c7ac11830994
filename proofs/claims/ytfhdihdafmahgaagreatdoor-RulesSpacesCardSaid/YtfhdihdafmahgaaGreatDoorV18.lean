/- Layer 3, the document: the next token is walked: a number. -/
import Derived.Test.YtfhdihdafmahgaaGreatDoorV17
import Derived.Test.YtfhdihdafmahgaaGreatDoorV09
/- Layer 3, the document: the next token is walked: the tail in which a sign is told. -/
set_option linter.unusedVariables false
set_option linter.unusedSimpArgs false
namespace Go.Proofs.YtfhdihdafmahgaaGreatDoor
open Go.RowKit Rn Tk Np
end Go.Proofs.YtfhdihdafmahgaaGreatDoor
/- Layer 3, the document: the next token is walked: a name with an @ ahead, a name, and what is left. -/
set_option linter.unusedVariables false
set_option linter.unusedSimpArgs false
namespace Go.Proofs.YtfhdihdafmahgaaGreatDoor
open Go.RowKit Rn Tk Np
end Go.Proofs.YtfhdihdafmahgaaGreatDoor
set_option linter.unusedVariables false
set_option linter.unusedSimpArgs false
namespace Go.Proofs.YtfhdihdafmahgaaGreatDoor
open Go.RowKit Rn Tk Np
end Go.Proofs.YtfhdihdafmahgaaGreatDoor
