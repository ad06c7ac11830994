/- Layer 3, the document: white space and comments are walked. -/
import Derived.Test.YtfhdihdafmahgaaGreatDoorV08
/- Layer 3, the document: what an escape means is walked. -/
set_option linter.unusedVariables false
set_option linter.unusedSimpArgs false
namespace Go.Proofs.YtfhdihdafmahgaaGreatDoor
open Go.RowKit Rn Tk
end Go.Proofs.YtfhdihdafmahgaaGreatDoor
/- Layer 3, the document: a name is walked. -/
set_option linter.unusedVariables false
set_option linter.unusedSimpArgs false
namespace Go.Proofs.YtfhdihdafmahgaaGreatDoor
open Go.RowKit Rn Tk
end Go.Proofs.YtfhdihdafmahgaaGreatDoor
set_option linter.unusedVariables false
set_option linter.unusedSimpArgs false
namespace Go.Proofs.YtfhdihdafmahgaaGreatDoor
open Go.RowKit Rn Tk
end Go.Proofs.YtfhdihdafmahgaaGreatDoor
