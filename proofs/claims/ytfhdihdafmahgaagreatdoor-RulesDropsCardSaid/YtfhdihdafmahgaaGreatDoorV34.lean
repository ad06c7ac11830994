/- Layer 4, the document: may tokens be? Right is walked. -/
import Derived.Test.YtfhdihdafmahgaaGreatDoorV31
import Derived.Test.YtfhdihdafmahgaaGreatDoorV29
set_option linter.unusedVariables false
set_option linter.unusedSimpArgs false
namespace Go.Proofs.YtfhdihdafmahgaaGreatDoor
open Go.RowKit Rn Tp Tk Fx
end Go.Proofs.YtfhdihdafmahgaaGreatDoor
