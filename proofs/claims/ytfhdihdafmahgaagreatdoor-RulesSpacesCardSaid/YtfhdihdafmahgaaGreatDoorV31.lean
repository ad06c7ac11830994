/- Layer 4, the document: may a token be? One is walked. -/
import Derived.Test.YtfhdihdafmahgaaGreatDoorV27
import Derived.Test.YtfhdihdafmahgaaGreatDoorV01
import Derived.Test.YtfhdihdafmahgaaGreatDoorV04
set_option linter.unusedVariables false
set_option linter.unusedSimpArgs false
namespace Go.Proofs.YtfhdihdafmahgaaGreatDoor
open Go.RowKit Rn Tp Tk Fx
def badS : List Int := [9, 10, 12, 13, 32, 34, 39, 40, 41, 91, 93, 123, 125, 58, 59, 44]
end Go.Proofs.YtfhdihdafmahgaaGreatDoor
