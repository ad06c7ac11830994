/- Layer 6, the document: decl is walked. -/
import Derived.Test.YtfhdihdafmahgaaGreatDoorV16
import Derived.Test.YtfhdihdafmahgaaGreatDoorV32
import Derived.Test.YtfhdihdafmahgaaGreatDoorV01
import Derived.Test.YtfhdihdafmahgaaGreatDoorV34
/- Layer 5, the document: Open is walked. -/
set_option linter.unusedVariables false
set_option linter.unusedSimpArgs false
namespace Go.Proofs.YtfhdihdafmahgaaGreatDoor
open Go.RowKit Rn Tp Ru
end Go.Proofs.YtfhdihdafmahgaaGreatDoor
/- Layer 5, the document: Ends is walked. -/
set_option linter.unusedVariables false
set_option linter.unusedSimpArgs false
namespace Go.Proofs.YtfhdihdafmahgaaGreatDoor
open Go.RowKit Rn Tp Ru
end Go.Proofs.YtfhdihdafmahgaaGreatDoor
/- Layer 5, the document: Places and Find are walked. -/
set_option linter.unusedVariables false
set_option linter.unusedSimpArgs false
namespace Go.Proofs.YtfhdihdafmahgaaGreatDoor
open Go.RowKit Rn Tp Ru
namespace Ru
end Ru
end Go.Proofs.YtfhdihdafmahgaaGreatDoor
/- Layer 6, the document: Lower, Box, cut, first are walked. -/
set_option linter.unusedVariables false
set_option linter.unusedSimpArgs false
namespace Go.Proofs.YtfhdihdafmahgaaGreatDoor
open Go.RowKit Rn Tp Ru
end Go.Proofs.YtfhdihdafmahgaaGreatDoor
/- Layer 6, the document: Sound is walked. -/
set_option linter.unusedVariables false
set_option linter.unusedSimpArgs false
namespace Go.Proofs.YtfhdihdafmahgaaGreatDoor
open Go.RowKit Rn Tp Ru
end Go.Proofs.YtfhdihdafmahgaaGreatDoor
/- Layer 6, the document: Value is walked. -/
set_option linter.unusedVariables false
set_option linter.unusedSimpArgs false
namespace Go.Proofs.YtfhdihdafmahgaaGreatDoor
open Go.RowKit Rn Tp Ru
end Go.Proofs.YtfhdihdafmahgaaGreatDoor
set_option linter.unusedVariables false
set_option linter.unusedSimpArgs false
namespace Go.Proofs.YtfhdihdafmahgaaGreatDoor
open Go.RowKit Rn Tp Ru
end Go.Proofs.YtfhdihdafmahgaaGreatDoor
