/- Arguments of the laws' rows opened: a slice of bytes, or of characters, reads as a list. -/
import Derived.Test.YtfhdihdafmahgaaGreatDoorV01
import Derived.OpenShut
import Derived.Carry
set_option linter.unusedVariables false
namespace Go.Proofs.YtfhdihdafmahgaaGreatDoor
open Go.ChangeShapes Go.WideShapes Go.ChangeAt Go.RowKit Go.Lib
set_option maxRecDepth 100000
theorem laidOut : laidOutB Tryz.prog = true := by kernel_rfl
section
variable {H : Type} {enc : TypeId × Value → H} {W : World} {base : Nat}
end
end Go.Proofs.YtfhdihdafmahgaaGreatDoor
