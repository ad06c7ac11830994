/- An argument that is a slice of tokens, opened: it reads as a list of tokens. -/
import Derived.Test.YtfhdihdafmahgaaGreatDoorV19
import Derived.OpenShut
import Derived.Carry
import Derived.Deep.SlicePairs
set_option linter.unusedVariables false
namespace Go.Proofs.YtfhdihdafmahgaaGreatDoor
open Go.ChangeShapes Go.WideShapes Go.ChangeAt Go.RowKit Go.Lib Go.Deep
set_option maxRecDepth 100000
section
variable {H : Type} {enc : TypeId × Value → H} {W : World} {base : Nat}
instance : Inhabited GTok := ⟨⟨0, [], 0⟩⟩
end
end Go.Proofs.YtfhdihdafmahgaaGreatDoor
