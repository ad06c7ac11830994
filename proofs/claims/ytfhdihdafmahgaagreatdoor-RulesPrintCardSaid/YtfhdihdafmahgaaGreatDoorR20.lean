import Derived.Test.YtfhdihdafmahgaaGreatDoorR19
import Derived.OpenShut
import Derived.Deep.SlicePairs
set_option linter.unusedVariables false
set_option maxRecDepth 100000
namespace Go.Proofs.YtfhdihdafmahgaaGreatDoor
open Go.ChangeShapes Go.WideShapes Go.ChangeAt Go.RowKit Go.Lib Go.Deep
section
variable {H:Type} {enc:TypeId×Value→H} {W:World} {base:Nat}
instance :Inhabited GTok:=⟨⟨0,[],0⟩⟩
end
end Go.Proofs.YtfhdihdafmahgaaGreatDoor
