/- Layer 3: the next token is walked. -/
import Derived.Test.YthimfoonalfoeaaDoorB10
set_option linter.unusedVariables false
set_option linter.unusedSimpArgs false
namespace Go.Proofs.YthimfoonalfoeaaDoor
open Go.RowKit Rn Tk
end Go.Proofs.YthimfoonalfoeaaDoor
