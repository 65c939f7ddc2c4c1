
/- Walk of slices.Equal at ints. -/
import Derived.Test.YtelmpoaioccpoaaJoW
namespace Go.Proofs.Ytelmpoaioccpoaa
set_option maxRecDepth 100000
open Go.RowKit
set_option linter.unusedVariables false

end Go.Proofs.Ytelmpoaioccpoaa
