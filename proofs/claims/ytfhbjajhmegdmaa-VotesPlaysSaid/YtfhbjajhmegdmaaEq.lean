
/- Walk of slices.Equal at ints. -/
import Derived.Test.YtfhbjajhmegdmaaJoW
namespace Go.Proofs.Ytfhbjajhmegdmaa
set_option maxRecDepth 100000
open Go.RowKit
set_option linter.unusedVariables false

end Go.Proofs.Ytfhbjajhmegdmaa
