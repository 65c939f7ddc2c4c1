
/- Walks of Leave of the program. -/
import Derived.Test.YtdeomokhjmnfhaaJoW2
namespace Go.Proofs.Ytdeomokhjmnfhaa
open Go.RowKit
set_option linter.unusedVariables false


end Go.Proofs.Ytdeomokhjmnfhaa
