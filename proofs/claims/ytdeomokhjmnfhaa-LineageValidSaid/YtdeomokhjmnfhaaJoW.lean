
/- Walks of the search and of 'fits'. -/
import Derived.Test.YtdeomokhjmnfhaaCoW3
import Derived.Test.YtdeomokhjmnfhaaJoP
import Derived.Test.YtdeomokhjmnfhaaQuiet
namespace Go.Proofs.Ytdeomokhjmnfhaa
open Go.RowKit
set_option linter.unusedVariables false



end Go.Proofs.Ytdeomokhjmnfhaa
