
/- Walks of the program's reader: number. -/
import Derived.Test.YtdeomokhjmnfhaaRows
import Derived.Test.YtdeomokhjmnfhaaRdM
import Derived.Deep.QuietTactic
import Derived.BigQuiet
namespace Go.Proofs.Ytdeomokhjmnfhaa
open Go.RowKit
set_option linter.unusedVariables false


end Go.Proofs.Ytdeomokhjmnfhaa
