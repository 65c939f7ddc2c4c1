
/- Walks of letter and of (*Reader).value. -/
import Derived.Test.YtijeieamodjgbabRdW
import Derived.Test.YtijeieamodjgbabQuiet
import Derived.Tactics
import Derived.Tactics2
import Derived.Defers
import Derived.Recover
import Derived.Laws.Pointers

namespace Go.Proofs.Ytijeieamodjgbab
set_option maxRecDepth 100000
open Go.RowKit
set_option linter.unusedVariables false

/-- A thing that is read. -/
structure V where
  n : Nat
  b : Nat
  t : List UInt8
end Go.Proofs.Ytijeieamodjgbab

/- Scan: the deferred closure's contracts. -/
namespace Go.Proofs.Ytijeieamodjgbab
set_option maxRecDepth 100000
open Go.RowKit
set_option linter.unusedVariables false

end Go.Proofs.Ytijeieamodjgbab
