
/- Results: the reference's ReadResult. -/
import Derived.Test.YtijeieamodjgbaaDr2
namespace Go.Proofs.Ytijeieamodjgbaa
set_option maxRecDepth 100000
open Go.RowKit
set_option linter.unusedVariables false
set_option linter.unusedSimpArgs false
attribute [local go_sem] run_store_float

end Go.Proofs.Ytijeieamodjgbaa
