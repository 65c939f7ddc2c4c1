
/- Results: SameResult; ReadResult of both layers. -/
import Derived.Test.YtijeieamodjgbabDh

namespace Go.Proofs.Ytijeieamodjgbab
set_option maxRecDepth 100000
open Go.RowKit
set_option linter.unusedVariables false
set_option linter.unusedSimpArgs false
attribute [local go_sem] run_store_float

/-- What a text is read as, as a result. -/
def p1 (t : List UInt8) : R := rNext ⟨t, false⟩ 1
def p2 (t : List UInt8) : R := rNext (p1 t) 8
end Go.Proofs.Ytijeieamodjgbab
