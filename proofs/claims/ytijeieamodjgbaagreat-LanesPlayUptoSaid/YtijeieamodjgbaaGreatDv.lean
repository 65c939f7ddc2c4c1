
/- Request of an Ask; lives of witanlaw11. -/
import Derived.Test.YtijeieamodjgbaaGreatDh
import Derived.StillTailTactics
namespace Go.Proofs.YtijeieamodjgbaaGreat
set_option maxRecDepth 100000
open Go.RowKit
set_option linter.unusedVariables false
set_option linter.unusedSimpArgs false
attribute [local go_sem] run_store_float
theorem null_rq (r : Rq) (h : r.Ok) (w : World) : Calls Tryz.prog 142 #[r.v] w fun e w' => e = .returned (.bool (nullQ r.c r.s r.kind r.key r.b r.id)) ∧ Below w.heap.size w w' := qnull_any _ _ _ _ _ _ w h.c h.s h.kind h.id
end Go.Proofs.YtijeieamodjgbaaGreat
