
/- Lanes: a lane that isn't there; a packet of who isn't bad; lives of witanlaw20; readings. -/
import Derived.Test.YtijeieamodjgbabLd
import Derived.Great.Walk
import Derived.Test.YtijeieamodjgbabNews3
import Derived.Test.YtijeieamodjgbabWw
import Derived.Test.YtijeieamodjgbabWt

namespace Go.Proofs.Ytijeieamodjgbab
set_option maxRecDepth 100000
open Go.RowKit Go.Deep
attribute [local irreducible] wpQuiet
set_option linter.unusedVariables false
set_option linter.unusedSimpArgs false
attribute [local go_sem] run_store_float

theorem wpList_gval {P : Program} {ops : Array Oper} {rest : List Oper} {o : Oper} {a : Act} {w w' : World} {Q : Exit → Act → World → Prop} {v : Value} (hw : Region.wanted o (yielded ops a.tmps) = true) (hrun : (execOp a.eval o).run P w = .ok (.value v) w') (h : wpList P ops Q rest (a.put o.dst v) w') : wpList P ops Q (o :: rest) a w :=
  wpList_step fun K hK => by
    rw [if_pos hw]
    unfold Oper.wp
    rw [hrun]
    exact hK _ _ h
end Go.Proofs.Ytijeieamodjgbab

/- Lanes: steps of witanlaw20; Drop, Copy, Inject of a lane that is there. (printed by mkLo.py) -/
namespace Go.Proofs.Ytijeieamodjgbab
set_option maxRecDepth 100000
open Go.RowKit Go.Deep
attribute [local irreducible] wpQuiet
set_option linter.unusedVariables false
set_option linter.unusedSimpArgs false
attribute [local go_sem] run_store_float

end Go.Proofs.Ytijeieamodjgbab

/- Lanes: a lane all of whose memory is younger than the arguments: what each call leaves. -/
namespace Go.Proofs.Ytijeieamodjgbab
set_option maxRecDepth 100000
open Go.RowKit Go.Deep
set_option linter.unusedVariables false
set_option linter.unusedSimpArgs false

section
variable {w wr : World} {p : Nat} {bad : List Int} {row : List Pk} {book : List Sg} {N : Nat}
end

end Go.Proofs.Ytijeieamodjgbab
