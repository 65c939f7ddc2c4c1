
/- Texts behind a sign and numbers: plain, and walks of both layers' State. -/
import Derived.Test.YtijeieamodjgbabPkW
import Derived.Test.YtijeieamodjgbabPkM
import Derived.Test.YtijeieamodjgbabQuiet
import Derived.Laws.Concat

namespace Go.Proofs.Ytijeieamodjgbab
set_option maxRecDepth 100000
open Go.RowKit
set_option linter.unusedVariables false
set_option linter.unusedSimpArgs false

/-- A writer that is small. -/
structure Small (s : W) : Prop where
  room : 0 ≤ s.room
  size : (s.out.length : Int) + s.room ≤ 1000
  err : 0 ≤ s.err ∧ s.err ≤ 9
theorem Small.put {s : W} (h : Small s) (ok : Bool) (bs : List UInt8) : Small (wPut s ok bs) :=
  ⟨(wPut_room (ok := ok) (bs := bs) (T := 1000) h.room h.size).1, (wPut_room (ok := ok) (bs := bs) (T := 1000) h.room h.size).2, wPut_errs h.err⟩
end Go.Proofs.Ytijeieamodjgbab
