
/- Walks of letter and of (*Reader).value. -/
import Derived.Test.YtijeieamodjgbaaRdW
import Derived.Test.YtijeieamodjgbaaQuiet
import Derived.Tactics
import Derived.Tactics2
import Derived.Defers
import Derived.Recover
import Derived.Laws.Pointers

namespace Go.Proofs.Ytijeieamodjgbaa
set_option maxRecDepth 100000
open Go.RowKit
set_option linter.unusedVariables false

theorem prd_below {p : Nat} {text : ByteArray} {w w' : World} {s : R} (hr : PRd w p text s) (hb : Below w.heap.size w w') : PRd w' p text s := by
  obtain ⟨at0, ha, hts, hk, hrest⟩ := hr
  exact ⟨at0, ha, hts, blk_below hk hb, hrest⟩
theorem prd_lt {p : Nat} {text : ByteArray} {w : World} {s : R} (hr : PRd w p text s) : p < w.heap.size := by
  obtain ⟨at0, ha, hts, hk, hrest⟩ := hr
  exact blk_lt hk

/-- A thing that is read. -/
structure V where
  n : Nat
  b : Nat
  t : List UInt8
end Go.Proofs.Ytijeieamodjgbaa

/- Scan: the deferred closure's contracts. -/
namespace Go.Proofs.Ytijeieamodjgbaa
set_option maxRecDepth 100000
open Go.RowKit
set_option linter.unusedVariables false

end Go.Proofs.Ytijeieamodjgbaa
