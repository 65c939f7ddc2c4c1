
/- Walk of the reference's Proves. -/
import Derived.Test.YtfhbjajhmegdmaaPvW
namespace Go.Proofs.Ytfhbjajhmegdmaa
set_option maxRecDepth 100000
open Go.RowKit
attribute [local irreducible] wpQuiet
set_option linter.unusedVariables false

def prevOf (sigs : List Sg) (k : Nat) : Option Int := if k = 0 then none else (sigs[k - 1]?).map (·.1)
theorem prevOf_succ {sigs : List Sg} {k : Nat} {s : Sg} (h : sigs[k]? = some s) : prevOf sigs (k + 1) = some s.1 := by
  rw [prevOf, if_neg (by omega), Nat.add_sub_cancel, h]; rfl

end Go.Proofs.Ytfhbjajhmegdmaa
