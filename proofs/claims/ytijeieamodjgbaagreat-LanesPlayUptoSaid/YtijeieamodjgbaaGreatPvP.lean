
/- Which lists are proofs: plain. No program in sight. -/
import Derived.Test.YtijeieamodjgbaaGreatCoP
import Derived.Test.YtijeieamodjgbaaGreatVw
import Derived.Test.YtijeieamodjgbaaGreatCoW
namespace Go.Proofs.YtijeieamodjgbaaGreat
set_option maxRecDepth 100000
def sigsUp (l : List Int) (text : ByteArray) (last : Int) : List Sg → Bool
  | [] => true
  | s :: r => if s.2 = text ∧ last < s.1 ∧ hasB l s.1 = true then sigsUp l text s.1 r else false
def provesB (e : Int) (l : List Int) (text : ByteArray) (sigs : List Sg) : Bool :=
  rightB e l && decide (sigs.length ≤ 16) && decide (quorumP l.length ≤ sigs.length) && sigsUp l text (-1) sigs
end Go.Proofs.YtijeieamodjgbaaGreat
/- Walks of terms.Proves and of the reference's. -/
namespace Go.Proofs.YtijeieamodjgbaaGreat
set_option maxRecDepth 100000
open Go.RowKit
set_option linter.unusedVariables false
end Go.Proofs.YtijeieamodjgbaaGreat
/- Walk of the reference's Proves. -/
namespace Go.Proofs.YtijeieamodjgbaaGreat
set_option maxRecDepth 100000
open Go.RowKit
attribute [local irreducible] wpQuiet
set_option linter.unusedVariables false
end Go.Proofs.YtijeieamodjgbaaGreat
