
/- The program's tracker in memory; walk of grow. -/
import Derived.Test.YtijeieamodjgbaaGreatCl
import Derived.Deep.DeepCutAuto
import Derived.Test.YtijeieamodjgbaaGreatLgV
namespace Go.Proofs.YtijeieamodjgbaaGreat
set_option maxRecDepth 100000
open Go.RowKit
set_option linter.unusedVariables false
def trX (p : Nat) (oc os : Option Nat) : Nat → Prop := fun k => k = p ∨ oc = some k ∨ os = some k
def XSub (X X' : Nat → Prop) (w : World) : Prop := (∀ k, X' k → X k) ∧ ∀ k, k < w.heap.size → X k → X' k
theorem XSub.refl (X : Nat → Prop) (w : World) : XSub X X w := ⟨fun _ h => h, fun _ _ h => h⟩
theorem XSub.trans {X X' X'' : Nat → Prop} {w w1 : World} (h : XSub X X' w) (h2 : XSub X' X'' w1) (hz : w.heap.size ≤ w1.heap.size) : XSub X X'' w :=
  ⟨fun k hk => h.1 k (h2.1 k hk), fun k hk hx => h2.2 k (by omega) (h.2 k hk hx)⟩
end Go.Proofs.YtijeieamodjgbaaGreat
/- Walk of the program's New. -/
namespace Go.Proofs.YtijeieamodjgbaaGreat
set_option maxRecDepth 100000
open Go.RowKit
set_option linter.unusedVariables false
end Go.Proofs.YtijeieamodjgbaaGreat
/- Reading the program's tracker; walk of Add. -/
namespace Go.Proofs.YtijeieamodjgbaaGreat
set_option maxRecDepth 100000
open Go.RowKit
attribute [local irreducible] wpQuiet
set_option linter.unusedVariables false
end Go.Proofs.YtijeieamodjgbaaGreat
/- Walks of Epoch and At. -/
namespace Go.Proofs.YtijeieamodjgbaaGreat
set_option maxRecDepth 100000
open Go.RowKit
set_option linter.unusedVariables false
end Go.Proofs.YtijeieamodjgbaaGreat
/- Walk of Chain. -/
namespace Go.Proofs.YtijeieamodjgbaaGreat
set_option maxRecDepth 100000
open Go.RowKit
set_option linter.unusedVariables false
end Go.Proofs.YtijeieamodjgbaaGreat
/- A tracker that isn't there. -/
namespace Go.Proofs.YtijeieamodjgbaaGreat
set_option maxRecDepth 100000
open Go.RowKit
set_option linter.unusedVariables false
end Go.Proofs.YtijeieamodjgbaaGreat
/- Walk of four. -/
namespace Go.Proofs.YtijeieamodjgbaaGreat
set_option maxRecDepth 100000
open Go.RowKit
set_option linter.unusedVariables false
end Go.Proofs.YtijeieamodjgbaaGreat
