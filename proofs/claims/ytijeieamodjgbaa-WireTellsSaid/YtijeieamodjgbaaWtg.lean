
/- A cut inside a region that runs in one order. -/
import Derived.Test.YtijeieamodjgbaaWte
namespace Go.Proofs.Ytijeieamodjgbaa
set_option maxRecDepth 100000
open Go.RowKit Go.Deep
set_option linter.unusedVariables false
set_option linter.unusedSimpArgs false

theorem wpList_cut {P : Program} {ops : Array Oper} {Q : Exit → Act → World → Prop} {l : List Oper} {a : Act} {w : World} (n : Nat) (Inv : Act → World → Prop)
    (h1 : ∀ L, (∀ a' w', Inv a' w' → wpList P ops Q L a' w') → wpList P ops Q (l.take n ++ L) a w)
    (h2 : ∀ a' w', Inv a' w' → wpList P ops Q (l.drop n) a' w') : wpList P ops Q l a w := by
  have h := h1 _ h2
  rwa [List.take_append_drop] at h
end Go.Proofs.Ytijeieamodjgbaa
