
/- Walks of lineage.Valid and of the reference's. -/
import Derived.Test.YtijeieamodjgbaaGreatPvP
import Derived.Test.YtijeieamodjgbaaGreatTxP
namespace Go.Proofs.YtijeieamodjgbaaGreat
set_option maxRecDepth 100000
open Go.RowKit
set_option linter.unusedVariables false
def validC (e0 : Int) (l0 : List Int) (e1 : Int) (l1 : List Int) (sigs : List Sg) : Int :=
  if rightB e0 l0 = true ∧ rightB e1 l1 = true then (if e1 = e0 + 1 then (if provesB e0 l0 (textS e1 l1) sigs = true then 0 else 15) else 12) else 1
structure VBox (w0 : World) (e0 : Int) (a0 : Option Addr) (n0 c0 : Nat) (l0 : List Int) (e1 : Int) (a1 : Option Addr) (n1 c1 : Nat) (l1 : List Int) (sa : Option Addr) (sn sc : Nat) (sigs : List Sg) (w : World) : Prop where
  below : Below w0.heap.size w0 w
  b0 : w.heap[w0.heap.size]? = some (.cells #[.int .i64 e0, .slice a0 n0 c0] 89 (0, 0))
  b1 : w.heap[w0.heap.size + 1]? = some (.cells #[.int .i64 e1, .slice a1 n1 c1, .slice sa sn sc] 93 (0, 0))
  i0 : IntsAt w a0 n0 l0
  i1 : IntsAt w a1 n1 l1
  s : SlAt shSig w sa sn sc sigs
section
variable {w0 w w' : World} {e0 e1 : Int} {a0 a1 sa : Option Addr} {n0 c0 n1 c1 sn sc : Nat} {l0 l1 : List Int} {sigs : List Sg}
theorem VBox.old (h : VBox w0 e0 a0 n0 c0 l0 e1 a1 n1 c1 l1 sa sn sc sigs w) (hb : Below w.heap.size w w') : VBox w0 e0 a0 n0 c0 l0 e1 a1 n1 c1 l1 sa sn sc sigs w' :=
  ⟨bthen h.below hb, blk_below h.b0 hb, blk_below h.b1 hb, h.i0.below hb, h.i1.below hb, h.s.old hb⟩
theorem VBox.cells (h : VBox w0 e0 a0 n0 c0 l0 e1 a1 n1 c1 l1 sa sn sc sigs w) : w.cell? ⟨w0.heap.size, 0, none⟩ = some (.int .i64 e0) ∧ w.cell? ⟨w0.heap.size, 1, none⟩ = some (.slice a0 n0 c0) ∧
    w.cell? ⟨w0.heap.size + 1, 0, none⟩ = some (.int .i64 e1) ∧ w.cell? ⟨w0.heap.size + 1, 1, none⟩ = some (.slice a1 n1 c1) ∧ w.cell? ⟨w0.heap.size + 1, 2, none⟩ = some (.slice sa sn sc) :=
  ⟨by rw [blk_cell h.b0]; rfl, by rw [blk_cell h.b0]; rfl, by rw [blk_cell h.b1]; rfl, by rw [blk_cell h.b1]; rfl, by rw [blk_cell h.b1]; rfl⟩
theorem VBox.start (h0 : IntsAt w0 a0 n0 l0) (h1 : IntsAt w0 a1 n1 l1) (hs : SlAt shSig w0 sa sn sc sigs) :
    VBox w0 e0 a0 n0 c0 l0 e1 a1 n1 c1 l1 sa sn sc sigs ((w0.alloc (.cells #[.int .i64 e0, .slice a0 n0 c0] 89)).alloc (.cells #[.int .i64 e1, .slice a1 n1 c1, .slice sa sn sc] 93)) := by
  have b1 := below_alloc w0 (.cells #[.int .i64 e0, .slice a0 n0 c0] 89); have b2 := below_alloc (w0.alloc (.cells #[.int .i64 e0, .slice a0 n0 c0] 89)) (.cells #[.int .i64 e1, .slice a1 n1 c1, .slice sa sn sc] 93); have b := bthen b1 b2
  refine ⟨b, blk_below (blk_alloc _ _) b2, ?_, h0.below b, h1.below b, hs.old b⟩
  have := blk_alloc (w0.alloc (.cells #[.int .i64 e0, .slice a0 n0 c0] 89)) (.cells #[.int .i64 e1, .slice a1 n1 c1, .slice sa sn sc] 93)
  rw [World.size_alloc] at this
  exact this
end
end Go.Proofs.YtijeieamodjgbaaGreat
/- Walk of the reference's Valid. -/
namespace Go.Proofs.YtijeieamodjgbaaGreat
set_option maxRecDepth 100000
open Go.RowKit
set_option linter.unusedVariables false
end Go.Proofs.YtijeieamodjgbaaGreat
