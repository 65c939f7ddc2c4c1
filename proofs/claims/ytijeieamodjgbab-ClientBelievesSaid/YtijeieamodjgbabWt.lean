
/- Walk of the program's Terms. -/
import Derived.Test.YtijeieamodjgbabWm
import Derived.Test.YtijeieamodjgbabOwn
import Derived.Laws.AppendOwn
import Derived.Test.YtijeieamodjgbabTk

namespace Go.Proofs.Ytijeieamodjgbab
set_option maxRecDepth 100000
open Go.RowKit
set_option linter.unusedVariables false
set_option linter.unusedSimpArgs false
attribute [local go_sem] run_store_float

/-- The captured list: a block of one cell, its row elsewhere; all from B on. -/
def TmAt (w : World) (B ob : Nat) (acc : List Sg) : Prop := B ≤ ob ∧ ∃ v, w.heap[ob]? = some (.cells #[v] 46 (0, 0)) ∧ w.ownsRow B 108 2 v acc.length (sigV acc) ∧ v.ownBlock ≠ some ob
theorem TmAt.old {w w' : World} {B ob : Nat} {acc : List Sg} (h : TmAt w B ob acc) (hb : Below w.heap.size w w') : TmAt w' B ob acc := by
  obtain ⟨h0, v, h1, h2, h3⟩ := h
  exact ⟨h0, v, blk_below h1 hb, owns_old h2 hb, h3⟩
/-- Blocks that are no row of signatures, nor the list's own, stay. -/
def KeepT (ob : Nat) (w w' : World) : Prop := ∀ k cs t fr, w.heap[k]? = some (.cells cs t fr) → t ≠ 108 → k ≠ ob → w'.heap[k]? = some (.cells cs t fr)
theorem KeepT.trans {ob : Nat} {w w1 w2 : World} (h : KeepT ob w w1) (h2 : KeepT ob w1 w2) : KeepT ob w w2 := fun k cs t fr hk ht hne => h2 k cs t fr (h k cs t fr hk ht hne) ht hne
theorem KeepT.below {ob : Nat} {w w1 : World} (h : Below w.heap.size w w1) : KeepT ob w w1 := fun k cs t fr hk _ _ => blk_below hk h
theorem KeepT.refl (ob : Nat) (w : World) : KeepT ob w w := fun _ _ _ _ h _ _ => h

end Go.Proofs.Ytijeieamodjgbab

/- Walk of the reference's Terms. -/
namespace Go.Proofs.Ytijeieamodjgbab
set_option maxRecDepth 100000
open Go.RowKit
set_option linter.unusedVariables false
set_option linter.unusedSimpArgs false
attribute [local go_sem] run_store_float

/-- A row of signatures under way. -/
def TrAt (w1 w : World) (v : Value) (acc : List Sg) : Prop := Below w1.heap.size w1 w ∧ ∃ a c, v = .slice a acc.length c ∧ w.ownsRow w1.heap.size 108 2 v acc.length (sigV acc)
theorem TrAt.old {w1 w w' : World} {v : Value} {acc : List Sg} (h : TrAt w1 w v acc) (hb : Below w.heap.size w w') : TrAt w1 w' v acc := by
  obtain ⟨h0, a, c, h1, h2⟩ := h
  exact ⟨h0.trans (hb.mono h0.size), a, c, h1, owns_old h2 hb⟩
end Go.Proofs.Ytijeieamodjgbab
