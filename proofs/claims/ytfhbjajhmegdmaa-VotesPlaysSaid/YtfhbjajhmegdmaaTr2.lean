
/- The program's tracker in memory; walk of grow. -/
import Derived.Test.YtfhbjajhmegdmaaTr
import Derived.Deep.DeepCutAuto
namespace Go.Proofs.Ytfhbjajhmegdmaa
set_option maxRecDepth 100000
open Go.RowKit
set_option linter.unusedVariables false

theorem info_conf' : (Try.prog.info? 24).map (fun i => (i.zero, i.size, i.bytes)) = some (some (.agg #[.int .i64 0, .slice none 0 0]), 2, 32) := by kernel_rfl
theorem info_sigs' : (Try.prog.info? 39).map (fun i => (i.zero, i.size, i.bytes)) = some (some (.slice none 0 0), 1, 24) := by kernel_rfl

/-- A tracker's own blocks: its struct, its two rows. -/
def trX (p : Nat) (oc os : Option Nat) : Nat → Prop := fun k => k = p ∨ oc = some k ∨ os = some k
/-- Fewer blocks are free of things, but none of the older ones. -/
def XSub (X X' : Nat → Prop) (w : World) : Prop := (∀ k, X' k → X k) ∧ ∀ k, k < w.heap.size → X k → X' k
theorem XSub.refl (X : Nat → Prop) (w : World) : XSub X X w := ⟨fun _ h => h, fun _ _ h => h⟩
theorem XSub.trans {X X' X'' : Nat → Prop} {w w1 : World} (h : XSub X X' w) (h2 : XSub X' X'' w1) (hz : w.heap.size ≤ w1.heap.size) : XSub X X'' w :=
  ⟨fun k hk => h.1 k (h2.1 k hk), fun k hk hx => h2.2 k (by omega) (h.2 k hk hx)⟩



theorem conf_new (w : World) (e : Int) (a : Option Addr) (n c : Nat) (t : TypeId) : ∀ j u, [Value.int .i64 e, .slice a n c][j]? = some u → (w.alloc (.cells #[.int .i64 e, .slice a n c] t)).cell? ((⟨w.heap.size, 0, none⟩ : Addr).add j) = some u := by
  intro j u h
  rw [Addr.add_lit, blk_cell (blk_alloc w _), ← h]
  simp

theorem sigs_new (w : World) (a : Option Addr) (n c : Nat) (t : TypeId) : ∀ j u, [Value.slice a n c][j]? = some u → (w.alloc (.cells #[.slice a n c] t)).cell? ((⟨w.heap.size, 0, none⟩ : Addr).add j) = some u := by
  intro j u h
  rw [Addr.add_lit, blk_cell (blk_alloc w _), ← h]
  simp

end Go.Proofs.Ytfhbjajhmegdmaa
