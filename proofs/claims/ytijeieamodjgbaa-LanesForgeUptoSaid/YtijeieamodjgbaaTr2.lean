
/- The program's tracker in memory; walk of grow. -/
import Derived.Test.YtijeieamodjgbaaCl
import Derived.Deep.DeepCutAuto
import Derived.Test.YtijeieamodjgbaaLgV

namespace Go.Proofs.Ytijeieamodjgbaa
set_option maxRecDepth 100000
open Go.RowKit
set_option linter.unusedVariables false

/-- A tracker's own blocks: its struct, its two rows. -/
def trX (p : Nat) (oc os : Option Nat) : Nat → Prop := fun k => k = p ∨ oc = some k ∨ os = some k
/-- X: all blocks but those in which the things of its rows have their parts. -/
structure Trk (X : Nat → Prop) (w : World) (B p : Nat) (oc os : Option Nat) (cs : List Cf) (ss : List (List Sg)) : Prop where
  hB : B ≤ p
  noc : oc ≠ some p
  nos : os ≠ some p
  ncs : ∀ k, oc = some k → os ≠ some k
  own : ∀ k, trX p oc os k → X k
  new : ∀ k, w.heap.size ≤ k → X k
  ex : ∃ vc vs xc xs, w.heap[p]? = some (.cells #[vc, vs] 208 (0, 0)) ∧ w.ownsRow B 74 2 vc cs.length xc ∧ vc.ownBlock = oc ∧ rowOf shConf X w cs xc ∧
    w.ownsRow B 30 1 vs ss.length xs ∧ vs.ownBlock = os ∧ rowOf shSig.slice X w ss xs
theorem Trk.lt {X : Nat → Prop} {w : World} {B p : Nat} {oc os : Option Nat} {cs : List Cf} {ss : List (List Sg)} (h : Trk X w B p oc os cs ss) : p < w.heap.size ∧ (∀ k, oc = some k → B ≤ k ∧ k < w.heap.size) ∧ (∀ k, os = some k → B ≤ k ∧ k < w.heap.size) := by
  obtain ⟨vc, vs, xc, xs, hp, h1, rfl, _, h2, rfl, _⟩ := h.ex
  exact ⟨blk_lt hp, h1.lt, h2.lt⟩
/-- It stays, whatever is done to blocks that are neither its own nor its things'. -/
theorem Trk.keep {X : Nat → Prop} {w w' : World} {B p : Nat} {oc os : Option Nat} {cs : List Cf} {ss : List (List Sg)} {Y : Nat → Prop} (h : Trk X w B p oc os cs ss) (hk : Keep Y w w') (hY : ∀ k, k < w.heap.size → Y k → X k ∧ ¬ trX p oc os k) : Trk X w' B p oc os cs ss := by
  obtain ⟨hl1, hl2, hl3⟩ := h.lt
  obtain ⟨vc, vs, xc, xs, hp, h1, e1, r1, h2, e2, r2⟩ := h.ex
  refine ⟨h.hB, h.noc, h.nos, h.ncs, h.own, fun k hk' => h.new k (Nat.le_trans hk.size hk'), vc, vs, xc, xs, by rw [hk.block p (blk_lt hp) (fun hy => (hY p hl1 hy).2 (.inl rfl))]; exact hp, owns_keep h1 hk (fun k hk' hy => ?_), e1, r1.step hk (fun k hk' hy => (hY k hk' hy).1) (fun _ _ hx => hx),
    owns_keep h2 hk (fun k hk' hy => ?_), e2, r2.step hk (fun k hk' hy => (hY k hk' hy).1) (fun _ _ hx => hx)⟩
  · rw [e1] at hk'
    exact (hY k (hl2 k hk').2 hy).2 (.inr (.inl hk'))
  · rw [e2] at hk'
    exact (hY k (hl3 k hk').2 hy).2 (.inr (.inr hk'))
theorem Trk.old {X : Nat → Prop} {w w' : World} {B p : Nat} {oc os : Option Nat} {cs : List Cf} {ss : List (List Sg)} (h : Trk X w B p oc os cs ss) (hb : Below w.heap.size w w') : Trk X w' B p oc os cs ss :=
  h.keep (Y := fun _ => False) (Keep.of_below hb) (fun _ _ hc => hc.elim)
/-- Fewer blocks are free of things, but none of the older ones. -/
def XSub (X X' : Nat → Prop) (w : World) : Prop := (∀ k, X' k → X k) ∧ ∀ k, k < w.heap.size → X k → X' k
theorem XSub.refl (X : Nat → Prop) (w : World) : XSub X X w := ⟨fun _ h => h, fun _ _ h => h⟩
theorem XSub.trans {X X' X'' : Nat → Prop} {w w1 : World} (h : XSub X X' w) (h2 : XSub X' X'' w1) (hz : w.heap.size ≤ w1.heap.size) : XSub X X'' w :=
  ⟨fun k hk => h.1 k (h2.1 k hk), fun k hk hx => h2.2 k (by omega) (h.2 k hk hx)⟩

end Go.Proofs.Ytijeieamodjgbaa

/- Walk of the program's New. -/
namespace Go.Proofs.Ytijeieamodjgbaa
set_option maxRecDepth 100000
open Go.RowKit
set_option linter.unusedVariables false

end Go.Proofs.Ytijeieamodjgbaa

/- Reading the program's tracker; walk of Add. -/
namespace Go.Proofs.Ytijeieamodjgbaa
set_option maxRecDepth 100000
open Go.RowKit
attribute [local irreducible] wpQuiet
set_option linter.unusedVariables false

theorem Trk.view {X : Nat → Prop} {w : World} {B p : Nat} {oc os : Option Nat} {cs : List Cf} {ss : List (List Sg)} (h : Trk X w B p oc os cs ss) (h1 : cs.length ≤ 1000) (h2 : ss.length ≤ 1000) :
    ∃ ac cc ag cg, w.heap[p]? = some (.cells #[.slice ac cs.length cc, .slice ag ss.length cg] 208 (0, 0)) ∧ SlAt shConf w ac cs.length cc cs ∧ SlAt shSig.slice w ag ss.length cg ss := by
  obtain ⟨vc, vs, xc, xs, hp, o1, e1, r1, o2, e2, r2⟩ := h.ex
  obtain ⟨ac, cc, rfl⟩ := owns_form o1
  obtain ⟨ag, cg, rfl⟩ := owns_form o2
  exact ⟨ac, cc, ag, cg, hp, sl_of_row o1 r1 (by show _ * 32 ≤ _; omega), sl_of_row o2 r2 (by show _ * 24 ≤ _; omega)⟩
end Go.Proofs.Ytijeieamodjgbaa

/- Walks of Epoch and At. -/
namespace Go.Proofs.Ytijeieamodjgbaa
set_option maxRecDepth 100000
open Go.RowKit
set_option linter.unusedVariables false

end Go.Proofs.Ytijeieamodjgbaa

/- Walk of Chain. -/
namespace Go.Proofs.Ytijeieamodjgbaa
set_option maxRecDepth 100000
open Go.RowKit
set_option linter.unusedVariables false

end Go.Proofs.Ytijeieamodjgbaa

/- A tracker that isn't there. -/
namespace Go.Proofs.Ytijeieamodjgbaa
set_option maxRecDepth 100000
open Go.RowKit
set_option linter.unusedVariables false

end Go.Proofs.Ytijeieamodjgbaa

/- Walk of four. -/
namespace Go.Proofs.Ytijeieamodjgbaa
set_option maxRecDepth 100000
open Go.RowKit
set_option linter.unusedVariables false

end Go.Proofs.Ytijeieamodjgbaa
