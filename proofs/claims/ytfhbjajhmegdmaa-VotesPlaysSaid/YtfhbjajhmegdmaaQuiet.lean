
/- A region that draws its order, whose operations only read old memory and whose callees leave old memory as it was: one walk in the text's order. No program in sight. -/
import Derived.Test.YtfhbjajhmegdmaaMem
import Derived.Deep.QuietTactic
import Derived.BigQuiet
namespace Go.Proofs.Ytfhbjajhmegdmaa
set_option maxRecDepth 100000
open Go.RowKit

theorem wp_region_below {P : Program} {id : Nat} {Q : Exit → Act → World → Prop} {a : Act} {w : World} {l : List Oper} (hm : P.follows .mixedOrders = true) (hB : Region.lexB .any l.toArray = true)
    (h : wpQuiet P l.toArray (Below w.heap.size w) (fun a' => ∀ w', Below w.heap.size w w' → Q .normal a' w') l a) : (Code.region id l.toArray true).wp P Q a w :=
  wp_region_quiet (C := Below w.heap.size w) hm hB ⟨rfl, rfl, rfl, Nat.le_refl _, fun _ _ => rfl⟩ (by simpa using h)

theorem below_cell {w w' : World} (h : Below w.heap.size w w') {b o : Nat} {v : Value} (hc : w.cell? ⟨b, o, none⟩ = some v) : w'.cell? ⟨b, o, none⟩ = some v := by
  rw [h.cell (World.block_lt hc)]; exact hc

theorem Calls.quiet_below {P : Program} {f : FuncId} {args : Array Value} {w w' : World} {v : Value} (hC : Below w.heap.size w w')
    (h : Calls P f args w' fun e w'' => e = .returned v ∧ Below w'.heap.size w' w'') : Calls P f args w' fun e w'' => e = .returned v ∧ Below w.heap.size w w'' :=
  h.mono fun _ _ ⟨he, hb⟩ => ⟨he, hC.trans (hb.mono hC.size)⟩
theorem Calls.quiet_below_same {P : Program} {f : FuncId} {args : Array Value} {w w' : World} {v : Value} (hC : Below w.heap.size w w')
    (h : Calls P f args w' fun e w'' => e = .returned v ∧ w' = w'') : Calls P f args w' fun e w'' => e = .returned v ∧ Below w.heap.size w w'' :=
  h.mono fun _ _ ⟨he, hb⟩ => ⟨he, hb ▸ hC⟩
theorem Calls.quiet_below_drawn {P : Program} {f : FuncId} {args : Array Value} {w w' : World} {v : Value} (hC : Below w.heap.size w w')
    (h : Calls P f args w' fun e w'' => e = .returned v ∧ ∃ q, w'' = w'.drewN q) : Calls P f args w' fun e w'' => e = .returned v ∧ Below w.heap.size w w'' :=
  h.mono fun _ _ ⟨he, q, hb⟩ => ⟨he, hb ▸ below_drewN hC q⟩
end Go.Proofs.Ytfhbjajhmegdmaa
