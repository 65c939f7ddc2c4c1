
/- A region that draws its order, whose operations only read old memory and whose callees leave old memory as it was: one walk in the text's order. No program in sight. -/
import Derived.Test.YtijeieamodjgbabMem
import Derived.Deep.QuietTactic
import Derived.BigQuiet
import Derived.WalkKit
import Derived.Deep.AppendLies
import Derived.Deep.RegionLaw

namespace Go.Proofs.Ytijeieamodjgbab
set_option maxRecDepth 100000
open Go.RowKit

theorem wp_region_below {P : Program} {id : Nat} {Q : Exit → Act → World → Prop} {a : Act} {w : World} {l : List Oper} (hm : P.follows .mixedOrders = true) (hB : Region.lexB .any l.toArray = true)
    (h : wpQuiet P l.toArray (Below w.heap.size w) (fun a' => ∀ w', Below w.heap.size w w' → Q .normal a' w') l a) : (Code.region id l.toArray true).wp P Q a w :=
  wp_region_quiet (C := Below w.heap.size w) hm hB ⟨rfl, rfl, rfl, Nat.le_refl _, fun _ _ => rfl⟩ (by simpa using h)

theorem below_cell {w w' : World} (h : Below w.heap.size w w') {b o : Nat} {v : Value} (hc : w.cell? ⟨b, o, none⟩ = some v) : w'.cell? ⟨b, o, none⟩ = some v := by
  rw [h.cell (World.block_lt hc)]; exact hc

theorem Calls.quiet_below {P : Program} {f : FuncId} {args : Array Value} {w w' : World} {v : Value} (hC : Below w.heap.size w w')
    (h : Calls P f args w' fun e w'' => e = .returned v ∧ Below w'.heap.size w' w'') : Calls P f args w' fun e w'' => e = .returned v ∧ Below w.heap.size w w'' :=
  h.mono fun _ _ ⟨he, hb⟩ => ⟨he, hC.trans (hb.mono hC.size)⟩
theorem Calls.quiet_below_same {P : Program} {f : FuncId} {args : Array Value} {w w' : World} {v : Value} (hC : Below w.heap.size w w')
    (h : Calls P f args w' fun e w'' => e = .returned v ∧ w' = w'') : Calls P f args w' fun e w'' => e = .returned v ∧ Below w.heap.size w w'' :=
  h.mono fun _ _ ⟨he, hb⟩ => ⟨he, hb ▸ hC⟩
theorem Calls.quiet_below_drawn {P : Program} {f : FuncId} {args : Array Value} {w w' : World} {v : Value} (hC : Below w.heap.size w w')
    (h : Calls P f args w' fun e w'' => e = .returned v ∧ ∃ q, w'' = w'.drewN q) : Calls P f args w' fun e w'' => e = .returned v ∧ Below w.heap.size w w'' :=
  h.mono fun _ _ ⟨he, q, hb⟩ => ⟨he, hb ▸ below_drewN hC q⟩
end Go.Proofs.Ytijeieamodjgbab

/- A region that draws its order, walked in parts: operations that are quiet in a class of worlds, then one that all others wait for, then a new class. No program in sight. -/
namespace Go.Proofs.Ytijeieamodjgbab
set_option maxRecDepth 100000
open Go.RowKit

section
variable {P : Program} {ops : Array Oper} {md : Region.Mode} {C : World → Prop}

/-- The first k operations have come up. -/
def firstK (ops : Array Oper) (k : Nat) : Array Bool := ((List.range ops.size).map fun i => decide (i < k)).toArray
def Dc (md : Region.Mode) (ops : Array Oper) (listed : Array Bool) : Prop :=
  ∀ x o e, ops[x]? = some o → listed.getD x false = true → e ∈ o.after → Region.binds md e = true → listed.getD e.on false = true
theorem Dc.set {listed : Array Bool} (h : Dc md ops listed) {j : Nat} (hj : j ∈ Region.ready md ops listed) : Dc md ops (listed.setIfInBounds j true) := by
  intro x o e ho hl he hb
  by_cases hx : j = x
  · subst hx
    obtain ⟨_, o', ho', hall⟩ := mem_ready.1 hj
    rw [ho] at ho'; injection ho' with ho'; subst ho'
    exact getD_set_true (hall e he hb)
  · rw [getD_set_ne false hx] at hl
    exact getD_set_true (h x o e ho hl he hb)

end
end Go.Proofs.Ytijeieamodjgbab

/- Steps of a region that draws its order: a call met by its contract. No program in sight. -/
namespace Go.Proofs.Ytijeieamodjgbab
set_option maxRecDepth 100000
open Go.RowKit

/-- A call of a function at a step of a region that draws, met by its contract. -/
theorem step_calls {P : Program} {ops : Array Oper} {o : Oper} {a : Act} {w : World} {K : Act → World → Prop} {Q : Exit → Act → World → Prop} {E : Prop} (hgd : o.guard = none)
    (f : FuncId) (args : Array Value) (hrun : (execOp a.eval o).run P w = .ok (.enter f args) w) {R : Ending → World → Prop} (hc : Calls P f args w R) (h : ∀ e w', R e w' → ∃ v, e = .returned v ∧ K (a.put o.dst v) w') :
    if Region.wanted o (yielded ops a.tmps) = true then Oper.wp P o a w K Q else E := by
  have hw : Region.wanted o (yielded ops a.tmps) = true := by simp [Region.wanted, hgd]
  rw [if_pos hw]
  unfold Oper.wp
  rw [hrun, Oper.upon_enter]
  refine hc.mono fun e w' he => ?_
  obtain ⟨v, rfl, hk⟩ := h e w' he
  exact hk

/-- Which function an operation calls. -/
def opCalls (o : Oper) : Option FuncId := match o.op with
  | .call c => (match c.callee with | .value (.func f) => some f | _ => none)
  | _ => none
/-- At a call of f alone. -/
theorem step_at (f : FuncId) {P : Program} {y : Nat → Option Bool} {o : Oper} {a : Act} {w : World} {K : Act → World → Prop} {Q : Exit → Act → World → Prop} {E : Prop} (_h : opCalls o = some f)
    (k : if Region.wanted o y = true then Oper.wp P o a w K Q else E) : if Region.wanted o y = true then Oper.wp P o a w K Q else E := k
/-- The same under a guard that holds. -/
theorem step_calls_g {P : Program} {ops : Array Oper} {o : Oper} {a : Act} {w : World} {K : Act → World → Prop} {Q : Exit → Act → World → Prop} {E : Prop} (hw : Region.wanted o (yielded ops a.tmps) = true)
    (f : FuncId) (args : Array Value) (hrun : (execOp a.eval o).run P w = .ok (.enter f args) w) {R : Ending → World → Prop} (hc : Calls P f args w R) (h : ∀ e w', R e w' → ∃ v, e = .returned v ∧ K (a.put o.dst v) w') :
    if Region.wanted o (yielded ops a.tmps) = true then Oper.wp P o a w K Q else E := by
  rw [if_pos hw]
  unfold Oper.wp
  rw [hrun, Oper.upon_enter]
  refine hc.mono fun e w' he => ?_
  obtain ⟨v, rfl, hk⟩ := h e w' he
  exact hk
end Go.Proofs.Ytijeieamodjgbab
