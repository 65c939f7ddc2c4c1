
/- slices.Delete of one packet: what it leaves of a row. -/
import Derived.Test.YtijeieamodjgbabNews3
import Derived.Test.YtijeieamodjgbabVw
import Derived.Deep.DeepAppendRoom
import Derived.Lib.SliceRun
import Derived.Deep.DeepCutAuto
import Derived.IntWalk
import Derived.Test.YtijeieamodjgbabWt
import Derived.Test.YtijeieamodjgbabBk
import Derived.Test.YtijeieamodjgbabKp
import Derived.Laws.IdiomCopy
import Derived.Deep.MidRow

namespace Go.Proofs.Ytijeieamodjgbab
set_option maxRecDepth 100000
open Go.RowKit
set_option linter.unusedVariables false
set_option linter.unusedSimpArgs false

def zeroPk : List Value := [.int .i64 0, .int .i64 0, .int .i64 0, .int .i64 0, .int .i64 0, .int .i64 0, .int .i64 0, .int .i64 0, .int .i64 0, .string ⟨#[]⟩, .float .f64 0, .int .i64 0, .int .i64 0, .float .f64 0, .string ⟨#[]⟩, .slice none 0 0, .slice none 0 0, .slice none 0 0, .slice none 0 0]
theorem info_pk : (Try.prog.info? 134).map (fun i => (i.zero, i.size, i.bytes)) = some (some (.agg zeroPk.toArray), 19, 232) := by kernel_rfl
end Go.Proofs.Ytijeieamodjgbab

/- Lanes: packets and lanes in memory. No walk yet but of New, full, Len. -/
namespace Go.Proofs.Ytijeieamodjgbab
set_option maxRecDepth 100000
open Go.RowKit Go.Deep
set_option linter.unusedVariables false
set_option linter.unusedSimpArgs false

/-- A packet: from whom, to whom, the message. -/
structure Pk where
  fr : Int
  tt : Int
  m : Mg
section
variable {α : Type} {S : Sh α} {X : Nat → Prop} {w : World}
theorem rowOf.all {Q : Value → Prop} (hS : ∀ y cs, S.E w y cs → ∀ u ∈ cs, Q u) : ∀ {l : List α} {xs : List Value}, rowOf S X w l xs → ∀ u ∈ xs, Q u
  | [], xs, h, u, hu => by rw [show xs = [] from h] at hu; cases hu
  | y :: r, xs, ⟨cs, xs', he, _, hr, h⟩, u, hu => by
    rw [he, List.mem_append] at hu
    rcases hu with hu | hu
    · exact hS y cs hr.self u hu
    · exact rowOf.all hS h u hu
end

end Go.Proofs.Ytijeieamodjgbab

/- Lanes: what a packet more and a packet less leave; walk of at, Take. -/
namespace Go.Proofs.Ytijeieamodjgbab
set_option maxRecDepth 100000
open Go.RowKit Go.Deep
set_option linter.unusedVariables false
set_option linter.unusedSimpArgs false
attribute [local go_sem] run_store_float

end Go.Proofs.Ytijeieamodjgbab

/- A struct of many cells, stored and loaded at once: run equations to lay ahead of a walk. No program in sight. -/
namespace Go.Proofs.Ytijeieamodjgbab
set_option maxRecDepth 100000
open Go.RowKit
set_option linter.unusedVariables false
set_option linter.unusedSimpArgs false

end Go.Proofs.Ytijeieamodjgbab

/- Lanes: walk of Take. (printed by mkLc.py) -/
namespace Go.Proofs.Ytijeieamodjgbab
set_option maxRecDepth 100000
open Go.RowKit Go.Deep
set_option linter.unusedVariables false
set_option linter.unusedSimpArgs false
attribute [local go_sem] run_store_float

theorem wpList_val {P : Program} {ops : Array Oper} {rest : List Oper} {o : Oper} {a : Act} {w w' : World} {Q : Exit → Act → World → Prop} {v : Value} (hg : o.guard = none) (hrun : (execOp a.eval o).run P w = .ok (.value v) w') (h : wpList P ops Q rest (a.put o.dst v) w') : wpList P ops Q (o :: rest) a w :=
  wpList_plain hg fun K hK => by unfold Oper.wp; rw [hrun]; exact hK _ _ h
end Go.Proofs.Ytijeieamodjgbab

/- Lanes: walk of Send. (printed by mkLe.py) -/
namespace Go.Proofs.Ytijeieamodjgbab
set_option maxRecDepth 100000
open Go.RowKit Go.Deep
set_option linter.unusedVariables false
set_option linter.unusedSimpArgs false
attribute [local go_sem] run_store_float

/-- A load of many cells at a step of a drawn region. -/
theorem news_load {P : Program} {ops : Array Oper} {Q : Exit → Act → World → Prop} {i : Nat} {o : Oper} {a : Act} {w : World} {v : Value} {K : Act → World → Prop} (ho : ops[i]? = some o) (hg : o.guard = none) (ty : TypeId) (x : Operand) (hop : o.op = .load ty x)
    (b off : Nat) (hx : a.eval x = .pointer (some ⟨b, off, none⟩)) (hld : (loadVar ty ⟨b, off, none⟩).run P w = .ok v w) (hk : K (a.put o.dst v) w) : wpOp P ops Q i K a w :=
  news_val ho hg (by unfold execOp; simp only [hop, hx, Instr.loadAt, Instr.sureAddr, Sem.run_bind, Sem.run_pure, Result.andThen_ok, hld]) hk
theorem keep_undrew13 {Y : Nat → Prop} {w w' : World} (h : Keep Y w.drew w') : Keep Y w w' := ⟨h.os, h.tape, h.output, h.size, h.block⟩
end Go.Proofs.Ytijeieamodjgbab
