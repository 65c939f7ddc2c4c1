
/- Lanes: guarded operations in made regions, packets in slices, the place of a packet. -/
import Derived.Test.YtijeieamodjgbabLd
import Derived.Great.Walk
import Derived.Test.YtijeieamodjgbabNews3
import Derived.Test.YtijeieamodjgbabWw
import Derived.Test.YtijeieamodjgbabWt

namespace Go.Proofs.Ytijeieamodjgbab
set_option maxRecDepth 100000
open Go.RowKit Go.Deep
set_option linter.unusedVariables false
set_option linter.unusedSimpArgs false
attribute [local go_sem] run_store_float

/-- A guard that holds. -/
theorem wanted_of {ops : Array Oper} {o : Oper} {k : Nat} {b : Bool} {t : Tmp} {a : Act} (hg : o.guard = some (k, b)) (hd : dstAt ops k = some t) (hv : a.eval (.tmp t) = .bool b) : Region.wanted o (yielded ops a.tmps) = true := by
  have ht : a.tmps[t]? = some (.bool b) := by
    simp only [Act.eval, Array.getD_eq_getD_getElem?] at hv
    cases h : a.tmps[t]? with
    | none => rw [h] at hv; cases hv
    | some v => rw [h] at hv; simpa using hv
  unfold Region.wanted yielded
  rw [hg]
  unfold dstAt at hd
  simp only [hd, Option.bind_some, ht]
  simp
theorem news_gval {P : Program} {ops : Array Oper} {Q : Exit → Act → World → Prop} {i : Nat} {o : Oper} {a : Act} {w w' : World} {v : Value} {K : Act → World → Prop} (ho : ops[i]? = some o) (hw : Region.wanted o (yielded ops a.tmps) = true)
    (hrun : (execOp a.eval o).run P w = .ok (.value v) w') (hk : K (a.put o.dst v) w') : wpOp P ops Q i K a w := by
  refine wpOp_step ho fun K' hK' => ?_
  rw [if_pos hw]
  unfold Oper.wp
  rw [hrun]
  exact hK' _ _ hk
theorem news_gload {P : Program} {ops : Array Oper} {Q : Exit → Act → World → Prop} {i : Nat} {o : Oper} {a : Act} {w : World} {v : Value} {K : Act → World → Prop} (ho : ops[i]? = some o) (hw : Region.wanted o (yielded ops a.tmps) = true) (ty : TypeId) (x : Operand) (hop : o.op = .load ty x)
    (b off : Nat) (hx : a.eval x = .pointer (some ⟨b, off, none⟩)) (hld : (loadVar ty ⟨b, off, none⟩).run P w = .ok v w) (hk : K (a.put o.dst v) w) : wpOp P ops Q i K a w :=
  news_gval ho hw (by unfold execOp; simp only [hop, hx, Instr.loadAt, Instr.sureAddr, Sem.run_bind, Sem.run_pure, Result.andThen_ok, hld]) hk
theorem made_gcall {P : Program} {ops : Array Oper} {Q : Exit → Act → World → Prop} {i : Nat} {o : Oper} {a : Act} {w : World} {K : Act → World → Prop} {R : Ending → World → Prop} (ho : ops[i]? = some o) (hw : Region.wanted o (yielded ops a.tmps) = true)
    (f : FuncId) (args : Array Value) (hrun : (execOp a.eval o).run P w = .ok (.enter f args) w) (hc : Calls P f args w R) (hk : ∀ e w', R e w' → ∃ v, e = .returned v ∧ K (a.put o.dst v) w') : wpOp P ops Q i K a w :=
  wpOp_step ho fun K' hK' => step_calls_g hw f args hrun hc fun e w' he => by
    obtain ⟨v, rfl, hv⟩ := hk e w' he
    exact ⟨v, rfl, hK' _ _ hv⟩
theorem build_pk1 (ρ : Operand → Value) (o : Oper) (x : Operand) (ho : o.op = .buildSlice 65 1 #[(0, x)]) (cs : List Value) (hcl : cs.length = 19) (hx : ρ x = .agg cs.toArray) (w : World) :
    (execOp ρ o).run Try.prog w = .ok (.value (.slice (some ⟨w.heap.size, 0, none⟩) 1 1)) (w.alloc (.cells cs.toArray 134 (0, 0))) := by
  match cs, hcl with
  | [c0, c1, c2, c3, c4, c5, c6, c7, c8, c9, c10, c11, c12, c13, c14, c15, c16, c17, c18], _ =>
    simp only [execOp, ho]
    go_simp
/-- One of a slice. -/
theorem SlAt.at {α : Type} {S : Sh α} {w : World} {b o n c : Nat} {l : List α} (h : SlAt S w (some ⟨b, o, none⟩) n c l) {i : Nat} {y : α} (hy : l[i]? = some y) {c' : Nat} (hc : 1 ≤ c') (hc' : c' ≤ 9223372036854775807) : SlAt S w (some ⟨b, o + i * S.k, none⟩) 1 c' [y] :=
  ⟨rfl, hc, hc', by
    have h1 := h.bytes
    have h2 : 1 ≤ n := by have := (List.getElem?_eq_some_iff.1 hy).1; have := h.len; omega
    have := Nat.mul_le_mul_right S.bs h2
    omega, fun h => (by cases h), fun k z hz => by
    cases k with
    | zero =>
      cases hz
      obtain ⟨b', o', cs, ha, hE, hcc⟩ := h.cell i _ hy
      injection ha with ha
      injection ha with h1 h2 _
      subst h1 h2
      exact ⟨b, o + i * S.k, cs, rfl, hE, fun j v hv => by rw [Nat.zero_mul, Nat.add_zero]; exact hcc j v hv⟩
    | succ k => cases hz⟩
end Go.Proofs.Ytijeieamodjgbab
