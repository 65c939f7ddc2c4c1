
/- Lanes: guarded operations in made regions, packets in slices, the place of a packet. -/
import Derived.Test.YtijeieamodjgbabLn

namespace Go.Proofs.Ytijeieamodjgbab
set_option maxRecDepth 100000
open Go.RowKit Go.Deep
set_option linter.unusedVariables false
set_option linter.unusedSimpArgs false
attribute [local go_sem] run_store_float

theorem build_pk1 (ρ : Operand → Value) (o : Oper) (x : Operand) (ho : o.op = .buildSlice 65 1 #[(0, x)]) (cs : List Value) (hcl : cs.length = 19) (hx : ρ x = .agg cs.toArray) (w : World) :
    (execOp ρ o).run Try.prog w = .ok (.value (.slice (some ⟨w.heap.size, 0, none⟩) 1 1)) (w.alloc (.cells cs.toArray 134 (0, 0))) := by
  match cs, hcl with
  | [c0, c1, c2, c3, c4, c5, c6, c7, c8, c9, c10, c11, c12, c13, c14, c15, c16, c17, c18], _ =>
    simp only [execOp, ho]
    go_simp
/-- One of a slice. -/
theorem SlAt.at {α : Type} {S : Sh α} {w : World} {b o n c : Nat} {l : List α} (h : SlAt S w (some ⟨b, o, none⟩) n c l) {i : Nat} {y : α} (hy : l[i]? = some y) {c' : Nat} (hc : 1 ≤ c') (hc' : c' ≤ 9223372036854775807) : SlAt S w (some ⟨b, o + i * S.k, none⟩) 1 c' [y] :=
  ⟨rfl, hc, hc', by
    have h1 := h.bytes
    have h2 : 1 ≤ n := by have := (List.getElem?_eq_some_iff.1 hy).1; have := h.len; omega
    have := Nat.mul_le_mul_right S.bs h2
    omega, fun h => (by cases h), fun k z hz => by
    cases k with
    | zero =>
      cases hz
      obtain ⟨b', o', cs, ha, hE, hcc⟩ := h.cell i _ hy
      injection ha with ha
      injection ha with h1 h2 _
      subst h1 h2
      exact ⟨b, o + i * S.k, cs, rfl, hE, fun j v hv => by rw [Nat.zero_mul, Nat.add_zero]; exact hcc j v hv⟩
    | succ k => cases hz⟩
end Go.Proofs.Ytijeieamodjgbab
