
/- Wire: walk of the reference's zero. -/
import Derived.Test.YtijeieamodjgbaaGreatOm
import Derived.Test.YtijeieamodjgbaaGreatWta
import Derived.Test.YtijeieamodjgbaaGreatWe
import Derived.Test.YtijeieamodjgbaaGreatDr2
namespace Go.Proofs.YtijeieamodjgbaaGreat
set_option maxRecDepth 100000
open Go.RowKit Go.Deep
set_option linter.unusedVariables false
set_option linter.unusedSimpArgs false
attribute [local go_sem] run_store_float
def letB (t : List UInt8) (j : Nat) : Bool := t.any fun b => b.toNat == j
def zeroArr : List Value := List.replicate 128 (.bool false)
def Tab (w : World) (b : Nat) (t : List UInt8) : Prop := ∃ cur : Array Value, w.heap[b]? = some (.cells cur 187 (0, 0)) ∧ cur.size = 128 ∧ ∀ j, j < 128 → cur[j]? = some (.bool (letB t j))
theorem alloc_arr (ρ : Operand → Value) (o : Oper) (ho : o.op = .alloc 187) (w : World) : (execOp ρ o).run Tryz.prog w = .ok (.value (.pointer (some ⟨w.heap.size, 0, none⟩))) (w.alloc (.cells zeroArr.toArray 187 (0, 0))) := by
  simp only [execOp, ho]
  kernel_rfl
theorem build_arr (ρ : Operand → Value) (o : Oper) (ho : o.op = .build 187 #[]) (w : World) : (execOp ρ o).run Tryz.prog w = .ok (.value (.agg zeroArr.toArray)) w := by
  have hbd : (Instr.build 187 #[]).run Tryz.prog w = Result.ok (.agg zeroArr.toArray) w := by kernel_rfl
  unfold execOp
  simp [ho, hbd]
theorem letB_snoc (t : List UInt8) (k : Nat) (b : UInt8) (h : t[k]? = some b) (j : Nat) : letB (t.take (k + 1)) j = (letB (t.take k) j || (b.toNat == j)) := by
  unfold letB
  rw [List.take_add_one, h, List.any_append]
  simp
theorem tab_new {w : World} {b : Nat} (t : ByteArray) (k2 : w.heap[b]? = some (.cells zeroArr.toArray 187 (0, 0))) : Tab w b (t.data.toList.take 0) :=
  ⟨_, k2, by decide, fun j hj => by
    rw [List.take_zero]
    show (List.replicate 128 (Value.bool false)).toArray[j]? = _
    rw [List.getElem?_toArray, List.getElem?_replicate, if_pos hj]
    rfl⟩
theorem get_at (t : ByteArray) (k : Nat) (hlt : k < t.size) : t.data.toList[k]? = some (t[k]'hlt) := by
  rw [List.getElem?_eq_getElem (by simpa using hlt)]
  simp [ByteArray.getElem_eq_getElem_data]
theorem Tab.step {w : World} {b : Nat} {t : List UInt8} {k : Nat} {x : UInt8} (h : Tab w b (t.take k)) (hx : t[k]? = some x) (hb : x.toNat < 128) : Tab (w.setCell ⟨b, x.toNat, none⟩ (.bool true)) b (t.take (k + 1)) := by
  obtain ⟨cur, hc, hcz, hcj⟩ := h
  refine ⟨_, blk_set hc _ _, by simpa using hcz, fun j hj => ?_⟩
  rw [letB_snoc _ _ _ hx, Array.getElem?_setIfInBounds]
  split
  · rename_i h
    subst h; rw [if_pos (by omega)]
    simp
  · rename_i h
    rw [hcj j hj, beq_eq_false_iff_ne.2 h, Bool.or_false]
theorem Tab.old {w w' : World} {b : Nat} {t : List UInt8} (h : Tab w b t) (hb : Below w.heap.size w w') : Tab w' b t := by
  obtain ⟨cur, hc, hcz, hcj⟩ := h
  exact ⟨cur, blk_below hc hb, hcz, hcj⟩
theorem tab_all {w : World} {b : Nat} {t : ByteArray} (h : Tab w b (t.data.toList.take t.size)) : Tab w b t.data.toList := by
  rw [List.take_of_length_le (by simp)] at h
  exact h
theorem tab_cell {w : World} {b : Nat} {t : List UInt8} (h : Tab w b t) {j : Nat} (hj : j < 128) : w.cell? ⟨b, j, none⟩ = some (.bool (letB t j)) := by
  obtain ⟨cur, hc, hcz, hcj⟩ := h; rw [blk_cell hc]
  exact hcj j hj
theorem sameRes0 (c : Int) (b : Nat) : sameResB c b 0 0 = (decide (c = 0) && decide (canonB b = 0)) := by
  have h : canonB 0 = 0 := by decide
  unfold sameResB
  rw [h]
end Go.Proofs.YtijeieamodjgbaaGreat
/- A cut inside a region that runs in one order. -/
namespace Go.Proofs.YtijeieamodjgbaaGreat
set_option maxRecDepth 100000
open Go.RowKit Go.Deep
set_option linter.unusedVariables false
set_option linter.unusedSimpArgs false
theorem wpList_cut {P : Program} {ops : Array Oper} {Q : Exit → Act → World → Prop} {l : List Oper} {a : Act} {w : World} (n : Nat) (Inv : Act → World → Prop)
    (h1 : ∀ L, (∀ a' w', Inv a' w' → wpList P ops Q L a' w') → wpList P ops Q (l.take n ++ L) a w)
    (h2 : ∀ a' w', Inv a' w' → wpList P ops Q (l.drop n) a' w') : wpList P ops Q l a w := by
  have h := h1 _ h2
  rwa [List.take_append_drop] at h
end Go.Proofs.YtijeieamodjgbaaGreat
