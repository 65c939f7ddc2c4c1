
/- A made region within a list of operations. -/
import Derived.Test.YtijeieamodjgbaaGreatNews3
import Derived.Test.YtijeieamodjgbaaGreatWe
namespace Go.Proofs.YtijeieamodjgbaaGreat
set_option maxRecDepth 100000
open Go.RowKit Go.Deep
set_option linter.unusedVariables false
set_option linter.unusedSimpArgs false
theorem ops_made {ops : Array Oper} {rest : List Oper} {o1 o2 : Oper} {a : Act} {w : World} {Q : Exit → Act → World → Prop} (T : TypeId) (zs : List Value) (hg1 : o1.guard = none) (hg2 : o2.guard = none) (x y : Operand) (hal : ∀ ρ w, (execOp ρ o1).run Tryz.prog w = .ok (.value (.pointer (some ⟨w.heap.size, 0, none⟩))) (w.alloc (.cells zs.toArray T (0, 0)))) (ho2 : o2.op = .store T x y)
    (cs : List Value) (hl : cs.length = zs.length) (hinfo : (Tryz.prog.info? T).map (·.size) = some zs.length) (h1 : cs.toArray.all (·.oneCell') = true)
    (hx : (a.put o1.dst (.pointer (some ⟨w.heap.size, 0, none⟩))).eval x = .pointer (some ⟨w.heap.size, 0, none⟩)) (hy : (a.put o1.dst (.pointer (some ⟨w.heap.size, 0, none⟩))).eval y = .agg cs.toArray)
    (h : ∀ w', Below w.heap.size w w' → w'.heap[w.heap.size]? = some (.cells cs.toArray T (0, 0)) → w'.heap.size = w.heap.size + 1 → wpList Tryz.prog ops Q rest ((a.put o1.dst (.pointer (some ⟨w.heap.size, 0, none⟩))).put o2.dst undef) w') :
    wpList Tryz.prog ops Q (o1 :: o2 :: rest) a w := by
  refine ops_val (w' := w.alloc (.cells zs.toArray T (0, 0))) (by simp [Region.wanted, hg1]) (hal a.eval w) ?_
  have b1 : Below w.heap.size w (w.alloc (.cells zs.toArray T (0, 0))) := below_alloc _ _
  have hz1 : (w.alloc (.cells zs.toArray T (0, 0))).heap.size = w.heap.size + 1 := by simp
  have k1 : (w.alloc (.cells zs.toArray T (0, 0))).heap[w.heap.size]? = some (.cells zs.toArray T (0, 0)) := blk_alloc _ _
  generalize w.alloc (.cells zs.toArray T (0, 0)) = w1 at b1 hz1 k1 ⊢
  refine wpList_store_mid hg2 T x y ho2 w.heap.size 0 cs.toArray hx hy (fun j hj => ⟨?_, ?_⟩) (by rw [List.size_toArray, hl]; exact hinfo) h1 ?_
  · have : j < zs.length := by simpa [hl] using hj
    rw [blk_cell k1, Option.isSome_iff_exists, Nat.zero_add]
    exact ⟨_, Array.getElem?_eq_getElem (by simpa using this)⟩
  · exact blk_frozen k1 _
  · exact h _ (sets_old (Nat.le_refl _) _ b1) (by have := sets_blk cs w1 [] zs k1 hl.symm; simpa using this) (by rw [sets_len, hz1])
end Go.Proofs.YtijeieamodjgbaaGreat
