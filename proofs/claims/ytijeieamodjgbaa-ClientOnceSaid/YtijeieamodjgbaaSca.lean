
/- Walk of Scan. -/
import Derived.Test.YtijeieamodjgbaaVal
import Derived.Test.YtijeieamodjgbaaQuiet
import Derived.Deep.AppendLies
import Derived.Deep.RegionLaw

namespace Go.Proofs.Ytijeieamodjgbaa
set_option maxRecDepth 100000
open Go.RowKit
set_option linter.unusedVariables false

def vsV (l : List V) : List Value := l.flatMap fun v => [.int .i64 v.n, .int .u64 v.b, .string ⟨v.t.toArray⟩]
/-- What lies where while values are read: the result's cell (h0), the error's (h0 + 1), the reader (p), the shape's bytes (q), the values' row. -/
structure SBox (shape text : ByteArray) (w0 : World) (p q : Nat) (wr : World) (s : R) (v : Value) (vs : List V) : Prop where
  below : Below w0.heap.size w0 wr
  hp : w0.heap.size + 1 < p
  pq : p < q
  lq : q < wr.heap.size
  out : wr.heap[w0.heap.size]? = some (.cells #[v] 216 (0, 0))
  err : wr.heap[w0.heap.size + 1]? = some (.cells #[.int .i64 0] 36 (0, 0))
  rd : PRd wr p text s
  bytes : ∀ j b, shape.data.toList[j]? = some b → wr.cell? ⟨q, j, none⟩ = some (.int .u8 (b.toNat : Int))
  own : wr.ownsRow (q + 1) 220 3 v vs.length (vsV vs)

section
variable {shape text : ByteArray} {w0 wr w6 w8 : World} {p q : Nat} {s s' : R} {v v' : Value} {vs : List V}
theorem SBox.out6 (h : SBox shape text w0 p q wr s v vs) (ho : Only p none wr.drew w6) : w6.heap[w0.heap.size]? = some (.cells #[v] 216 (0, 0)) := by
  have := h.hp; have := blk_lt h.out
  rw [ho.block _ (blk_lt h.out) (by omega) (by simp)]; exact h.out
theorem SBox.err6 (h : SBox shape text w0 p q wr s v vs) (ho : Only p none wr.drew w6) : w6.heap[w0.heap.size + 1]? = some (.cells #[.int .i64 0] 36 (0, 0)) := by
  have := h.hp; have := blk_lt h.err
  rw [ho.block _ (blk_lt h.err) (by omega) (by simp)]; exact h.err
theorem SBox.below6 (h : SBox shape text w0 p q wr s v vs) (ho : Only p none wr.drew w6) : Below w0.heap.size w0 w6 :=
  Only.below (w := wr.drew) (below_drewN h.below 1) ho (by have := h.hp; omega) (fun k hk => by cases hk)
theorem SBox.drewN (h : SBox shape text w0 p q wr s v vs) (n : Nat) : SBox shape text w0 p q (wr.drewN n) s v vs :=
  ⟨below_drewN h.below n, h.hp, h.pq, h.lq, h.out, h.err, by obtain ⟨at0, h1, h2, hk, hrest⟩ := h.rd; exact ⟨at0, h1, h2, hk, hrest⟩, h.bytes, h.own⟩
theorem SBox.step (h : SBox shape text w0 p q wr s v vs) (ho : Only p none wr.drew w6) (hr : PRd w6 p text s') (o : Obj) (x : V)
    (hown : w8.ownsRow (q + 1) 220 3 v' (vs.length + 1) (vsV vs ++ vsV [x])) (hg : (w6.alloc o).grownBy w8 v.ownBlock) :
    SBox shape text w0 p q (w8.setCell ⟨w0.heap.size, 0, none⟩ v') s' v' (vs ++ [x]) := by
  have hpq := h.pq
  have hp := h.hp
  have hp6 := prd_lt hr
  have hlo : ∀ k, v.ownBlock = some k → q + 1 ≤ k := fun k hk => (h.own.lt k hk).1
  have hB6 := h.below6 ho
  have hB8 : Below w0.heap.size w0 w8 := (balloc hB6 o).grown hg (by have := hB6.size; simp; omega) (fun k hk => by have := hlo k hk; omega)
  have ho8 : w8.heap[w0.heap.size]? = some (.cells #[v] 216 (0, 0)) := by
    have hb := blk_below (h.out6 ho) (below_alloc w6 o)
    rw [hg.block _ (blk_lt hb) (fun hc => by have := hlo _ hc.symm; omega)]; exact hb
  have he8 : w8.heap[w0.heap.size + 1]? = some (.cells #[.int .i64 0] 36 (0, 0)) := by
    have hb := blk_below (h.err6 ho) (below_alloc w6 o)
    rw [hg.block _ (blk_lt hb) (fun hc => by have := hlo _ hc.symm; omega)]; exact hb
  have hlq := h.lq
  refine ⟨hB8.setCell (Nat.le_refl _) v', hp, hpq, ?_, ?_, ?_, ?_, fun j b hj => ?_, ?_⟩
  · have h1 := ho.size
    have h2 := hg.size
    simp at h1 h2
    show q < (w8.setCell _ _).heap.size
    simp [World.setCell]
    omega
  · rw [blk_set ho8]; rfl
  · exact blk_set_other he8 _ _ _ (by omega)
  · obtain ⟨at0, h1, h2, hk, hrest⟩ := hr
    refine ⟨at0, h1, h2, ?_, hrest⟩
    rw [Below.heap_setCell _ _ _ _ (by show p ≠ w0.heap.size; omega), hg.block p (by simp; omega) (fun hc => by have := hlo _ hc.symm; omega), Below.heap_alloc _ _ _ hp6]
    exact hk
  · have hc := h.bytes j b hj
    have hq := World.block_lt hc
    have hq6 : w6.heap[q]? = wr.heap[q]? := ho.block q hq (by omega) (by simp)
    have hql : q < w6.heap.size := Nat.lt_of_lt_of_le hq ho.size
    have hq8 : w8.heap[q]? = w6.heap[q]? := by
      rw [hg.block q (by simp; omega) (fun hc => by have := hlo _ hc.symm; omega), Below.heap_alloc _ _ _ hql]
    refine cell_set_other ?_ _ _ _ (by omega)
    rw [World.cell?_of_block (w := wr) (a := ⟨q, j, none⟩) (by rw [hq8, hq6])]; exact hc
  · have h2 : w8.ownsRow (q + 1) 220 3 v' (vs ++ [x]).length (vsV (vs ++ [x])) := by
      rw [List.length_append, vsV, List.flatMap_append]; exact hown
    refine ⟨h2.1, ?_⟩
    rcases h2.2 with hn | ⟨g, cap, cur, rfl, hb, hg', r⟩
    · exact .inl hn
    · exact .inr ⟨g, cap, cur, rfl, hb, blk_set_other hg' _ _ _ (by omega), r⟩
end

end Go.Proofs.Ytijeieamodjgbaa

/- lives of witanlaw01. -/
namespace Go.Proofs.Ytijeieamodjgbaa
set_option maxRecDepth 100000
open Go.RowKit
set_option linter.unusedVariables false

end Go.Proofs.Ytijeieamodjgbaa
