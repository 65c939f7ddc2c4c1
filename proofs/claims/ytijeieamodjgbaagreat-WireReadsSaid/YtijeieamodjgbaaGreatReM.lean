
/- A configuration under way of being read: what lies where. No program in sight. -/
import Derived.Test.YtijeieamodjgbaaGreatReP
import Derived.Test.YtijeieamodjgbaaGreatOwn
import Derived.Test.YtijeieamodjgbaaGreatQuiet
import Derived.Deep.AppendLies

namespace Go.Proofs.YtijeieamodjgbaaGreat
set_option maxRecDepth 100000
open Go.RowKit
set_option linter.unusedVariables false

/-- The result's cells (block H, H the heap's size ahead), the reader (p), the configuration (q), its row of its own. -/
structure Box (T U : TypeId) (RD : World → R → Prop) (w0 : World) (p q : Nat) (e : Int) (wr : World) (s : R) (v : Value) (xs : List Int) : Prop where
  below : Below w0.heap.size w0 wr
  hp : w0.heap.size < p
  pq : p < q
  res : wr.heap[w0.heap.size]? = some (.cells #[.int .i64 0, .slice none 0 0] T (0, 0))
  rd : RD wr s
  box : wr.heap[q]? = some (.cells #[.int .i64 e, v] T (0, 0))
  own : wr.ownsRow (q + 1) U 1 v xs.length (intsV xs)

section
variable {T U : TypeId} {RD : World → R → Prop} {w0 wr w6 w8 : World} {p q : Nat} {e : Int} {s s' : R} {v v' : Value} {xs : List Int}
theorem Box.own6 (h : Box T U RD w0 p q e wr s v xs) (ho : Only p none wr.drew w6) : w6.ownsRow (q + 1) U 1 v xs.length (intsV xs) := by
  refine ⟨h.own.1, ?_⟩
  have hpq := h.pq
  rcases h.own.2 with hn | ⟨g, cap, cur, rfl, hb, hg, r⟩
  · exact .inl hn
  · refine .inr ⟨g, cap, cur, rfl, hb, ?_, r⟩
    rw [ho.block g (blk_lt hg) (by omega) (by simp)]
    exact hg
theorem Box.box6 (h : Box T U RD w0 p q e wr s v xs) (ho : Only p none wr.drew w6) : w6.heap[q]? = some (.cells #[.int .i64 e, v] T (0, 0)) := by
  have hpq := h.pq
  rw [ho.block q (blk_lt h.box) (by omega) (by simp)]; exact h.box
theorem Box.cell6 (h : Box T U RD w0 p q e wr s v xs) (ho : Only p none wr.drew w6) : w6.cell? ⟨q, 1, none⟩ = some v ∧ ∀ o, (w6.alloc o).cell? ⟨q, 1, none⟩ = some v := by
  have hb := h.box6 ho
  refine ⟨by rw [blk_cell hb]; rfl, fun o => ?_⟩
  rw [blk_cell (blk_below hb (below_alloc w6 o))]; rfl
theorem Box.box8 (h : Box T U RD w0 p q e wr s v xs) (ho : Only p none wr.drew w6) (o : Obj) (hg : (w6.alloc o).grownBy w8 v.ownBlock) : w8.heap[q]? = some (.cells #[.int .i64 e, v] T (0, 0)) := by
  have hb := blk_below (h.box6 ho) (below_alloc w6 o)
  rw [hg.block q (blk_lt hb) (fun hc => by have := (h.own.lt q hc.symm).1; omega)]; exact hb
theorem Box.cell8 (h : Box T U RD w0 p q e wr s v xs) (ho : Only p none wr.drew w6) (o : Obj) (hg : (w6.alloc o).grownBy w8 v.ownBlock) : w8.cell? ⟨q, 1, none⟩ = some v ∧ w8.frozen? ⟨q, 1, none⟩ = false := by
  have hb := h.box8 ho o hg
  exact ⟨by rw [blk_cell hb]; rfl, blk_frozen hb _⟩
theorem Box.step (h : Box T U RD w0 p q e wr s v xs) (hRD : ∀ w w' s, w'.heap[p]? = w.heap[p]? → RD w s → RD w' s) (ho : Only p none wr.drew w6) (hr : RD w6 s') (hp6 : p < w6.heap.size) (o : Obj) (x : Int)
    (hown : w8.ownsRow (q + 1) U 1 v' (xs.length + 1) (intsV xs ++ [.int .i64 x])) (hg : (w6.alloc o).grownBy w8 v.ownBlock) :
    Box T U RD w0 p q e (w8.setCell ⟨q, 1, none⟩ v') s' v' (xs ++ [x]) := by
  have hpq := h.pq
  have hp := h.hp
  have hq6 := blk_lt (h.box6 ho)
  have hlo : ∀ k, v.ownBlock = some k → q + 1 ≤ k := fun k hk => (h.own.lt k hk).1
  have hres6 : w6.heap[w0.heap.size]? = some (.cells #[.int .i64 0, .slice none 0 0] T (0, 0)) := by
    rw [ho.block _ (blk_lt h.res) (by omega) (by simp)]; exact h.res
  have hB6 : Below w0.heap.size w0 w6 := (Only.below (w := wr.drew) (below_drewN h.below 1) ho (by omega) (fun k hk => by cases hk))
  have hB8 : Below w0.heap.size w0 w8 := (balloc hB6 o).grown hg (by have := hB6.size; simp; omega) (fun k hk => by have := hlo k hk; omega)
  refine ⟨hB8.setCell (by show w0.heap.size ≤ q; omega) v', hp, hpq, ?_, ?_, ?_, ?_⟩
  · have h6 := blk_below hres6 (below_alloc w6 o)
    exact blk_set_other (by rw [hg.block _ (blk_lt h6) (fun hc => by have := hlo _ hc.symm; omega)]; exact h6) _ _ _ (by omega)
  · refine hRD w6 _ s' ?_ hr
    rw [Below.heap_setCell _ _ _ _ (by show p ≠ q; omega), hg.block p (by simp; omega) (fun hc => by have := hlo _ hc.symm; omega), Below.heap_alloc _ _ _ hp6]
  · rw [blk_set (h.box8 ho o hg)]; rfl
  · have h2 : w8.ownsRow (q + 1) U 1 v' (xs ++ [x]).length (intsV (xs ++ [x])) := by
      rw [List.length_append]; simpa [intsV] using hown
    refine ⟨h2.1, ?_⟩
    rcases h2.2 with hn | ⟨g, cap, cur, rfl, hb, hg', r⟩
    · exact .inl hn
    · exact .inr ⟨g, cap, cur, rfl, hb, blk_set_other hg' _ _ _ (by omega), r⟩
theorem Box.start {w3 w4 : World} (hB : Below w0.heap.size w0 w3) (res : w3.heap[w0.heap.size]? = some (.cells #[.int .i64 0, .slice none 0 0] T (0, 0))) (hp : w0.heap.size < p) (hp3 : p < w3.heap.size)
    (o4 : Only p none (w3.alloc (.cells #[.int .i64 e, .slice none 0 0] T (0, 0))) w4) (rd : RD w4 s) : Box T U RD w0 p w3.heap.size e w4 s (.slice none 0 0) [] := by
  refine ⟨Only.below (balloc hB _) o4 (by omega) (fun k hk => by cases hk), hp, hp3, ?_, rd, ?_, World.ownsRow_nil _ _ _ _⟩
  · have h6 := blk_below res (below_alloc w3 (.cells #[.int .i64 e, .slice none 0 0] T (0, 0)))
    rw [o4.block _ (blk_lt h6) (by omega) (by simp)]; exact h6
  · rw [o4.block _ (by simp) (by omega) (by simp)]; exact blk_alloc _ _
theorem Box.drewN (h : Box T U RD w0 p q e wr s v xs) (hRD : ∀ w w' s, w'.heap[p]? = w.heap[p]? → RD w s → RD w' s) (n : Nat) : Box T U RD w0 p q e (wr.drewN n) s v xs :=
  ⟨below_drewN h.below n, h.hp, h.pq, h.res, hRD wr _ s rfl h.rd, h.box, h.own⟩
theorem Box.cells (h : Box T U RD w0 p q e wr s v xs) : wr.cell? ⟨q, 0, none⟩ = some (.int .i64 e) ∧ wr.cell? ⟨q, 1, none⟩ = some v :=
  ⟨by rw [blk_cell h.box]; rfl, by rw [blk_cell h.box]; rfl⟩
end

theorem num_pos {t : List UInt8} (h : 0 < numN t) : (rd3 t).bad = false := by
  unfold numN at h
  unfold rd3
  by_cases hc : (rd2 t).bad = true ∨ (rd2 t).rest.length < 1
  · rw [rVal_bad hc] at h; omega
  · rw [rNext_ok hc]
theorem mem_step {t : List UInt8} {k : Nat} (hk : k < (rd3 t).rest.length) (hb : (rd3 t).bad = false) :
    rNext ⟨(rd3 t).rest.drop k, (rd3 t).bad⟩ 1 = ⟨(rd3 t).rest.drop (k + 1), (rd3 t).bad⟩ ∧ intL ((rd3 t).rest.take (k + 1)) = intL ((rd3 t).rest.take k) ++ [(rVal ⟨(rd3 t).rest.drop k, (rd3 t).bad⟩ 1 : Int)] := by
  rw [hb]
  have h1 := (rAfter_ok (rd3 t).rest k (by omega))
  have h2 := (rAfter_ok (rd3 t).rest (k + 1) (by omega))
  rw [rAfter, rVals, h1.1, h1.2] at h2
  exact ⟨h2.1, h2.2.symm⟩

theorem owns_ints_at {w : World} {B e n c : Nat} {a : Option Addr} {l : List Int} (h : w.ownsRow B e 1 (.slice a n c) l.length (intsV l)) (hf : ∀ x ∈ l, i64 x) (hl : l.length ≤ 9223372036854775807) : IntsAt w a l.length l := by
  obtain ⟨a', c', hv, hi⟩ := owns_ints h hf hl
  injection hv with h1 h2 h3
  subst h1; exact hi
theorem owns_set_low {w : World} {B e n : Nat} {v : Value} {xs : List Value} (h : w.ownsRow B e 1 v n xs) {g : Nat} (hg : g < B) (i : Nat) (u : Value) : (w.setCell ⟨g, i, none⟩ u).ownsRow B e 1 v n xs := by
  refine ⟨h.1, ?_⟩
  rcases h.2 with hn | ⟨k, cap, cur, rfl, hb, hk, r⟩
  · exact .inl hn
  · exact .inr ⟨k, cap, cur, rfl, hb, blk_set_other hk _ _ _ (by omega), r⟩

/-- As the walk compares two strings. -/
theorem str_ne {a b : ByteArray} (h : ¬ a = b) : (a.toList == b.toList) = false := by
  rw [ByteArray.toList_eq, ByteArray.toList_eq]
  cases hc : (a.data.toList == b.data.toList) with
  | false => rfl
  | true => exact absurd (ByteArray.ext (Array.toList_inj.1 (by simpa using hc))) h

theorem nil_ints (w : World) : IntsAt w none 0 [] := ⟨rfl, by omega, fun i hi => by omega, fun x hx => by cases hx⟩
end Go.Proofs.YtijeieamodjgbaaGreat
