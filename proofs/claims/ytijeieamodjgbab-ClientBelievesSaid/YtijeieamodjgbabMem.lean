
/- What the walks are told of memory: a slice of ints that reads as a list; frames. No program in sight. -/
import Derived.WalkKit
import Derived.WalkSpells
import Derived.WalkLawsBesides
import Derived.Lib.Hide

namespace Go.Proofs.Ytijeieamodjgbab
set_option maxRecDepth 100000
open Go.RowKit

def i64 (x : Int) : Prop := -9223372036854775808 ≤ x ∧ x ≤ 9223372036854775807

/-- A slice's parts that read as a list of ints. -/
structure IntsAt (w : World) (a : Option Addr) (n : Nat) (l : List Int) : Prop where
  len : l.length = n
  max : n ≤ 9223372036854775807
  cell : ∀ i, i < n → ∃ b o, a = some ⟨b, o, none⟩ ∧ w.cell? ⟨b, o + i, none⟩ = some (.int .i64 (l.getD i 0))
  fit : ∀ x ∈ l, i64 x

theorem World.block_lt {w : World} {b o : Nat} {v : Value} (h : w.cell? ⟨b, o, none⟩ = some v) : b < w.heap.size := World.block_lt_of_cell? w _ h

theorem IntsAt.below {w w' : World} {a : Option Addr} {n : Nat} {l : List Int} (h : IntsAt w a n l) (hb : Below w.heap.size w w') : IntsAt w' a n l :=
  ⟨h.len, h.max, fun i hi => by
    obtain ⟨b, o, ha, hc⟩ := h.cell i hi
    exact ⟨b, o, ha, by rw [hb.cell (World.block_lt hc)]; exact hc⟩, h.fit⟩

theorem IntsAt.alloc {w : World} {a : Option Addr} {n : Nat} {l : List Int} (h : IntsAt w a n l) (o : Obj) : IntsAt (w.alloc o) a n l :=
  h.below ((Below.refl _ _).alloc (Nat.le_refl _) o)

theorem IntsAt.getD_fit {w : World} {a : Option Addr} {n : Nat} {l : List Int} (h : IntsAt w a n l) (i : Nat) : -9223372036854775808 ≤ l.getD i 0 ∧ l.getD i 0 ≤ 9223372036854775807 := by
  by_cases hi : i < l.length
  · have := h.fit (l.getD i 0) (by simp [List.getD, hi])
    exact this
  · simp [List.getD, List.getElem?_eq_none (Nat.not_lt.1 hi)]

/-- One element: its number, its cell, its bounds, and how the list goes on. -/
theorem IntsAt.elem {w : World} {a : Option Addr} {n : Nat} {l : List Int} (h : IntsAt w a n l) (k : Nat) (hk : k < n) :
    ∃ b o x, a = some ⟨b, o, none⟩ ∧ w.cell? ⟨b, o + k, none⟩ = some (.int .i64 x) ∧ -9223372036854775808 ≤ x ∧ x ≤ 9223372036854775807 ∧ Hid (l.drop k = x :: l.drop (k + 1)) ∧ Hid (l[k]? = some x) := by
  obtain ⟨b, o, ha, hc⟩ := h.cell k hk
  have hl : k < l.length := by rw [h.len]; exact hk
  have := h.getD_fit k
  have hx : l.getD k 0 = l[k] := by simp [List.getD, hl]
  rw [hx] at hc this
  exact ⟨b, o, l[k], ha, hc, this.1, this.2, Lib.hid (by rw [List.drop_eq_getElem_cons hl]), Lib.hid (by simp [hl])⟩

theorem IntsAt.made (w : World) (xs : List Int) (t : TypeId) (h : ∀ x ∈ xs, i64 x) (hl : xs.length ≤ 9223372036854775807) :
    IntsAt (w.alloc (.cells (xs.map (Value.int .i64)).toArray t)) (some ⟨w.heap.size, 0, none⟩) xs.length xs :=
  ⟨rfl, hl, fun i hi => ⟨w.heap.size, 0, rfl, by
    rw [World.cell?_alloc_at _ _ _ _ rfl]; simp [hi]⟩, h⟩

theorem bthen {w w1 w2 : World} (h : Below w.heap.size w w1) (h2 : Below w1.heap.size w1 w2) : Below w.heap.size w w2 := h.trans (h2.mono h.size)
theorem balloc {w w1 : World} (h : Below w.heap.size w w1) (o : Obj) : Below w.heap.size w (w1.alloc o) := h.alloc h.size o
theorem below_alloc (w : World) (o : Obj) : Below w.heap.size w (w.alloc o) := (Below.refl _ _).alloc (Nat.le_refl _) o

/-- A block of cells that is known whole. -/
theorem blk_cell {w : World} {b : Nat} {c : Array Value} {t : TypeId} {fr : Nat × Nat} (h : w.heap[b]? = some (.cells c t fr)) (o : Nat) : w.cell? ⟨b, o, none⟩ = c[o]? := by
  simp [World.cell?, h]
theorem blk_frozen {w : World} {b : Nat} {c : Array Value} {t : TypeId} (h : w.heap[b]? = some (.cells c t (0, 0))) (o : Nat) : w.frozen? ⟨b, o, none⟩ = false := by
  simp [World.frozen?, h]
theorem blk_lt {w : World} {b : Nat} {c : Obj} (h : w.heap[b]? = some c) : b < w.heap.size := (Array.getElem?_eq_some_iff.1 h).1
theorem blk_alloc (w : World) (c : Obj) : (w.alloc c).heap[w.heap.size]? = some c := heap_alloc_new w c
theorem blk_below {w w' : World} {b : Nat} {c : Obj} (h : w.heap[b]? = some c) (hb : Below w.heap.size w w') : w'.heap[b]? = some c := by
  rw [hb.block b (blk_lt h)]; exact h
theorem blk_set {w : World} {b : Nat} {c : Array Value} {t : TypeId} {fr : Nat × Nat} (h : w.heap[b]? = some (.cells c t fr)) (o : Nat) (v : Value) :
    (w.setCell ⟨b, o, none⟩ v).heap[b]? = some (.cells (c.setIfInBounds o v) t fr) := by
  simp [World.setCell, Array.getElem?_modify, h]
theorem blk_set_other {w : World} {b : Nat} {c : Obj} (h : w.heap[b]? = some c) (b' o : Nat) (v : Value) (hne : b ≠ b') : (w.setCell ⟨b', o, none⟩ v).heap[b]? = some c := by
  rw [Below.heap_setCell _ _ _ _ hne]; exact h
theorem IntsAt.kept {w w' : World} {a : Option Addr} {n : Nat} {l : List Int} (h : IntsAt w a n l) (hb : ∀ b o u, a = some ⟨b, o, none⟩ → ∀ i, w.cell? ⟨b, o + i, none⟩ = some u → w'.cell? ⟨b, o + i, none⟩ = some u) : IntsAt w' a n l :=
  ⟨h.len, h.max, fun i hi => by
    obtain ⟨b, o, ha, hc⟩ := h.cell i hi
    exact ⟨b, o, ha, hb b o _ ha i hc⟩, h.fit⟩
/-- A slice of ints in old memory stays while newer blocks are written. -/
theorem IntsAt.old {w0 w : World} {a : Option Addr} {n : Nat} {l : List Int} (h : IntsAt w0 a n l) (hb : Below w0.heap.size w0 w) : IntsAt w a n l := h.below hb

/-- Behind a call that left all old memory as it was: cells and marks of old blocks read as before. -/
theorem bcell {W w1 : World} (hb : Below W.heap.size W w1) : (∀ b o, b < W.heap.size → w1.cell? ⟨b, o, none⟩ = W.cell? ⟨b, o, none⟩) ∧ (∀ b o, b < W.heap.size → w1.frozen? ⟨b, o, none⟩ = W.frozen? ⟨b, o, none⟩) :=
  ⟨fun b o h => hb.cell (p := ⟨b, o, none⟩) h, fun b o h => hb.frozen (p := ⟨b, o, none⟩) h⟩
end Go.Proofs.Ytijeieamodjgbab
