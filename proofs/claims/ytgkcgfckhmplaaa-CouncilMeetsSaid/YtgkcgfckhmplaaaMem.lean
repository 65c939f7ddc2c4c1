/- What the walks are told of memory: a slice of ints that reads as a list; frames. No program in sight. -/
import Derived.WalkKit
import Derived.WalkSpells
import Derived.WalkLawsBesides
import Derived.Lib.Hide
namespace Go.Proofs.Ytgkcgfckhmplaaa
open Go.RowKit

def i64 (x : Int) : Prop := -9223372036854775808 ≤ x ∧ x ≤ 9223372036854775807

/-- A slice's parts that read as a list of ints. -/
structure IntsAt (w : World) (a : Option Addr) (n : Nat) (l : List Int) : Prop where
  len : l.length = n
  max : n ≤ 9223372036854775807
  cell : ∀ i, i < n → ∃ b o, a = some ⟨b, o, none⟩ ∧ w.cell? ⟨b, o + i, none⟩ = some (.int .i64 (l.getD i 0))
  fit : ∀ x ∈ l, i64 x

theorem World.block_lt {w : World} {b o : Nat} {v : Value} (h : w.cell? ⟨b, o, none⟩ = some v) : b < w.heap.size := World.block_lt_of_cell? w _ h

theorem IntsAt.below {w w' : World} {a : Option Addr} {n : Nat} {l : List Int} (h : IntsAt w a n l) (hb : Below w.heap.size w w') : IntsAt w' a n l :=
  ⟨h.len, h.max, fun i hi => by
    obtain ⟨b, o, ha, hc⟩ := h.cell i hi
    exact ⟨b, o, ha, by rw [hb.cell (World.block_lt hc)]; exact hc⟩, h.fit⟩

theorem IntsAt.alloc {w : World} {a : Option Addr} {n : Nat} {l : List Int} (h : IntsAt w a n l) (o : Obj) : IntsAt (w.alloc o) a n l :=
  h.below ((Below.refl _ _).alloc (Nat.le_refl _) o)

theorem IntsAt.getD_fit {w : World} {a : Option Addr} {n : Nat} {l : List Int} (h : IntsAt w a n l) (i : Nat) : -9223372036854775808 ≤ l.getD i 0 ∧ l.getD i 0 ≤ 9223372036854775807 := by
  by_cases hi : i < l.length
  · have := h.fit (l.getD i 0) (by simp [List.getD, hi])
    exact this
  · simp [List.getD, List.getElem?_eq_none (Nat.not_lt.1 hi)]

/-- One element: its number, its cell, its bounds, and how the list goes on. -/
theorem IntsAt.elem {w : World} {a : Option Addr} {n : Nat} {l : List Int} (h : IntsAt w a n l) (k : Nat) (hk : k < n) :
    ∃ b o x, a = some ⟨b, o, none⟩ ∧ w.cell? ⟨b, o + k, none⟩ = some (.int .i64 x) ∧ -9223372036854775808 ≤ x ∧ x ≤ 9223372036854775807 ∧ Hid (l.drop k = x :: l.drop (k + 1)) ∧ Hid (l[k]? = some x) := by
  obtain ⟨b, o, ha, hc⟩ := h.cell k hk
  have hl : k < l.length := by rw [h.len]; exact hk
  have := h.getD_fit k
  have hx : l.getD k 0 = l[k] := by simp [List.getD, hl]
  rw [hx] at hc this
  exact ⟨b, o, l[k], ha, hc, this.1, this.2, Lib.hid (by rw [List.drop_eq_getElem_cons hl]), Lib.hid (by simp [hl])⟩

theorem drop_cons (l : List Int) (k : Nat) (h : k < l.length) : l.drop k = l.getD k 0 :: l.drop (k + 1) := by
  rw [List.drop_eq_getElem_cons h]; simp [List.getD, h]

theorem ret_bool {a b : Bool} (h : a = b) : Ending.returned (.bool a) = .returned (.bool b) := by rw [h]
theorem ret_int {k : IntKind} {a b : Int} (h : a = b) : Ending.returned (.int k a) = .returned (.int k b) := by rw [h]

theorem IntsAt.made (w : World) (xs : List Int) (t : TypeId) (h : ∀ x ∈ xs, i64 x) (hl : xs.length ≤ 9223372036854775807) :
    IntsAt (w.alloc (.cells (xs.map (Value.int .i64)).toArray t)) (some ⟨w.heap.size, 0, none⟩) xs.length xs :=
  ⟨rfl, hl, fun i hi => ⟨w.heap.size, 0, rfl, by
    rw [World.cell?_alloc_at _ _ _ _ rfl]; simp [hi]⟩, h⟩

/-- Behind a call that left all old memory as it was: cells and marks of old blocks read as before. -/
theorem bcell {W w1 : World} (hb : Below W.heap.size W w1) : (∀ b o, b < W.heap.size → w1.cell? ⟨b, o, none⟩ = W.cell? ⟨b, o, none⟩) ∧ (∀ b o, b < W.heap.size → w1.frozen? ⟨b, o, none⟩ = W.frozen? ⟨b, o, none⟩) :=
  ⟨fun b o h => hb.cell (p := ⟨b, o, none⟩) h, fun b o h => hb.frozen (p := ⟨b, o, none⟩) h⟩
end Go.Proofs.Ytgkcgfckhmplaaa
