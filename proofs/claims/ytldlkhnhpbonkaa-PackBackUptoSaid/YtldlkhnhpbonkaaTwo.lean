/- The program's writer and the reference's beside each other. -/
import Derived.Test.YtldlkhnhpbonkaaIw
namespace Go.Proofs.Ytldlkhnhpbonkaa
open Go.RowKit
set_option linter.unusedVariables false

structure Two (w : World) (pw pm : Nat) (wr : World) (obw obm : Option Nat) (sp sm : W) : Prop where
  below : Below w.heap.size w wr
  hw : w.heap.size ≤ pw
  hm : w.heap.size ≤ pm
  ne : pw ≠ pm
  d1 : obw ≠ some pm
  d2 : obm ≠ some pw
  d3 : ∀ k, obw = some k → obm ≠ some k
  b1 : ∀ k, obw = some k → w.heap.size ≤ k
  b2 : ∀ k, obm = some k → w.heap.size ≤ k
  pwr : PWr wr pw pw obw sp
  rwr : RWr wr pm pm obm sm
section
variable {w wr w6 : World} {pw pm : Nat} {obw obm ob' : Option Nat} {sp sm s' : W}
theorem Two.old (h : Two w pw pm wr obw obm sp sm) (hb : Below wr.heap.size wr w6) : Two w pw pm w6 obw obm sp sm :=
  ⟨bthen h.below hb, h.hw, h.hm, h.ne, h.d1, h.d2, h.d3, h.b1, h.b2, WAt.below h.pwr hb, WAt.below h.rwr hb⟩
theorem Two.pstep (h : Two w pw pm wr obw obm sp sm) (hob : ob' = obw ∨ ∃ k, ob' = some k ∧ wr.heap.size ≤ k) (ho : Only pw obw wr w6) (h1 : PWr w6 pw pw ob' s') : Two w pw pm w6 ob' obm s' sm := by
  have hl := WAt.lt h.rwr
  have hlo := WAt.ob_lt h.rwr
  have hb := h.below.size
  have hr : RWr w6 pm pm obm sm := WAt.kept h.rwr ho.size (ho.block pm hl (Ne.symm h.ne) h.d1) (fun k hk => ho.block k (hlo k hk).2 (fun e => h.d2 (by rw [hk, e])) (fun e => h.d3 k e hk))
  refine ⟨Only.below h.below ho h.hw h.b1, h.hw, h.hm, h.ne, ?_, h.d2, ?_, ?_, h.b2, h1, hr⟩
  · rcases hob with rfl | ⟨k, rfl, hk⟩
    · exact h.d1
    · intro e; injection e with e; omega
  · rcases hob with rfl | ⟨k, rfl, hk⟩
    · exact h.d3
    · intro k' e e2; injection e with e; subst e; have := (hlo _ e2).2; omega
  · rcases hob with rfl | ⟨k, rfl, hk⟩
    · exact h.b1
    · intro k' e; injection e with e; omega
theorem Two.rstep (h : Two w pw pm wr obw obm sp sm) (hob : ob' = obm ∨ ∃ k, ob' = some k ∧ wr.heap.size ≤ k) (ho : Only pm obm wr w6) (h1 : RWr w6 pm pm ob' s') : Two w pw pm w6 obw ob' sp s' := by
  have hl := WAt.lt h.pwr
  have hlo := WAt.ob_lt h.pwr
  have hb := h.below.size
  have hr : PWr w6 pw pw obw sp := WAt.kept h.pwr ho.size (ho.block pw hl h.ne h.d2) (fun k hk => ho.block k (hlo k hk).2 (fun e => h.d1 (by rw [hk, e])) (fun e => h.d3 k hk e))
  refine ⟨Only.below h.below ho h.hm h.b2, h.hw, h.hm, h.ne, h.d1, ?_, ?_, h.b1, ?_, hr, h1⟩
  · rcases hob with rfl | ⟨k, rfl, hk⟩
    · exact h.d2
    · intro e; injection e with e; omega
  · rcases hob with rfl | ⟨k, rfl, hk⟩
    · exact h.d3
    · intro k' e e2; injection e2 with e2; subst e2; have := (hlo _ e).2; omega
  · rcases hob with rfl | ⟨k, rfl, hk⟩
    · exact h.b2
    · intro k' e; injection e with e; omega
end

/-- How many bytes at most are written of items. -/
def cost (l : List It) : Nat := (l.map fun i => 8 + i.2.2.2.size).sum
theorem cost_le (l : List It) : cost l ≤ 2 * shIt.slice.sz l := by
  have h : ∀ l : List It, cost l ≤ 2 * (l.map shIt.sz).sum := by
    intro l
    induction l with
    | nil => exact Nat.le_refl _
    | cons i r ih =>
      obtain ⟨k, m, x, t⟩ := i
      have e1 : cost ((k, m, x, t) :: r) = (8 + t.size) + cost r := by simp [cost]
      have e2 : (((k, m, x, t) :: r : List It).map shIt.sz).sum = (1 + (1 + (1 + (t.size + 1)))) + (r.map shIt.sz).sum := by
        rw [List.map_cons, List.sum_cons]; rfl
      rw [e1, e2]; omega
  have := h l
  show cost l ≤ 2 * ((l.map shIt.sz).sum + 1)
  omega
theorem cost_take (l : List It) {j : Nat} {k m x : Int} {t : ByteArray} (h : l[j]? = some (k, m, x, t)) : cost (l.take (j + 1)) = cost (l.take j) + (8 + t.size) := by
  rw [List.take_add_one, h]
  simp [cost]
theorem cost_take_le (l : List It) (j : Nat) : cost (l.take j) ≤ cost l := by
  have : cost l = cost (l.take j) + cost (l.drop j) := by
    have e : cost (l.take j ++ l.drop j) = cost (l.take j) + cost (l.drop j) := by simp only [cost, List.map_append, List.sum_append]
    rw [List.take_append_drop] at e
    exact e
  omega
/-- A writer of room for M in all, behind items of such a cost. -/
structure Wi (M : Int) (c : Nat) (s : W) : Prop where
  room : 0 ≤ s.room
  sum : (s.out.length : Int) + s.room = M
  cost : s.out.length ≤ c
  errs : 0 ≤ s.err ∧ s.err ≤ 9
theorem Wi.put {M : Int} {c : Nat} {s : W} (h : Wi M c s) (ok : Bool) (bs : List UInt8) (d : Nat) (hd : bs.length ≤ d) : Wi M (c + d) (wPut s ok bs) := by
  have h2 := h.room; have h3 := h.sum; have h4 := h.cost
  have he := wPut_errs (ok := ok) (bs := bs) h.errs
  unfold wPut at he ⊢
  split
  · split
    · unfold wAdd
      split
      · exact ⟨h2, h3, by show s.out.length ≤ _; omega, by show (0 : Int) ≤ 3 ∧ (3 : Int) ≤ 9; omega⟩
      · refine ⟨by show 0 ≤ s.room - _; omega, ?_, ?_, h.errs⟩
        · show ((s.out ++ bs).length : Int) + (s.room - bs.length) = M
          rw [List.length_append]; omega
        · show (s.out ++ bs).length ≤ c + d
          rw [List.length_append]; omega
    · exact ⟨h2, h3, by show s.out.length ≤ _; omega, by show (0 : Int) ≤ 4 ∧ (4 : Int) ≤ 9; omega⟩
  · exact ⟨h2, h3, by omega, h.errs⟩
theorem Wi.ok {M : Int} {c : Nat} {s : W} (h : Wi M c s) (hM : M ≤ 9223372036854775807) : WOk s :=
  ⟨by have := h.room; have := h.sum; omega, by have := h.errs; omega⟩
theorem Wi.start (limit : Int) : Wi (max limit 0) 0 (wNew limit) :=
  ⟨by show 0 ≤ max limit 0; omega, by show ((0 : Nat) : Int) + max limit 0 = _; omega, Nat.le_refl _, by show (0 : Int) ≤ 0 ∧ (0 : Int) ≤ 9; omega⟩
end Go.Proofs.Ytldlkhnhpbonkaa
