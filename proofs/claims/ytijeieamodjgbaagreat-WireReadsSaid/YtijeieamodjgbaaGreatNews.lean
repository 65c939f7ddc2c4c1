
/- A segment of a region that draws its order: operations that yield fixed values and keep old memory (loads, calls), and operations that make a new block; behind it a tail in one order. No program in sight. -/
import Derived.Test.YtijeieamodjgbaaGreatQuiet
import Derived.StillTail

namespace Go.Proofs.YtijeieamodjgbaaGreat
set_option maxRecDepth 100000
open Go.RowKit

/-- What an operation of the segment yields: this value; or the address of a new block that holds this. -/
inductive Yld where
  | fix (v : Value)
  | new (o : Obj)
def Yld.at (w1 w : World) : Yld → Value → Prop
  | .fix u, v => v = u
  | .new o, v => ∃ p, v = .pointer (some ⟨p, 0, none⟩) ∧ w1.heap.size ≤ p ∧ w.heap[p]? = some o
section
variable {P : Program} {ops : Array Oper} {md : Region.Mode} {Q : Exit → Act → World → Prop}

def dstAt (ops : Array Oper) (i : Nat) : Option Tmp := (ops[i]?).bind (·.dst)
def updG (g : Nat → Option Value) (i : Nat) (v : Value) : Nat → Option Value := fun j => if j = i then some v else g j
theorem updG_same (g : Nat → Option Value) (i : Nat) (v : Value) : updG g i v i = some v := by simp [updG]
theorem updG_ne (g : Nat → Option Value) {i j : Nat} (v : Value) (h : j ≠ i) : updG g i v j = g j := by simp [updG, h]
/-- a holds what the operations of g yielded, and is a0 elsewhere. -/
structure HeldAct (ops : Array Oper) (a0 : Act) (b : Nat) (g : Nat → Option Value) (a : Act) : Prop where
  defers : a.defers = a0.defers
  size : a.tmps.size = a0.tmps.size
  own : ∀ i v t, i < b → g i = some v → dstAt ops i = some t → a.tmps[t]? = some v
  other : ∀ t, (∀ i v, i < b → g i = some v → dstAt ops i ≠ some t) → a.tmps[t]? = a0.tmps[t]?
def dstsB (ops : Array Oper) (b n : Nat) : Bool :=
  (List.range b).all fun i => (match dstAt ops i with | some t => decide (t < n) | none => true) &&
    ((List.range b).all fun j => decide (i = j) || (match dstAt ops i with | some t => decide (dstAt ops j ≠ some t) | none => true))
theorem dstsB_lt {b n i : Nat} {t : Tmp} (h : dstsB ops b n = true) (hi : i < b) (ht : dstAt ops i = some t) : t < n := by
  simp only [dstsB, List.all_eq_true, List.mem_range, Bool.and_eq_true] at h
  have := (h i hi).1
  rw [ht] at this
  simpa using this
theorem dstsB_ne {b n i j : Nat} {t : Tmp} (h : dstsB ops b n = true) (hi : i < b) (hj : j < b) (hne : i ≠ j) (ht : dstAt ops i = some t) : dstAt ops j ≠ some t := by
  simp only [dstsB, List.all_eq_true, List.mem_range, Bool.and_eq_true, Bool.or_eq_true, decide_eq_true_eq] at h
  have := (h i hi).2 j hj
  rw [ht] at this
  rcases this with h1 | h1
  · exact absurd h1 hne
  · exact of_decide_eq_true h1
theorem HeldAct.put {a0 a : Act} {b i : Nat} {g : Nat → Option Value} (h : HeldAct ops a0 b g a) (hB : dstsB ops b a0.tmps.size = true) (hi : i < b) (v : Value) : HeldAct ops a0 b (updG g i v) (a.put (dstAt ops i) v) := by
  cases hd : dstAt ops i with
  | none =>
    refine ⟨h.defers, h.size, fun j u t hj hg ht => ?_, fun t ht => ?_⟩
    · by_cases hji : j = i
      · subst hji; rw [hd] at ht; cases ht
      · rw [updG_ne g v hji] at hg; exact h.own j u t hj hg ht
    · refine h.other t fun j u hj hg => ?_
      by_cases hji : j = i
      · subst hji; rw [hd]; simp
      · exact ht j u hj (by rw [updG_ne g v hji]; exact hg)
  | some d =>
    have hlt : d < a.tmps.size := by rw [h.size]; exact dstsB_lt hB hi hd
    refine ⟨h.defers, by simp [Act.put, h.size], fun j u t hj hg ht => ?_, fun t ht => ?_⟩
    · by_cases hji : j = i
      · subst hji
        rw [updG_same] at hg
        injection hg with hg
        rw [hd] at ht
        injection ht with ht
        subst hg; subst ht
        simp [Act.put, hlt]
      · rw [updG_ne g v hji] at hg
        have hne : d ≠ t := fun e => dstsB_ne hB hi hj (Ne.symm hji) hd (by rw [ht, e])
        simp only [Act.put]
        rw [Array.getElem?_setIfInBounds_ne hne]
        exact h.own j u t hj hg ht
    · have hne : d ≠ t := fun e => ht i v hi (updG_same g i v) (by rw [hd, e])
      simp only [Act.put]
      rw [Array.getElem?_setIfInBounds_ne hne]
      refine h.other t fun j u hj hg => ?_
      by_cases hji : j = i
      · subst hji; rw [hd]; intro e; injection e with e; exact hne e
      · exact ht j u hj (by rw [updG_ne g v hji]; exact hg)
end

end Go.Proofs.YtijeieamodjgbaaGreat

/- A segment of a region that draws its order: operations of fixed values, of which one alone turns the world. No program in sight. -/
namespace Go.Proofs.YtijeieamodjgbaaGreat
set_option maxRecDepth 100000
open Go.RowKit
set_option linter.unusedVariables false

end Go.Proofs.YtijeieamodjgbaaGreat

/- A segment of a region that draws its order, whose operations yield what a relation says (fixed values, new blocks, rows that a call made) and keep old memory; behind it a tail in one order. No program in sight. -/
namespace Go.Proofs.YtijeieamodjgbaaGreat
set_option maxRecDepth 100000
open Go.RowKit
section
variable {P : Program} {ops : Array Oper} {md : Region.Mode} {Q : Exit → Act → World → Prop}

end

end Go.Proofs.YtijeieamodjgbaaGreat
