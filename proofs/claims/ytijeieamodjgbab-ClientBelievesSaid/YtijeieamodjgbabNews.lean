
/- A segment of a region that draws its order: operations that yield fixed values and keep old memory (loads, calls), and operations that make a new block; behind it a tail in one order. No program in sight. -/
import Derived.Test.YtijeieamodjgbabQuiet
import Derived.StillTail

namespace Go.Proofs.Ytijeieamodjgbab
set_option maxRecDepth 100000
open Go.RowKit

/-- What an operation of the segment yields: this value; or the address of a new block that holds this. -/
inductive Yld where
  | fix (v : Value)
  | new (o : Obj)
def Yld.at (w1 w : World) : Yld → Value → Prop
  | .fix u, v => v = u
  | .new o, v => ∃ p, v = .pointer (some ⟨p, 0, none⟩) ∧ w1.heap.size ≤ p ∧ w.heap[p]? = some o
section
variable {P : Program} {ops : Array Oper} {md : Region.Mode} {Q : Exit → Act → World → Prop}

def dstAt (ops : Array Oper) (i : Nat) : Option Tmp := (ops[i]?).bind (·.dst)
def updG (g : Nat → Option Value) (i : Nat) (v : Value) : Nat → Option Value := fun j => if j = i then some v else g j
theorem updG_same (g : Nat → Option Value) (i : Nat) (v : Value) : updG g i v i = some v := by simp [updG]
theorem updG_ne (g : Nat → Option Value) {i j : Nat} (v : Value) (h : j ≠ i) : updG g i v j = g j := by simp [updG, h]
def listedOf (ops : Array Oper) (g : Nat → Option Value) : Array Bool := ((List.range ops.size).map fun i => (g i).isSome).toArray
theorem listedOf_get (g : Nat → Option Value) (x : Nat) (d : Bool) (h : x < ops.size) : (listedOf ops g).getD x d = (g x).isSome := by simp [listedOf, h]
theorem listedOf_set (g : Nat → Option Value) (i : Nat) (v : Value) : (listedOf ops g).setIfInBounds i true = listedOf ops (updG g i v) := by
  apply Array.ext
  · simp [listedOf]
  · intro x h1 h2
    simp only [listedOf, List.setIfInBounds_toArray, List.getElem_toArray, List.getElem_set, List.getElem_map, List.getElem_range]
    by_cases h : i = x
    · subst h; simp [updG]
    · rw [if_neg h, updG_ne g v (Ne.symm h)]

/-- How many of the first b have not come. -/
def lack (g : Nat → Option Value) : Nat → Nat
  | 0 => 0
  | b + 1 => lack g b + if (g b).isNone then 1 else 0
theorem lack_upd_ge (g : Nat → Option Value) (i : Nat) (v : Value) : ∀ b, b ≤ i → lack (updG g i v) b = lack g b
  | 0, _ => rfl
  | b + 1, h => by
    rw [lack, lack, lack_upd_ge g i v b (by omega), updG_ne g v (by omega)]
theorem lack_upd (g : Nat → Option Value) (i : Nat) (v : Value) (hg : g i = none) : ∀ b, i < b → lack (updG g i v) b + 1 = lack g b
  | 0, h => by omega
  | b + 1, h => by
    rw [lack, lack]
    by_cases hb : i = b
    · subst hb
      rw [lack_upd_ge g i v i (Nat.le_refl _), updG_same, hg]
      simp
    · have := lack_upd g i v hg b (by omega)
      rw [updG_ne g v (by omega)]
      omega
theorem lack_zero {g : Nat → Option Value} : ∀ {b}, lack g b = 0 → ∀ i, i < b → (g i).isSome = true
  | 0, _, i, hi => by omega
  | b + 1, h, i, hi => by
    rw [lack] at h
    by_cases hb : i = b
    · subst hb
      cases hg : g i with
      | some v => rfl
      | none => rw [hg] at h; simp at h
    · exact lack_zero (b := b) (by omega) i (by omega)
theorem lack_pos {g : Nat → Option Value} : ∀ {b}, 0 < lack g b → ∃ i, i < b ∧ g i = none ∧ ∀ j, j < i → (g j).isSome = true
  | 0, h => by simp [lack] at h
  | b + 1, h => by
    by_cases h0 : 0 < lack g b
    · obtain ⟨i, hi, h1, h2⟩ := lack_pos h0
      exact ⟨i, by omega, h1, h2⟩
    · have hz : lack g b = 0 := by omega
      rw [lack, hz] at h
      cases hg : g b with
      | none => exact ⟨b, by omega, hg, lack_zero hz⟩
      | some v => rw [hg] at h; simp at h
theorem lack_none : ∀ b, lack (fun _ => none) b = b
  | 0 => rfl
  | b + 1 => by rw [lack, lack_none b]; simp

/-- a holds what the operations of g yielded, and is a0 elsewhere. -/
structure HeldAct (ops : Array Oper) (a0 : Act) (b : Nat) (g : Nat → Option Value) (a : Act) : Prop where
  defers : a.defers = a0.defers
  size : a.tmps.size = a0.tmps.size
  own : ∀ i v t, i < b → g i = some v → dstAt ops i = some t → a.tmps[t]? = some v
  other : ∀ t, (∀ i v, i < b → g i = some v → dstAt ops i ≠ some t) → a.tmps[t]? = a0.tmps[t]?
def dstsB (ops : Array Oper) (b n : Nat) : Bool :=
  (List.range b).all fun i => (match dstAt ops i with | some t => decide (t < n) | none => true) &&
    ((List.range b).all fun j => decide (i = j) || (match dstAt ops i with | some t => decide (dstAt ops j ≠ some t) | none => true))
theorem dstsB_lt {b n i : Nat} {t : Tmp} (h : dstsB ops b n = true) (hi : i < b) (ht : dstAt ops i = some t) : t < n := by
  simp only [dstsB, List.all_eq_true, List.mem_range, Bool.and_eq_true] at h
  have := (h i hi).1
  rw [ht] at this
  simpa using this
theorem dstsB_ne {b n i j : Nat} {t : Tmp} (h : dstsB ops b n = true) (hi : i < b) (hj : j < b) (hne : i ≠ j) (ht : dstAt ops i = some t) : dstAt ops j ≠ some t := by
  simp only [dstsB, List.all_eq_true, List.mem_range, Bool.and_eq_true, Bool.or_eq_true, decide_eq_true_eq] at h
  have := (h i hi).2 j hj
  rw [ht] at this
  rcases this with h1 | h1
  · exact absurd h1 hne
  · exact of_decide_eq_true h1
theorem HeldAct.put {a0 a : Act} {b i : Nat} {g : Nat → Option Value} (h : HeldAct ops a0 b g a) (hB : dstsB ops b a0.tmps.size = true) (hi : i < b) (v : Value) : HeldAct ops a0 b (updG g i v) (a.put (dstAt ops i) v) := by
  cases hd : dstAt ops i with
  | none =>
    refine ⟨h.defers, h.size, fun j u t hj hg ht => ?_, fun t ht => ?_⟩
    · by_cases hji : j = i
      · subst hji; rw [hd] at ht; cases ht
      · rw [updG_ne g v hji] at hg; exact h.own j u t hj hg ht
    · refine h.other t fun j u hj hg => ?_
      by_cases hji : j = i
      · subst hji; rw [hd]; simp
      · exact ht j u hj (by rw [updG_ne g v hji]; exact hg)
  | some d =>
    have hlt : d < a.tmps.size := by rw [h.size]; exact dstsB_lt hB hi hd
    refine ⟨h.defers, by simp [Act.put, h.size], fun j u t hj hg ht => ?_, fun t ht => ?_⟩
    · by_cases hji : j = i
      · subst hji
        rw [updG_same] at hg
        injection hg with hg
        rw [hd] at ht
        injection ht with ht
        subst hg; subst ht
        simp [Act.put, hlt]
      · rw [updG_ne g v hji] at hg
        have hne : d ≠ t := fun e => dstsB_ne hB hi hj (Ne.symm hji) hd (by rw [ht, e])
        simp only [Act.put]
        rw [Array.getElem?_setIfInBounds_ne hne]
        exact h.own j u t hj hg ht
    · have hne : d ≠ t := fun e => ht i v hi (updG_same g i v) (by rw [hd, e])
      simp only [Act.put]
      rw [Array.getElem?_setIfInBounds_ne hne]
      refine h.other t fun j u hj hg => ?_
      by_cases hji : j = i
      · subst hji; rw [hd]; intro e; injection e with e; exact hne e
      · exact ht j u hj (by rw [updG_ne g v hji]; exact hg)
theorem HeldAct.unique {a0 a a' : Act} {b : Nat} {g : Nat → Option Value} (h : HeldAct ops a0 b g a) (h' : HeldAct ops a0 b g a') : a = a' := by
  have hd : a.defers = a'.defers := by rw [h.defers, h'.defers]
  have ht : a.tmps = a'.tmps := by
    apply Array.ext_getElem?
    intro t
    by_cases hx : ∃ i v, i < b ∧ g i = some v ∧ dstAt ops i = some t
    · obtain ⟨i, v, h1, h2, h3⟩ := hx
      rw [h.own i v t h1 h2 h3, h'.own i v t h1 h2 h3]
    · have hn : ∀ i v, i < b → g i = some v → dstAt ops i ≠ some t := fun i v h1 h2 h3 => hx ⟨i, v, h1, h2, h3⟩
      rw [h.other t hn, h'.other t hn]
  obtain ⟨t1, d1⟩ := a
  obtain ⟨t2, d2⟩ := a'
  simp only at hd ht
  subst hd; subst ht; rfl
def putAll (ops : Array Oper) (a0 : Act) (vs : Nat → Value) (k : Nat) : Act := (List.range k).foldl (fun a i => a.put (dstAt ops i) (vs i)) a0
theorem putAll_held {a0 : Act} {b : Nat} (hB : dstsB ops b a0.tmps.size = true) (vs : Nat → Value) : ∀ k, k ≤ b → HeldAct ops a0 b (fun i => if i < k then some (vs i) else none) (putAll ops a0 vs k)
  | 0, _ => ⟨rfl, rfl, fun i v t _ h => by simp at h, fun t _ => rfl⟩
  | k + 1, hk => by
    have h := (putAll_held hB vs k (by omega)).put hB (show k < b by omega) (vs k)
    have he : updG (fun i => if i < k then some (vs i) else none) k (vs k) = fun i => if i < k + 1 then some (vs i) else none := by
      funext j
      by_cases hj : j = k
      · subst hj; rw [updG_same, if_pos (by omega)]
      · rw [updG_ne _ _ hj]
        by_cases h2 : j < k
        · rw [if_pos h2, if_pos (by omega)]
        · rw [if_neg h2, if_neg (by omega)]
    rw [he] at h
    simpa [putAll, List.range_succ, List.foldl_append] using h

/-- j waits for i, by a row of edges. -/
def reachB (md : Region.Mode) (ops : Array Oper) : Nat → Nat → Nat → Bool
  | 0, _, _ => false
  | f + 1, j, i => match ops[j]? with
    | some o => o.after.any fun e => Region.binds md e && (decide (e.on = i) || reachB md ops f e.on i)
    | none => false
theorem reachB_spec {listed : Array Bool} (hdc : Dc md ops listed) : ∀ (f j i : Nat) (o : Oper), ops[j]? = some o → (∀ e ∈ o.after, Region.binds md e = true → listed.getD e.on false = true) → reachB md ops f j i = true → listed.getD i false = true
  | 0, _, _, _, _, _, h => by simp [reachB] at h
  | f + 1, j, i, o, ho, hall, h => by
    simp only [reachB, ho, Array.any_eq_true', Bool.and_eq_true, Bool.or_eq_true, decide_eq_true_eq] at h
    obtain ⟨e, he, hb, h1⟩ := h
    have hl := hall e he hb
    rcases h1 with h1 | h1
    · rw [← h1]; exact hl
    · cases f with
      | zero => simp [reachB] at h1
      | succ f' =>
        have h2 := h1
        simp only [reachB] at h2
        cases hoe : ops[e.on]? with
        | none => rw [hoe] at h2; simp at h2
        | some oe => exact reachB_spec hdc (f' + 1) e.on i oe hoe (fun e' he' hb' => hdc e.on oe e' hoe hl he' hb') h1
/-- The segment's operations wait only for earlier ones; what stands behind waits for each of them. -/
def waitB (md : Region.Mode) (ops : Array Oper) (b : Nat) : Bool :=
  decide (b ≤ ops.size) && (List.range ops.size).all fun j => match ops[j]? with
    | some o => if j < b then o.after.all (fun e => decide (e.on < j)) else (List.range b).all fun i => reachB md ops ops.size j i
    | none => true
theorem waitB_lt {b j : Nat} {o : Oper} {e : Edge} (h : waitB md ops b = true) (hj : j < b) (ho : ops[j]? = some o) (he : e ∈ o.after) : e.on < j := by
  simp only [waitB, Bool.and_eq_true, List.all_eq_true, List.mem_range] at h
  have := h.2 j (Array.getElem?_eq_some_iff.1 ho).1
  rw [ho] at this
  simp only [hj, if_true, Array.all_eq_true_iff_forall_mem, decide_eq_true_eq] at this
  exact this e he
theorem waitB_bar {b j i : Nat} {o : Oper} (h : waitB md ops b = true) (hj : ¬ j < b) (ho : ops[j]? = some o) (hi : i < b) : reachB md ops ops.size j i = true := by
  simp only [waitB, Bool.and_eq_true, List.all_eq_true, List.mem_range] at h
  have := h.2 j (Array.getElem?_eq_some_iff.1 ho).1
  rw [ho] at this
  simp only [hj, if_false, List.all_eq_true, List.mem_range] at this
  exact this i hi

end

/-- An operation that runs to its value. -/
theorem news_val {P : Program} {ops : Array Oper} {Q : Exit → Act → World → Prop} {i : Nat} {o : Oper} {a : Act} {w w' : World} {v : Value} {K : Act → World → Prop} (ho : ops[i]? = some o) (hg : o.guard = none)
    (hrun : (execOp a.eval o).run P w = .ok (.value v) w') (hk : K (a.put o.dst v) w') : wpOp P ops Q i K a w := by
  refine wpOp_step ho fun K' hK' => ?_
  have hw : Region.wanted o (yielded ops a.tmps) = true := by simp [Region.wanted, hg]
  rw [if_pos hw]
  unfold Oper.wp
  rw [hrun]
  exact hK' _ _ hk
theorem below_undrew {w w' : World} (h : Below w.drew.heap.size w.drew w') : Below w.heap.size w w' := ⟨h.os, h.tape, h.output, h.size, h.block⟩
end Go.Proofs.Ytijeieamodjgbab

/- A segment of a region that draws its order: operations of fixed values, of which one alone turns the world. No program in sight. -/
namespace Go.Proofs.Ytijeieamodjgbab
set_option maxRecDepth 100000
open Go.RowKit
set_option linter.unusedVariables false

end Go.Proofs.Ytijeieamodjgbab

/- A segment of a region that draws its order, whose operations yield what a relation says (fixed values, new blocks, rows that a call made) and keep old memory; behind it a tail in one order. No program in sight. -/
namespace Go.Proofs.Ytijeieamodjgbab
set_option maxRecDepth 100000
open Go.RowKit
section
variable {P : Program} {ops : Array Oper} {md : Region.Mode} {Q : Exit → Act → World → Prop}

structure MadeAt (R : Nat → World → Value → Prop) (bl : Nat → Value → Option Nat) (w1 : World) (b : Nat) (g : Nat → Option Value) (w : World) : Prop where
  bw : Below w1.heap.size w1 w
  has : ∀ i v, g i = some v → R i w v
  ne : ∀ i j v u k, i ≠ j → g i = some v → g j = some u → bl i v = some k → bl j u ≠ some k
  dom : ∀ i, b ≤ i → g i = none

/-- What the walk of an operation of the segment has to show. -/
def MadeStep (P : Program) (md : Region.Mode) (ops : Array Oper) (Q : Exit → Act → World → Prop) (R : Nat → World → Value → Prop) (bl : Nat → Value → Option Nat) (a0 : Act) (w1 : World) (b i : Nat) (o : Oper) : Prop :=
  ∀ (a : Act) (w : World), Below w1.heap.size w1 w →
    (∀ t, (∀ j, j < b → dstAt ops j ≠ some t) → a.eval (.tmp t) = a0.eval (.tmp t)) →
    (∀ e ∈ o.after, Region.binds md e = true → ∀ t, dstAt ops e.on = some t → R e.on w (a.eval (.tmp t))) →
    ∀ K : Act → World → Prop, (∀ w' v, Below w.heap.size w w' → R i w' v → (∀ k, bl i v = some k → w.heap.size ≤ k) → K (a.put o.dst v) w') → wpOp P ops Q i K a w

theorem wpAny_made {R : Nat → World → Value → Prop} {bl : Nat → Value → Option Nat} {a0 : Act} {w1 : World} {b m : Nat} (hD : dstsB ops b a0.tmps.size = true) (hW : waitB md ops b = true)
    (hstab : ∀ i w w' v, R i w v → Below w.heap.size w w' → R i w' v) (hblt : ∀ i w v k, R i w v → bl i v = some k → k < w.heap.size)
    (hstep : ∀ i o, i < b → ops[i]? = some o → MadeStep P md ops Q R bl a0 w1 b i o)
    (hend : ∀ (vs : Nat → Value) (w : World), Below w1.heap.size w1 w → (∀ i, i < b → R i w (vs i)) → (∀ i j k, i < b → j < b → i ≠ j → bl i (vs i) = some k → bl j (vs j) ≠ some k) →
      wpAny P md ops Q m (firstK ops b) (putAll ops a0 vs b) w) :
    ∀ (fuel : Nat) (g : Nat → Option Value) (a : Act) (w : World), HeldAct ops a0 b g a → MadeAt R bl w1 b g w → Dc md ops (listedOf ops g) → lack g b = fuel → wpAny P md ops Q (fuel + m) (listedOf ops g) a w := by
  have hbn : b ≤ ops.size := by simp only [waitB, Bool.and_eq_true, decide_eq_true_eq] at hW; exact hW.1
  intro fuel
  induction fuel with
  | zero =>
    intro g a w hh hj hdc hl
    have hs := lack_zero hl
    have he : g = fun i => if i < b then some ((g i).getD undef) else none := by
      funext i
      by_cases hi : i < b
      · rw [if_pos hi]
        have := hs i hi
        cases hg : g i with
        | none => rw [hg] at this; cases this
        | some v => rfl
      · rw [if_neg hi, hj.dom i (by omega)]
    have ha : a = putAll ops a0 (fun i => (g i).getD undef) b := by
      refine hh.unique (b := b) ?_
      have := putAll_held hD (fun i => (g i).getD undef) b (Nat.le_refl _)
      rw [← he] at this
      exact this
    have hli : listedOf ops g = firstK ops b := by
      apply Array.ext
      · simp [listedOf, firstK]
      · intro x h1 h2
        simp only [listedOf, firstK, List.getElem_toArray, List.getElem_map, List.getElem_range]
        by_cases hx : x < b
        · rw [hs x hx]; simp [hx]
        · rw [hj.dom x (by omega)]; simp [hx]
    have hget : ∀ i, i < b → g i = some ((g i).getD undef) := fun i hi => by
      have := hs i hi
      cases hg : g i with
      | none => rw [hg] at this; cases this
      | some v => rfl
    rw [ha, hli, Nat.zero_add]
    exact hend _ w hj.bw (fun i hi => hj.has i _ (hget i hi)) (fun i j k hi hj' hne h1 => hj.ne i j _ _ k hne (hget i hi) (hget j hj') h1)
  | succ fuel ih =>
    intro g a w hh hj hdc hl
    rw [Nat.add_right_comm]
    have hlisted : ∀ e : Nat, e < b → (g e).isSome = true → (listedOf ops g).getD e false = true := fun e he h => by rw [listedOf_get g e false (by omega)]; exact h
    refine ⟨fun h0 => ?_, fun i hi => ?_⟩
    · exfalso
      obtain ⟨i, hi, h1, h2⟩ := lack_pos (g := g) (b := b) (by omega)
      have ho : ops[i]? = some ops[i] := Array.getElem?_eq_getElem (by omega)
      have : i ∈ Region.ready md ops (listedOf ops g) := by
        rw [mem_ready]
        refine ⟨by rw [listedOf_get g i true (by omega), h1]; rfl, _, ho, fun e he _ => ?_⟩
        have := waitB_lt hW hi ho he
        exact hlisted e.on (by omega) (h2 e.on this)
      rw [h0] at this
      cases this
    · obtain ⟨h0, o, ho, hall⟩ := mem_ready.1 hi
      have hio := (Array.getElem?_eq_some_iff.1 ho).1
      rw [listedOf_get g i true hio] at h0
      have hg0 : g i = none := by
        cases hg : g i with
        | none => rfl
        | some v => rw [hg] at h0; cases h0
      have hib : i < b := by
        rcases Nat.lt_or_ge i b with h | h
        · exact h
        · exfalso
          obtain ⟨k, hk, h1, _⟩ := lack_pos (g := g) (b := b) (by omega)
          have := reachB_spec hdc _ i k o ho hall (waitB_bar hW (by omega) ho hk)
          rw [listedOf_get g k false (by omega), h1] at this
          cases this
      have hdst : dstAt ops i = o.dst := by simp [dstAt, ho]
      refine hstep i o hib ho a w hj.bw (fun t ht => ?_) (fun e he hbi t ht => ?_) _ ?_
      · have := hh.other t (fun j v hjb _ => ht j hjb)
        simp only [Act.eval, Array.getD_eq_getD_getElem?, this]
      · have hlt := waitB_lt hW hib ho he
        have hs := hall e he hbi
        rw [listedOf_get g e.on false (by omega)] at hs
        cases hg : g e.on with
        | none => rw [hg] at hs; cases hs
        | some v =>
          have h1 := hj.has e.on v hg
          have h2 := hh.own e.on v t (by omega) hg ht
          simp only [Act.eval, Array.getD_eq_getD_getElem?, h2]
          exact h1
      · intro w' u hb hR hnew
        rw [listedOf_set g i u, ← hdst]
        refine ih (updG g i u) _ w' (hh.put hD hib u) ⟨hj.bw.trans (hb.mono hj.bw.size), fun j v hg => ?_, fun j k v x y hne hg1 hg2 h1 => ?_, fun j hjb => by rw [updG_ne g u (by omega)]; exact hj.dom j hjb⟩ (by rw [← listedOf_set]; exact hdc.set hi) (by have := lack_upd g i u hg0 b hib; omega)
        · by_cases hji : j = i
          · subst hji; rw [updG_same] at hg; injection hg with hg; subst hg; exact hR
          · rw [updG_ne g u hji] at hg; exact hstab _ _ _ _ (hj.has j v hg) hb
        · by_cases hji : j = i
          · subst hji
            rw [updG_same] at hg1
            injection hg1 with hg1
            subst hg1
            rw [updG_ne g _ (Ne.symm hne)] at hg2
            intro h2
            have := hnew y h1
            have := hblt k w x y (hj.has k x hg2) h2
            omega
          · rw [updG_ne g _ hji] at hg1
            by_cases hki : k = i
            · subst hki
              rw [updG_same] at hg2
              injection hg2 with hg2
              subst hg2
              intro h2
              have := hnew y h2
              have := hblt j w v y (hj.has j v hg1) h1
              omega
            · rw [updG_ne g _ hki] at hg2
              exact hj.ne j k v x y hne hg1 hg2 h1
end

/-- The region: a segment of such operations, then a tail in one order. -/
theorem wp_region_made {P : Program} {id : Nat} {Q : Exit → Act → World → Prop} {a0 : Act} {w : World} {l : List Oper} (b : Nat) (R : Nat → World → Value → Prop) (bl : Nat → Value → Option Nat) (hm : P.follows .mixedOrders = true)
    (hD : dstsB l.toArray b a0.tmps.size = true) (hW : (waitB .any l.toArray b && Region.seqB .any l.toArray (l.drop b).length b (firstK l.toArray b)) = true)
    (hstab : ∀ i w w' v, R i w v → Below w.heap.size w w' → R i w' v) (hblt : ∀ i w v k, R i w v → bl i v = some k → k < w.heap.size)
    (hstep : ∀ i o, i < b → l.toArray[i]? = some o → MadeStep P .any l.toArray Q R bl a0 w.drew b i o)
    (hend : ∀ (vs : Nat → Value) (w' : World), Below w.heap.size w w' → (∀ i, i < b → R i w' (vs i)) → (∀ i j k, i < b → j < b → i ≠ j → bl i (vs i) = some k → bl j (vs j) ≠ some k) →
      wpList P l.toArray Q (l.drop b) (putAll l.toArray a0 vs b) w') : (Code.region id l.toArray true).wp P Q a0 w := by
  simp only [Bool.and_eq_true] at hW
  have hbn : b ≤ l.toArray.size := by have := hW.1; simp only [waitB, Bool.and_eq_true, decide_eq_true_eq] at this; exact this.1
  have hbl : b ≤ l.length := by simpa using hbn
  refine wp_region_any hm ?_
  have h := wpAny_made (P := P) (md := .any) (ops := l.toArray) (Q := Q) (R := R) (bl := bl) (a0 := a0) (w1 := w.drew) (b := b) (m := (l.drop b).length) hD hW.1 hstab hblt hstep (fun vs w' hb hs hne => by
    refine wpAny_of_seq (l.drop b) b _ _ _ (fun j => by simp [List.getElem?_drop]) hW.2 ?_
    exact hend vs w' ⟨hb.os, hb.tape, hb.output, hb.size, hb.block⟩ hs hne) b (fun _ => none) a0 w.drew
    ⟨rfl, rfl, fun i v t _ h => by simp at h, fun t _ => rfl⟩ ⟨⟨rfl, rfl, rfl, Nat.le_refl _, fun _ _ => rfl⟩, fun i v h => by simp at h, fun i j v u k _ h => by simp at h, fun _ _ => rfl⟩ (fun x o e ho hl => by rw [listedOf_get _ x false (Array.getElem?_eq_some_iff.1 ho).1] at hl; cases hl) (lack_none b)
  have he : b + (l.drop b).length = l.toArray.size := by simp; omega
  rw [he] at h
  have hl : listedOf l.toArray (fun _ => none) = Array.replicate l.toArray.size false := by
    apply Array.ext
    · simp [listedOf]
    · intro i h1 h2; simp [listedOf]
  rw [hl] at h
  exact h
/-- A call met by its contract. -/
theorem made_call {P : Program} {ops : Array Oper} {Q : Exit → Act → World → Prop} {i : Nat} {o : Oper} {a : Act} {w : World} {K : Act → World → Prop} {R : Ending → World → Prop} (ho : ops[i]? = some o) (hg : o.guard = none)
    (f : FuncId) (args : Array Value) (hrun : (execOp a.eval o).run P w = .ok (.enter f args) w) (hc : Calls P f args w R) (hk : ∀ e w', R e w' → ∃ v, e = .returned v ∧ K (a.put o.dst v) w') : wpOp P ops Q i K a w := by
  refine wpOp_step ho fun K' hK' => step_calls hg f args hrun hc ?_
  intro e w' he
  obtain ⟨v, rfl, hv⟩ := hk e w' he
  exact ⟨v, rfl, hK' _ _ hv⟩
end Go.Proofs.Ytijeieamodjgbab
