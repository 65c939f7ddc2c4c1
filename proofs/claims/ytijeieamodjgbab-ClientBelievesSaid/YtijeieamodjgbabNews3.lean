
/- As XNews2, where operation number s may change blocks of a set Y (an append in place). No program in sight. -/
import Derived.Test.YtijeieamodjgbabNews
import Derived.Test.YtijeieamodjgbabKp

namespace Go.Proofs.Ytijeieamodjgbab
set_option maxRecDepth 100000
open Go.RowKit
section
variable {P : Program} {ops : Array Oper} {md : Region.Mode} {Q : Exit → Act → World → Prop}

structure KeptAt (Y : Nat → Prop) (s : Nat) (R : Nat → World → Value → Prop) (bl : Nat → Value → Option Nat) (w1 : World) (b : Nat) (g : Nat → Option Value) (w : World) : Prop where
  bw : Keep Y w1 w
  bb : g s = none → Below w1.heap.size w1 w
  has : ∀ i v, g i = some v → R i w v
  ne : ∀ i j v u k, i ≠ j → g i = some v → g j = some u → bl i v = some k → bl j u ≠ some k
  dom : ∀ i, b ≤ i → g i = none

end

end Go.Proofs.Ytijeieamodjgbab

/- A region that draws its order: a segment whose operations bring a state of their own along (which of them have come up decides what the world is), each yielding what a relation says; behind it whatever stands. No program in sight. -/
namespace Go.Proofs.Ytijeieamodjgbab
set_option maxRecDepth 100000
open Go.RowKit
set_option linter.unusedSimpArgs false
section
variable {P : Program} {ops : Array Oper} {md : Region.Mode} {Q : Exit → Act → World → Prop}

end

end Go.Proofs.Ytijeieamodjgbab

/- As News3's region, where what operation number s waits for is known to come ahead of it. No program in sight. -/
namespace Go.Proofs.Ytijeieamodjgbab
set_option maxRecDepth 100000
open Go.RowKit
section
variable {P : Program} {ops : Array Oper} {md : Region.Mode} {Q : Exit → Act → World → Prop}

/-- What the walk of an operation of the segment has to show. -/
def KeptStep2 (Y : Nat → Prop) (s : Nat) (P : Program) (md : Region.Mode) (ops : Array Oper) (Q : Exit → Act → World → Prop) (R : Nat → World → Value → Prop) (bl : Nat → Value → Option Nat) (a0 : Act) (w1 : World) (b i : Nat) (o : Oper) : Prop :=
  ∀ (a : Act) (w : World), Keep Y w1 w → ((i = s ∨ reachB md ops ops.size s i = true) → Below w1.heap.size w1 w) →
    (∀ t, (∀ j, j < b → dstAt ops j ≠ some t) → a.eval (.tmp t) = a0.eval (.tmp t)) →
    (∀ e ∈ o.after, Region.binds md e = true → ∀ t, dstAt ops e.on = some t → R e.on w (a.eval (.tmp t))) →
    ∀ K : Act → World → Prop, (∀ w' v, (i ≠ s → Below w.heap.size w w') → Keep Y w w' → R i w' v → (∀ k, bl i v = some k → w.heap.size ≤ k) → K (a.put o.dst v) w') → wpOp P ops Q i K a w

theorem wpAny_kept2 {Y : Nat → Prop} {s : Nat} {R : Nat → World → Value → Prop} {bl : Nat → Value → Option Nat} {a0 : Act} {w1 : World} {b m : Nat} (hD : dstsB ops b a0.tmps.size = true) (hW : waitB md ops b = true)
    (hstab : ∀ i w w' v, R i w v → (i = s → Below w.heap.size w w') → Keep Y w w' → R i w' v) (hblt : ∀ i w v k, R i w v → bl i v = some k → k < w.heap.size)
    (hstep : ∀ i o, i < b → ops[i]? = some o → KeptStep2 Y s P md ops Q R bl a0 w1 b i o)
    (hend : ∀ (vs : Nat → Value) (w : World), Keep Y w1 w → (∀ i, i < b → R i w (vs i)) → (∀ i j k, i < b → j < b → i ≠ j → bl i (vs i) = some k → bl j (vs j) ≠ some k) →
      wpAny P md ops Q m (firstK ops b) (putAll ops a0 vs b) w) :
    ∀ (fuel : Nat) (g : Nat → Option Value) (a : Act) (w : World), HeldAct ops a0 b g a → KeptAt Y s R bl w1 b g w → Dc md ops (listedOf ops g) → lack g b = fuel → wpAny P md ops Q (fuel + m) (listedOf ops g) a w := by
  have hbn : b ≤ ops.size := by simp only [waitB, Bool.and_eq_true, decide_eq_true_eq] at hW; exact hW.1
  intro fuel
  induction fuel with
  | zero =>
    intro g a w hh hj hdc hl
    have hs := lack_zero hl
    have he : g = fun i => if i < b then some ((g i).getD undef) else none := by
      funext i
      by_cases hi : i < b
      · rw [if_pos hi]
        have := hs i hi
        cases hg : g i with
        | none => rw [hg] at this; cases this
        | some v => rfl
      · rw [if_neg hi, hj.dom i (by omega)]
    have ha : a = putAll ops a0 (fun i => (g i).getD undef) b := by
      refine hh.unique (b := b) ?_
      have := putAll_held hD (fun i => (g i).getD undef) b (Nat.le_refl _)
      rw [← he] at this
      exact this
    have hli : listedOf ops g = firstK ops b := by
      apply Array.ext
      · simp [listedOf, firstK]
      · intro x h1 h2
        simp only [listedOf, firstK, List.getElem_toArray, List.getElem_map, List.getElem_range]
        by_cases hx : x < b
        · rw [hs x hx]; simp [hx]
        · rw [hj.dom x (by omega)]; simp [hx]
    have hget : ∀ i, i < b → g i = some ((g i).getD undef) := fun i hi => by
      have := hs i hi
      cases hg : g i with
      | none => rw [hg] at this; cases this
      | some v => rfl
    rw [ha, hli, Nat.zero_add]
    exact hend _ w hj.bw (fun i hi => hj.has i _ (hget i hi)) (fun i j k hi hj' hne h1 => hj.ne i j _ _ k hne (hget i hi) (hget j hj') h1)
  | succ fuel ih =>
    intro g a w hh hj hdc hl
    rw [Nat.add_right_comm]
    have hlisted : ∀ e : Nat, e < b → (g e).isSome = true → (listedOf ops g).getD e false = true := fun e he h => by rw [listedOf_get g e false (by omega)]; exact h
    refine ⟨fun h0 => ?_, fun i hi => ?_⟩
    · exfalso
      obtain ⟨i, hi, h1, h2⟩ := lack_pos (g := g) (b := b) (by omega)
      have ho : ops[i]? = some ops[i] := Array.getElem?_eq_getElem (by omega)
      have : i ∈ Region.ready md ops (listedOf ops g) := by
        rw [mem_ready]
        refine ⟨by rw [listedOf_get g i true (by omega), h1]; rfl, _, ho, fun e he _ => ?_⟩
        have := waitB_lt hW hi ho he
        exact hlisted e.on (by omega) (h2 e.on this)
      rw [h0] at this
      cases this
    · obtain ⟨h0, o, ho, hall⟩ := mem_ready.1 hi
      have hio := (Array.getElem?_eq_some_iff.1 ho).1
      rw [listedOf_get g i true hio] at h0
      have hg0 : g i = none := by
        cases hg : g i with
        | none => rfl
        | some v => rw [hg] at h0; cases h0
      have hib : i < b := by
        rcases Nat.lt_or_ge i b with h | h
        · exact h
        · exfalso
          obtain ⟨k, hk, h1, _⟩ := lack_pos (g := g) (b := b) (by omega)
          have := reachB_spec hdc _ i k o ho hall (waitB_bar hW (by omega) ho hk)
          rw [listedOf_get g k false (by omega), h1] at this
          cases this
      have hdst : dstAt ops i = o.dst := by simp [dstAt, ho]
      refine hstep i o hib ho a w hj.bw (fun h => hj.bb (by
        rcases h with h | h
        · rw [← h]; exact hg0
        · cases hgs : g s with
          | none => rfl
          | some v =>
            exfalso
            have hsb : s < b := by
              rcases Nat.lt_or_ge s b with h | h
              · exact h
              · have := hj.dom s h; rw [hgs] at this; cases this
            have hos : ops[s]? = some ops[s] := Array.getElem?_eq_getElem (by omega)
            have hls : (listedOf ops g).getD s false = true := hlisted s hsb (by rw [hgs]; rfl)
            have := reachB_spec hdc _ s i _ hos (fun e he hb => hdc s _ e hos hls he hb) h
            rw [listedOf_get g i false hio, hg0] at this
            cases this)) (fun t ht => ?_) (fun e he hbi t ht => ?_) _ ?_
      · have := hh.other t (fun j v hjb _ => ht j hjb)
        simp only [Act.eval, Array.getD_eq_getD_getElem?, this]
      · have hlt := waitB_lt hW hib ho he
        have hs := hall e he hbi
        rw [listedOf_get g e.on false (by omega)] at hs
        cases hg : g e.on with
        | none => rw [hg] at hs; cases hs
        | some v =>
          have h1 := hj.has e.on v hg
          have h2 := hh.own e.on v t (by omega) hg ht
          simp only [Act.eval, Array.getD_eq_getD_getElem?, h2]
          exact h1
      · intro w' u hbb hb hR hnew
        rw [listedOf_set g i u, ← hdst]
        refine ih (updG g i u) _ w' (hh.put hD hib u) ⟨hj.bw.trans hb (fun _ _ h => h), fun hn => ?_, fun j v hg => ?_, fun j k v x y hne hg1 hg2 h1 => ?_, fun j hjb => by rw [updG_ne g u (by omega)]; exact hj.dom j hjb⟩ (by rw [← listedOf_set]; exact hdc.set hi) (by have := lack_upd g i u hg0 b hib; omega)
        · by_cases hsi : s = i
          · rw [hsi, updG_same] at hn; cases hn
          · rw [updG_ne g u hsi] at hn
            exact (hj.bb hn).trans ((hbb (fun h => hsi h.symm)).mono hj.bw.size)
        · by_cases hji : j = i
          · subst hji; rw [updG_same] at hg; injection hg with hg; subst hg; exact hR
          · rw [updG_ne g u hji] at hg; exact hstab _ _ _ _ (hj.has j v hg) (fun h => hbb (fun h2 => hji (by omega))) hb
        · by_cases hji : j = i
          · subst hji
            rw [updG_same] at hg1
            injection hg1 with hg1
            subst hg1
            rw [updG_ne g _ (Ne.symm hne)] at hg2
            intro h2
            have := hnew y h1
            have := hblt k w x y (hj.has k x hg2) h2
            omega
          · rw [updG_ne g _ hji] at hg1
            by_cases hki : k = i
            · subst hki
              rw [updG_same] at hg2
              injection hg2 with hg2
              subst hg2
              intro h2
              have := hnew y h2
              have := hblt j w v y (hj.has j v hg1) h1
              omega
            · rw [updG_ne g _ hki] at hg2
              exact hj.ne j k v x y hne hg1 hg2 h1
end

/-- The region: a segment of such operations, then a tail in one order. -/
theorem wp_region_kept2 {P : Program} {id : Nat} {Q : Exit → Act → World → Prop} {a0 : Act} {w : World} {l : List Oper} (b : Nat) (Y : Nat → Prop) (s : Nat) (R : Nat → World → Value → Prop) (bl : Nat → Value → Option Nat) (hm : P.follows .mixedOrders = true)
    (hD : dstsB l.toArray b a0.tmps.size = true) (hW : (waitB .any l.toArray b && Region.seqB .any l.toArray (l.drop b).length b (firstK l.toArray b)) = true)
    (hstab : ∀ i w w' v, R i w v → (i = s → Below w.heap.size w w') → Keep Y w w' → R i w' v) (hblt : ∀ i w v k, R i w v → bl i v = some k → k < w.heap.size)
    (hstep : ∀ i o, i < b → l.toArray[i]? = some o → KeptStep2 Y s P .any l.toArray Q R bl a0 w.drew b i o)
    (hend : ∀ (vs : Nat → Value) (w' : World), Keep Y w w' → (∀ i, i < b → R i w' (vs i)) → (∀ i j k, i < b → j < b → i ≠ j → bl i (vs i) = some k → bl j (vs j) ≠ some k) →
      wpList P l.toArray Q (l.drop b) (putAll l.toArray a0 vs b) w') : (Code.region id l.toArray true).wp P Q a0 w := by
  simp only [Bool.and_eq_true] at hW
  have hbn : b ≤ l.toArray.size := by have := hW.1; simp only [waitB, Bool.and_eq_true, decide_eq_true_eq] at this; exact this.1
  have hbl : b ≤ l.length := by simpa using hbn
  refine wp_region_any hm ?_
  have h := wpAny_kept2 (Y := Y) (s := s) (P := P) (md := .any) (ops := l.toArray) (Q := Q) (R := R) (bl := bl) (a0 := a0) (w1 := w.drew) (b := b) (m := (l.drop b).length) hD hW.1 hstab hblt hstep (fun vs w' hb hs hne => by
    refine wpAny_of_seq (l.drop b) b _ _ _ (fun j => by simp [List.getElem?_drop]) hW.2 ?_
    exact hend vs w' ⟨hb.os, hb.tape, hb.output, hb.size, hb.block⟩ hs hne) b (fun _ => none) a0 w.drew
    ⟨rfl, rfl, fun i v t _ h => by simp at h, fun t _ => rfl⟩ ⟨⟨rfl, rfl, rfl, Nat.le_refl _, fun _ _ _ => rfl⟩, fun _ => Below.refl _ _, fun i v h => by simp at h, fun i j v u k _ h => by simp at h, fun _ _ => rfl⟩ (fun x o e ho hl => by rw [listedOf_get _ x false (Array.getElem?_eq_some_iff.1 ho).1] at hl; cases hl) (lack_none b)
  have he : b + (l.drop b).length = l.toArray.size := by simp; omega
  rw [he] at h
  have hl : listedOf l.toArray (fun _ => none) = Array.replicate l.toArray.size false := by
    apply Array.ext
    · simp [listedOf]
    · intro i h1 h2; simp [listedOf]
  rw [hl] at h
  exact h
end Go.Proofs.Ytijeieamodjgbab

