
/- A segment of a region that draws its order: operations of fixed values, of which one alone turns the world. No program in sight. -/
import Derived.Test.YtfhbjajhmegdmaaNews
namespace Go.Proofs.Ytfhbjajhmegdmaa
set_option maxRecDepth 100000
open Go.RowKit
set_option linter.unusedVariables false

structure OneAt (u : Nat → Value) (w1 w2 : World) (k b : Nat) (g : Nat → Option Value) (w : World) : Prop where
  has : ∀ i v, g i = some v → v = u i
  wd : w = if (g k).isSome then w2 else w1
  dom : ∀ i, b ≤ i → g i = none
/-- What the walk of an operation of the segment has to show: in the world w it yields its value, and leaves the world w'. -/
def OneStep (P : Program) (md : Region.Mode) (ops : Array Oper) (Q : Exit → Act → World → Prop) (u : Nat → Value) (a0 : Act) (b i : Nat) (o : Oper) (w w' : World) : Prop :=
  ∀ (a : Act), (∀ t, (∀ j, j < b → dstAt ops j ≠ some t) → a.eval (.tmp t) = a0.eval (.tmp t)) →
    (∀ e ∈ o.after, Region.binds md e = true → ∀ t, dstAt ops e.on = some t → a.eval (.tmp t) = u e.on) →
    ∀ K : Act → World → Prop, K (a.put o.dst (u i)) w' → wpOp P ops Q i K a w

theorem wpAny_one {P : Program} {ops : Array Oper} {md : Region.Mode} {Q : Exit → Act → World → Prop} {u : Nat → Value} {a0 : Act} {w1 w2 : World} {k b m : Nat} (hkb : k < b) (hD : dstsB ops b a0.tmps.size = true) (hW : waitB md ops b = true)
    (hstep : ∀ i o, i < b → i ≠ k → ops[i]? = some o → OneStep P md ops Q u a0 b i o w1 w1 ∧ OneStep P md ops Q u a0 b i o w2 w2)
    (hone : ∀ o, ops[k]? = some o → OneStep P md ops Q u a0 b k o w1 w2)
    (hend : wpAny P md ops Q m (firstK ops b) (putAll ops a0 u b) w2) :
    ∀ (fuel : Nat) (g : Nat → Option Value) (a : Act) (w : World), HeldAct ops a0 b g a → OneAt u w1 w2 k b g w → Dc md ops (listedOf ops g) → lack g b = fuel → wpAny P md ops Q (fuel + m) (listedOf ops g) a w := by
  have hbn : b ≤ ops.size := by simp only [waitB, Bool.and_eq_true, decide_eq_true_eq] at hW; exact hW.1
  intro fuel
  induction fuel with
  | zero =>
    intro g a w hh hj hdc hl
    have hs := lack_zero hl
    have hget : ∀ i, i < b → g i = some (u i) := fun i hi => by
      have := hs i hi
      cases hg : g i with
      | none => rw [hg] at this; cases this
      | some v => rw [hj.has i v hg]
    have he : g = fun i => if i < b then some (u i) else none := by
      funext i
      by_cases hi : i < b
      · rw [if_pos hi, hget i hi]
      · rw [if_neg hi, hj.dom i (by omega)]
    have ha : a = putAll ops a0 u b := by
      refine hh.unique (b := b) ?_
      have := putAll_held hD u b (Nat.le_refl _)
      rw [← he] at this
      exact this
    have hli : listedOf ops g = firstK ops b := by
      apply Array.ext
      · simp [listedOf, firstK]
      · intro x h1 h2
        simp only [listedOf, firstK, List.getElem_toArray, List.getElem_map, List.getElem_range]
        by_cases hx : x < b
        · rw [hs x hx]; simp [hx]
        · rw [hj.dom x (by omega)]; simp [hx]
    have hw : w = w2 := by rw [hj.wd, hs k hkb]; rfl
    rw [ha, hli, Nat.zero_add, hw]
    exact hend
  | succ fuel ih =>
    intro g a w hh hj hdc hl
    rw [Nat.add_right_comm]
    refine ⟨fun h0 => ?_, fun i hi => ?_⟩
    · exfalso
      obtain ⟨i, hi, h1, h2⟩ := lack_pos (g := g) (b := b) (by omega)
      have ho : ops[i]? = some ops[i] := Array.getElem?_eq_getElem (by omega)
      have : i ∈ Region.ready md ops (listedOf ops g) := by
        rw [mem_ready]
        refine ⟨by rw [listedOf_get g i true (by omega), h1]; rfl, _, ho, fun e he _ => ?_⟩
        have := waitB_lt hW hi ho he
        rw [listedOf_get g e.on false (by omega)]
        exact h2 e.on this
      rw [h0] at this
      cases this
    · obtain ⟨h0, o, ho, hall⟩ := mem_ready.1 hi
      have hio := (Array.getElem?_eq_some_iff.1 ho).1
      rw [listedOf_get g i true hio] at h0
      have hg0 : g i = none := by
        cases hg : g i with
        | none => rfl
        | some v => rw [hg] at h0; cases h0
      have hib : i < b := by
        rcases Nat.lt_or_ge i b with h | h
        · exact h
        · exfalso
          obtain ⟨j, hk, h1, _⟩ := lack_pos (g := g) (b := b) (by omega)
          have := reachB_spec hdc _ i j o ho hall (waitB_bar hW (by omega) ho hk)
          rw [listedOf_get g j false (by omega), h1] at this
          cases this
      have hdst : dstAt ops i = o.dst := by simp [dstAt, ho]
      have hE : ∀ t, (∀ j, j < b → dstAt ops j ≠ some t) → a.eval (.tmp t) = a0.eval (.tmp t) := fun t ht => by
        have := hh.other t (fun j v hjb _ => ht j hjb)
        simp only [Act.eval, Array.getD_eq_getD_getElem?, this]
      have hF : ∀ e ∈ o.after, Region.binds md e = true → ∀ t, dstAt ops e.on = some t → a.eval (.tmp t) = u e.on := fun e he hbi t ht => by
        have hlt := waitB_lt hW hib ho he
        have hs := hall e he hbi
        rw [listedOf_get g e.on false (by omega)] at hs
        cases hg : g e.on with
        | none => rw [hg] at hs; cases hs
        | some v =>
          have h2 := hh.own e.on v t (by omega) hg ht
          simp only [Act.eval, Array.getD_eq_getD_getElem?, h2]
          exact hj.has e.on v hg
      have hnext : ∀ w', w' = (if (updG g i (u i) k).isSome then w2 else w1) → wpAny P md ops Q (fuel + m) ((listedOf ops g).setIfInBounds i true) (a.put o.dst (u i)) w' := fun w' hw' => by
        rw [listedOf_set g i (u i), ← hdst]
        refine ih (updG g i (u i)) _ w' (hh.put hD hib (u i)) ⟨fun j v hg => ?_, hw', fun j hjb => by rw [updG_ne g (u i) (by omega)]; exact hj.dom j hjb⟩ (by rw [← listedOf_set]; exact hdc.set hi) (by have := lack_upd g i (u i) hg0 b hib; omega)
        by_cases hji : j = i
        · subst hji; rw [updG_same] at hg; injection hg with hg; exact hg.symm
        · rw [updG_ne g (u i) hji] at hg; exact hj.has j v hg
      by_cases hik : i = k
      · subst hik
        have hw : w = w1 := by rw [hj.wd, hg0]; rfl
        rw [hw]
        exact hone o ho a hE hF _ (hnext w2 (by rw [updG_same]; rfl))
      · obtain ⟨s1, s2⟩ := hstep i o hib hik ho
        have hw := hj.wd
        by_cases hgk : (g k).isSome = true
        · rw [if_pos hgk] at hw
          rw [hw]
          exact s2 a hE hF _ (hnext w2 (by rw [updG_ne g (u i) (Ne.symm hik), if_pos hgk]))
        · rw [if_neg hgk] at hw
          rw [hw]
          exact s1 a hE hF _ (hnext w1 (by rw [updG_ne g (u i) (Ne.symm hik), if_neg hgk]))

/-- The region: such a segment, then a tail in one order. -/
theorem wp_region_one {P : Program} {id : Nat} {Q : Exit → Act → World → Prop} {a0 : Act} {w : World} {l : List Oper} (b k : Nat) (u : Nat → Value) (w2 : World) (hm : P.follows .mixedOrders = true) (hkb : k < b)
    (hD : dstsB l.toArray b a0.tmps.size = true) (hW : (waitB .any l.toArray b && Region.seqB .any l.toArray (l.drop b).length b (firstK l.toArray b)) = true)
    (hstep : ∀ i o, i < b → i ≠ k → l.toArray[i]? = some o → OneStep P .any l.toArray Q u a0 b i o w.drew w.drew ∧ OneStep P .any l.toArray Q u a0 b i o w2 w2)
    (hone : ∀ o, l.toArray[k]? = some o → OneStep P .any l.toArray Q u a0 b k o w.drew w2)
    (hend : wpList P l.toArray Q (l.drop b) (putAll l.toArray a0 u b) w2) : (Code.region id l.toArray true).wp P Q a0 w := by
  simp only [Bool.and_eq_true] at hW
  have hbn : b ≤ l.toArray.size := by have := hW.1; simp only [waitB, Bool.and_eq_true, decide_eq_true_eq] at this; exact this.1
  have hbl : b ≤ l.length := by simpa using hbn
  refine wp_region_any hm ?_
  have h := wpAny_one (P := P) (md := .any) (ops := l.toArray) (Q := Q) (u := u) (a0 := a0) (w1 := w.drew) (w2 := w2) (k := k) (b := b) (m := (l.drop b).length) hkb hD hW.1 hstep hone
    (wpAny_of_seq (l.drop b) b _ _ _ (fun j => by simp [List.getElem?_drop]) hW.2 hend) b (fun _ => none) a0 w.drew
    ⟨rfl, rfl, fun i v t _ h => by simp at h, fun t _ => rfl⟩ ⟨fun i v h => by simp at h, rfl, fun _ _ => rfl⟩ (fun x o e ho hl => by rw [listedOf_get _ x false (Array.getElem?_eq_some_iff.1 ho).1] at hl; cases hl) (lack_none b)
  have he : b + (l.drop b).length = l.toArray.size := by simp; omega
  rw [he] at h
  have hl : listedOf l.toArray (fun _ => none) = Array.replicate l.toArray.size false := by
    apply Array.ext
    · simp [listedOf]
    · intro i h1 h2; simp [listedOf]
  rw [hl] at h
  exact h
/-- What is left comes up in one order. -/
theorem wpAny_tail {P : Program} {md : Region.Mode} {Q : Exit → Act → World → Prop} {l : List Oper} (b : Nat) {a : Act} {w : World} (hB : Region.seqB md l.toArray (l.drop b).length b (firstK l.toArray b) = true) (h : wpList P l.toArray Q (l.drop b) a w) :
    wpAny P md l.toArray Q (l.toArray.size - b) (firstK l.toArray b) a w := by
  have h1 : l.toArray.size - b = (l.drop b).length := by simp
  rw [h1]
  exact wpAny_of_seq (l.drop b) b _ _ _ (fun j => by simp [List.getElem?_drop]) hB h
end Go.Proofs.Ytfhbjajhmegdmaa
