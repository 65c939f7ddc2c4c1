
/- What a call changes, by a set of blocks; facts that no such change touches; rows of things with parts elsewhere. No program in sight. -/
import Derived.Test.YtijeieamodjgbabVw
import Derived.Test.YtijeieamodjgbabOwn

namespace Go.Proofs.Ytijeieamodjgbab
set_option maxRecDepth 100000
open Go.RowKit
set_option linter.unusedVariables false

/-- Nothing of the older memory has changed but blocks of X. -/
structure Keep (X : Nat → Prop) (w w' : World) : Prop where
  os : w'.os = w.os
  tape : w'.tape = w.tape
  output : w'.output = w.output
  size : w.heap.size ≤ w'.heap.size
  block : ∀ k, k < w.heap.size → ¬ X k → w'.heap[k]? = w.heap[k]?
section
variable {X X' Y : Nat → Prop} {w0 w w1 w2 : World}
theorem Keep.refl (X : Nat → Prop) (w : World) : Keep X w w := ⟨rfl, rfl, rfl, Nat.le_refl _, fun _ _ _ => rfl⟩
theorem Keep.trans (h : Keep X w w1) (h2 : Keep X' w1 w2) (hX : ∀ k, k < w.heap.size → X' k → X k) : Keep X w w2 :=
  ⟨h2.os.trans h.os, h2.tape.trans h.tape, h2.output.trans h.output, Nat.le_trans h.size h2.size, fun k hk hx => by
    rw [h2.block k (Nat.lt_of_lt_of_le hk h.size) (fun hc => hx (hX k hk hc)), h.block k hk hx]⟩
theorem Keep.of_below (h : Below w.heap.size w w1) : Keep X w w1 := ⟨h.os, h.tape, h.output, h.size, fun k hk _ => h.block k hk⟩
theorem Keep.below (hb : Below w0.heap.size w0 w) (h : Keep X w w1) (hX : ∀ k, X k → w0.heap.size ≤ k) : Below w0.heap.size w0 w1 :=
  hb.trans ⟨h.os, h.tape, h.output, h.size, fun k hk => h.block k (Nat.lt_of_lt_of_le hk hb.size) (fun hc => by have := hX k hc; omega)⟩
theorem Keep.set (h : Keep X w w1) {p : Nat} (hp : w.heap.size ≤ p ∨ X p) (o : Nat) (v : Value) : Keep X w (w1.setCell ⟨p, o, none⟩ v) :=
  ⟨h.os, h.tape, h.output, by rw [show (w1.setCell ⟨p, o, none⟩ v).heap.size = w1.heap.size by simp [World.setCell]]; exact h.size, fun k hk hx => by
    rw [Below.heap_setCell _ _ _ _ (by
      intro hc
      have hc : k = p := hc
      rcases hp with hp | hp
      · omega
      · exact hx (hc ▸ hp))]
    exact h.block k hk hx⟩
theorem Keep.grown {row : Option Nat} (h : Keep X w w1) (hg : w1.grownBy w2 row) (hr : ∀ k, row = some k → w.heap.size ≤ k ∨ X k) : Keep X w w2 :=
  ⟨hg.os.trans h.os, hg.tape.trans h.tape, hg.output.trans h.output, Nat.le_trans h.size hg.size, fun k hk hx => by
    rw [hg.block k (Nat.lt_of_lt_of_le hk h.size) (fun hc => by
      rcases hr k hc.symm with h | h
      · omega
      · exact hx h)]
    exact h.block k hk hx⟩
theorem Keep.alloc (h : Keep X w w1) (o : Obj) : Keep X w (w1.alloc o) := h.trans (X' := fun _ => False) (Keep.of_below (below_alloc w1 o)) (fun _ _ hc => hc.elim)

/-- It holds, whatever is done to blocks of X, and whatever is made. -/
def Rob (X : Nat → Prop) (Q : World → Prop) (w : World) : Prop := ∀ w', Keep X w w' → Q w'
theorem Rob.self {Q : World → Prop} (h : Rob X Q w) : Q w := h w (Keep.refl X w)
theorem Rob.step {Q : World → Prop} (h : Rob X Q w) (hk : Keep Y w w1) (hY : ∀ k, k < w.heap.size → Y k → X k) (hX : ∀ k, k < w.heap.size → X' k → X k) : Rob X' Q w1 := fun w' h' =>
  h w' ⟨h'.os.trans hk.os, h'.tape.trans hk.tape, h'.output.trans hk.output, Nat.le_trans hk.size h'.size, fun k hk0 hx => by
    rw [h'.block k (Nat.lt_of_lt_of_le hk0 hk.size) (fun hc => hx (hX k hk0 hc)), hk.block k hk0 (fun hc => hx (hY k hk0 hc))]⟩
theorem Rob.mono {Q Q' : World → Prop} (h : Rob X Q w) (hq : ∀ w', Q w' → Q' w') : Rob X Q' w := fun w' h' => hq w' (h w' h')
/-- An owned row stays while its own block is none of X. -/
theorem owns_keep {B e s n : Nat} {v : Value} {xs : List Value} (h : w.ownsRow B e s v n xs) (hk : Keep X w w1) (hx : ∀ k, v.ownBlock = some k → ¬ X k) : w1.ownsRow B e s v n xs := by
  refine ⟨h.1, ?_⟩
  rcases h.2 with hn | ⟨g, cap, cur, rfl, hb, hg, r⟩
  · exact .inl hn
  · exact .inr ⟨g, cap, cur, rfl, hb, by rw [hk.block g (blk_lt hg) (hx g rfl)]; exact hg, r⟩

theorem owns_setlow {B e s n : Nat} {v : Value} {xs : List Value} (h : w.ownsRow B e s v n xs) {g : Nat} (hg : g < B) (o : Nat) (u : Value) : (w.setCell ⟨g, o, none⟩ u).ownsRow B e s v n xs := by
  refine ⟨h.1, ?_⟩
  rcases h.2 with hn | ⟨k, cap, cur, rfl, hb, hk, r⟩
  · exact .inl hn
  · exact .inr ⟨k, cap, cur, rfl, hb, blk_set_other hk _ _ _ (by omega), r⟩
theorem owns_setother {B e s n : Nat} {v : Value} {xs : List Value} (h : w.ownsRow B e s v n xs) {g : Nat} (hg : v.ownBlock ≠ some g) (o : Nat) (u : Value) : (w.setCell ⟨g, o, none⟩ u).ownsRow B e s v n xs := by
  refine ⟨h.1, ?_⟩
  rcases h.2 with hn | ⟨k, cap, cur, rfl, hb, hk, r⟩
  · exact .inl hn
  · exact .inr ⟨k, cap, cur, rfl, hb, blk_set_other hk _ _ _ (fun hc => hg (by rw [← hc]; rfl)), r⟩
theorem owns_lower {B B' e s n : Nat} {v : Value} {xs : List Value} (h : w.ownsRow B e s v n xs) (hB : B' ≤ B) : w.ownsRow B' e s v n xs := by
  refine ⟨h.1, ?_⟩
  rcases h.2 with h | ⟨g, cap, cur, hv, hb, r⟩
  · exact .inl h
  · exact .inr ⟨g, cap, cur, hv, by omega, r⟩
theorem owns_old {B e s n : Nat} {v : Value} {xs : List Value} (h : w.ownsRow B e s v n xs) (hb : Below w.heap.size w w1) : w1.ownsRow B e s v n xs :=
  owns_keep (X := fun _ => False) h (Keep.of_below hb) (fun _ _ hc => hc)
theorem owns_form {B e s n : Nat} {v : Value} {xs : List Value} (h : w.ownsRow B e s v n xs) : ∃ a c, v = .slice a n c := by
  rcases h.2 with ⟨rfl, rfl⟩ | ⟨g, cap, cur, rfl, _⟩
  · exact ⟨_, _, rfl⟩
  · exact ⟨_, _, rfl⟩

/-- A row's cells: thing by thing. -/
def rowOf {α : Type} (S : Sh α) (X : Nat → Prop) (w : World) : List α → List Value → Prop
  | [], xs => xs = []
  | y :: r, xs => ∃ cs xs', xs = cs ++ xs' ∧ cs.length = S.k ∧ Rob X (fun w' => S.E w' y cs) w ∧ rowOf S X w r xs'
variable {α : Type} {S : Sh α}
theorem rowOf.len : ∀ {l : List α} {xs : List Value}, rowOf S X w l xs → xs.length = l.length * S.k
  | [], xs, h => by rw [show xs = [] from h]; simp
  | y :: r, xs, ⟨cs, xs', he, hc, _, h⟩ => by rw [he, List.length_append, hc, rowOf.len h, List.length_cons, Nat.add_mul]; omega
theorem rowOf.step : ∀ {l : List α} {xs : List Value}, rowOf S X w l xs → Keep Y w w1 → (∀ k, k < w.heap.size → Y k → X k) → (∀ k, k < w.heap.size → X' k → X k) → rowOf S X' w1 l xs
  | [], xs, h, _, _, _ => h
  | y :: r, xs, ⟨cs, xs', he, hc, hr, h⟩, hk, hY, hX => ⟨cs, xs', he, hc, hr.step hk hY hX, rowOf.step h hk hY hX⟩
theorem rowOf.snoc : ∀ {l : List α} {xs cs : List Value} {y : α}, rowOf S X w l xs → cs.length = S.k → Rob X (fun w' => S.E w' y cs) w → rowOf S X w (l ++ [y]) (xs ++ cs)
  | [], xs, cs, y, h, hc, hr => by rw [show xs = [] from h]; exact ⟨cs, [], by simp, hc, hr, rfl⟩
  | z :: r, xs, cs, y, ⟨cs', xs', he, hc', hr', h⟩, hc, hr => ⟨cs', xs' ++ cs, by rw [he, List.append_assoc], hc', hr', rowOf.snoc h hc hr⟩
theorem rowOf.get : ∀ {l : List α} {xs : List Value}, rowOf S X w l xs → ∀ {i : Nat} {y : α}, l[i]? = some y → ∃ cs, cs.length = S.k ∧ Rob X (fun w' => S.E w' y cs) w ∧ ∀ j v, cs[j]? = some v → xs[i * S.k + j]? = some v
  | z :: r, xs, ⟨cs, xs', he, hc, hr, h⟩, 0, y, hy => by
    simp at hy; subst hy
    refine ⟨cs, hc, hr, fun j v hv => ?_⟩
    rw [he, Nat.zero_mul, Nat.zero_add, List.getElem?_append_left (List.getElem?_eq_some_iff.1 hv).1]; exact hv
  | z :: r, xs, ⟨cs, xs', he, hc, hr, h⟩, i + 1, y, hy => by
    obtain ⟨cs2, h1, h2, h3⟩ := rowOf.get h (i := i) (y := y) (by simpa using hy)
    refine ⟨cs2, h1, h2, fun j v hv => ?_⟩
    rw [he, List.getElem?_append_right (by rw [hc, Nat.add_mul]; omega), hc, show (i + 1) * S.k + j - S.k = i * S.k + j by rw [Nat.add_mul]; omega]
    exact h3 j v hv
/-- An owned row of such things reads as a slice. -/
theorem sl_of_row {B e n c : Nat} {a : Option Addr} {l : List α} {xs : List Value} (ho : w.ownsRow B e S.k (.slice a n c) l.length xs) (hr : rowOf S X w l xs) (hb : n * S.bs ≤ 140737488355328) : SlAt S w a n c l := by
  rcases ho.2 with ⟨hv, h0⟩ | ⟨g, cap, cur, hv, hB, hg, hnc, hcm, _, _⟩
  · injection hv with h1 h2 h3
    subst h1 h2 h3
    exact ⟨h0, Nat.le_refl _, by omega, by omega, fun _ => rfl, fun i y hy => by rw [List.eq_nil_of_length_eq_zero h0] at hy; cases hy⟩
  · injection hv with h1 h2 h3
    subst h1 h2 h3
    have hmax : maxLen = 9223372036854775807 := rfl
    refine ⟨rfl, hnc, by omega, hb, fun h => (by cases h), fun i y hy => ?_⟩
    obtain ⟨cs, hc, hR, hx⟩ := hr.get hy
    refine ⟨g, 0, cs, rfl, hR.self, fun j v hv => ?_⟩
    have := ho.cells (g := g) rfl _ _ (hx j v hv)
    rw [Addr.add_lit, Nat.zero_add] at this
    rw [Nat.zero_add]; exact this
end
end Go.Proofs.Ytijeieamodjgbab
