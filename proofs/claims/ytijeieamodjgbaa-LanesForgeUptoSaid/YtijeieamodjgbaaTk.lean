
/- Slices whose things stay, whatever is done to some blocks; a tracker that is cut to its first configuration; walk of Take. -/
import Derived.Test.YtijeieamodjgbaaTr9
import Derived.Deep.RegionHeld3

namespace Go.Proofs.Ytijeieamodjgbaa
set_option maxRecDepth 100000
open Go.RowKit
set_option linter.unusedVariables false

/-- A slice that reads as a list, whatever is done to blocks of X. -/
structure RSl {α : Type} (S : Sh α) (X : Nat → Prop) (w : World) (a : Option Addr) (n c : Nat) (l : List α) : Prop where
  sl : SlAt S w a n c l
  el : ∀ i y, l[i]? = some y → ∃ b o cs, a = some ⟨b, o, none⟩ ∧ Rob X (fun w' => S.E w' y cs) w ∧ ∀ j v, cs[j]? = some v → Rob X (fun w' => w'.cell? ⟨b, o + i * S.k + j, none⟩ = some v) w
section
variable {α : Type} {S : Sh α} {X X' Y : Nat → Prop} {w0 w w1 : World} {a : Option Addr} {n c : Nat} {l : List α}
theorem RSl.rob (h : RSl S X w a n c l) : Rob X (fun w' => SlAt S w' a n c l) w := fun w' hk =>
  ⟨h.sl.len, h.sl.cap, h.sl.max, h.sl.bytes, h.sl.nil, fun i y hy => by
    obtain ⟨b, o, cs, ha, hE, hc⟩ := h.el i y hy
    exact ⟨b, o, cs, ha, hE w' hk, fun j v hv => hc j v hv w' hk⟩⟩
theorem RSl.step (h : RSl S X w a n c l) (hk : Keep Y w w1) (hY : ∀ k, k < w.heap.size → Y k → X k) (hX : ∀ k, k < w.heap.size → X' k → X k) : RSl S X' w1 a n c l :=
  ⟨h.rob w1 ⟨hk.os, hk.tape, hk.output, hk.size, fun k h1 h2 => hk.block k h1 (fun hc => h2 (hY k h1 hc))⟩, fun i y hy => by
    obtain ⟨b, o, cs, ha, hE, hc⟩ := h.el i y hy
    exact ⟨b, o, cs, ha, hE.step hk hY hX, fun j v hv => (hc j v hv).step hk hY hX⟩⟩
end

/-- A tracker that is cut to its first configuration. -/
theorem Trk.cut {X : Nat → Prop} {w : World} {B p : Nat} {oc os : Option Nat} {c0 : Cf} {cs : List Cf} {ss : List (List Sg)} (h : Trk X w B p oc os (c0 :: cs) ss) :
    ∃ g cap vs, w.heap[p]? = some (.cells #[.slice (some ⟨g, 0, none⟩) (cs.length + 1) cap, vs] 208 (0, 0)) ∧ 1 ≤ cap ∧
      Trk X ((w.setCell ⟨p, 0, none⟩ (.slice (some ⟨g, 0, none⟩) 1 cap)).setCell ⟨p, 1, none⟩ (.slice none 0 0)) B p oc none [c0] [] ∧
      Keep (trX p oc os) w ((w.setCell ⟨p, 0, none⟩ (.slice (some ⟨g, 0, none⟩) 1 cap)).setCell ⟨p, 1, none⟩ (.slice none 0 0)) := by
  obtain ⟨vc, vs, xc, xs, hp, h1, e1, r1, h2, e2, r2⟩ := h.ex
  rcases h1.2 with ⟨_, h0⟩ | ⟨g, cap, cur, rfl, hb, hg, hnc, hcm, hs, ht⟩
  · cases h0
  · obtain ⟨cs1, xs', rfl, hl1, hR, _⟩ := r1
    have hgp : g ≠ p := fun hc => h.noc (by rw [← e1, hc]; rfl)
    have hK : Keep (trX p oc os) w ((w.setCell ⟨p, 0, none⟩ (.slice (some ⟨g, 0, none⟩) 1 cap)).setCell ⟨p, 1, none⟩ (.slice none 0 0)) :=
      ((Keep.refl _ _).set (.inr (.inl rfl)) 0 _).set (.inr (.inl rfl)) 1 _
    have h1c : 1 ≤ cap := by have : cs.length + 1 ≤ cap := hnc; omega
    refine ⟨g, cap, vs, hp, h1c, ⟨h.hB, h.noc, by simp, fun k hk => by simp, fun k hk => h.own k (by
      rcases hk with hk | hk | hk
      · exact .inl hk
      · exact .inr (.inl hk)
      · cases hk), fun k hk => h.new k (by simpa [World.setCell] using hk), .slice (some ⟨g, 0, none⟩) 1 cap, .slice none 0 0, cs1, [], ?_, ⟨hl1, .inr ⟨g, cap, cur, rfl, hb, ?_, h1c, hcm, hs, ?_⟩⟩, e1, ?_, World.ownsRow_nil _ _ _ _, rfl, rfl⟩, hK⟩
    · exact blk_set (blk_set hp 0 _) 1 _
    · exact blk_set_other (blk_set_other hg p 0 _ hgp) p 1 _ hgp
    · have hl1' : cs1.length = 2 := hl1
      have h5 : cs1 = (cs1 ++ xs').take 2 := by rw [List.take_append_of_le_length (by omega), List.take_of_length_le (by omega)]
      rw [h5, ← ht, List.take_take]
      congr 1
      show 1 * 2 = min 2 ((cs.length + 1) * 2)
      omega
    · exact ⟨cs1, [], by simp, hl1, hR.step hK (fun k _ hc => h.own k hc) (fun _ _ hc => hc), rfl⟩

def takeC (c0 : Cf) (cs : List Cf) (chain : List Lk) : Int := if 64 < chain.length then 3 else checkC c0 (c0 :: cs) chain
end Go.Proofs.Ytijeieamodjgbaa

/- Plain laws of a tracker: what is known after a call. No program in sight. -/
namespace Go.Proofs.Ytijeieamodjgbaa
set_option maxRecDepth 100000
set_option linter.unusedVariables false

theorem take_zero {c0 : Cf} {L chain : List Lk} (h : takeC c0 (L.map (·.1)) chain = 0) : chain.length ≤ 64 ∧ chainC c0 chain = 0 ∧ otherB (c0 :: L.map (·.1)) chain = false ∧ L.length < chain.length := by
  rw [takeC] at h
  split at h
  · cases h
  · rw [checkC] at h
    split at h
    · rename_i hc; exact (hc h).elim
    · rename_i hc
      split at h
      · cases h
      · rename_i ho
        split at h
        · cases h
        · rename_i hl
          exact ⟨by omega, Classical.byContradiction hc, by simpa using ho, by simp at hl; omega⟩
end Go.Proofs.Ytijeieamodjgbaa

/- Walk of a call on the program's tracker. -/
namespace Go.Proofs.Ytijeieamodjgbaa
set_option maxRecDepth 100000
open Go.RowKit
set_option linter.unusedVariables false

/-- What a call leaves. -/
def CallPost (X : Nat → Prop) (B p : Nat) (oc os : Option Nat) (c0 : Cf) (L' : List Lk) (x : Int) (w : World) (r : Ending) (w' : World) : Prop :=
  r = .returned (.int .i64 x) ∧ ∃ X' oc' os', (∀ j, trX p oc' os' j → trX p oc os j ∨ w.heap.size ≤ j) ∧ XSub X X' w ∧ Trk X' w' B p oc' os' (c0 :: L'.map (·.1)) (L'.map (·.2)) ∧ Keep (trX p oc os) w w'
/-- Behind the box of an argument. -/
theorem CallPost.back {X : Nat → Prop} {B p : Nat} {oc os : Option Nat} {c0 : Cf} {L' : List Lk} {x : Int} {w0 w w' : World} {r : Ending} (h : CallPost X B p oc os c0 L' x w r w') (hb : Below w0.heap.size w0 w) : CallPost X B p oc os c0 L' x w0 r w' := by
  obtain ⟨hr, X', oc', os', h1, h2, h3, h4⟩ := h
  exact ⟨hr, X', oc', os', fun j hj => (h1 j hj).imp id (fun h => Nat.le_trans hb.size h), (XSub.refl X w0).trans h2 hb.size, h3, (Keep.of_below hb).trans h4 (fun _ _ h => h)⟩

end Go.Proofs.Ytijeieamodjgbaa

/- Scripts of calls: what they are in memory; a chain that was handed out. -/
namespace Go.Proofs.Ytijeieamodjgbaa
set_option maxRecDepth 100000
open Go.RowKit
set_option linter.unusedVariables false

abbrev Op := Bool × List Lk
end Go.Proofs.Ytijeieamodjgbaa

/- Two trackers beside each other. -/
namespace Go.Proofs.Ytijeieamodjgbaa
set_option maxRecDepth 100000
open Go.RowKit
set_option linter.unusedVariables false

/-- Neither's own blocks are the other one's, nor hold parts of the other one's things. -/
def Sep (X : Nat → Prop) (p : Nat) (oc os : Option Nat) (X2 : Nat → Prop) (q : Nat) (oc2 os2 : Option Nat) : Prop :=
  (∀ k, trX p oc os k → X2 k ∧ ¬ trX q oc2 os2 k) ∧ (∀ k, trX q oc2 os2 k → X k ∧ ¬ trX p oc os k)
section
variable {X X' X2 : Nat → Prop} {p q : Nat} {oc os oc' os' oc2 os2 : Option Nat} {B B2 : Nat} {w w' : World} {cs cs2 : List Cf} {ss ss2 : List (List Sg)}
theorem Sep.symm (h : Sep X p oc os X2 q oc2 os2) : Sep X2 q oc2 os2 X p oc os := ⟨h.2, h.1⟩
theorem trX_lt (h : Trk X w B p oc os cs ss) : ∀ k, trX p oc os k → k < w.heap.size := fun k hk => by
  obtain ⟨h1, h2, h3⟩ := h.lt
  rcases hk with rfl | hk | hk
  · exact h1
  · exact (h2 k hk).2
  · exact (h3 k hk).2
theorem Sep.step (h : Sep X p oc os X2 q oc2 os2) (h1 : Trk X w B p oc os cs ss) (h2 : Trk X2 w B2 q oc2 os2 cs2 ss2) (hn : ∀ j, trX p oc' os' j → trX p oc os j ∨ w.heap.size ≤ j) (hx : XSub X X' w) : Sep X' p oc' os' X2 q oc2 os2 := by
  refine ⟨fun k hk => ?_, fun k hk => ?_⟩
  · rcases hn k hk with h' | h'
    · exact h.1 k h'
    · exact ⟨h2.new k h', fun hc => by have := trX_lt h2 k hc; omega⟩
  · have hl := trX_lt h2 k hk
    obtain ⟨h3, h4⟩ := h.2 k hk
    refine ⟨hx.2 k hl h3, fun hc => ?_⟩
    rcases hn k hc with h' | h'
    · exact h4 h'
    · omega
end
end Go.Proofs.Ytijeieamodjgbaa

/- append onto nil at a step of a region that draws; walk of the reference's Copied. -/
namespace Go.Proofs.Ytijeieamodjgbaa
set_option maxRecDepth 100000
open Go.RowKit
set_option linter.unusedVariables false

theorem sigs_news {w : World} {a : Option Addr} {n c : Nat} {l : List Sg} (h : SlAt shSig w a n c l) : ∀ ad, a = some ad → ∀ j u, (sigV l)[j]? = some u → w.cell? (ad.add j) = some u := fun ad had j u hu => by
  subst had
  obtain ⟨i, x, t, hit, hju⟩ := sigV_at l j u hu
  obtain ⟨b, o, x', t', hab, hit', c0, c1, _⟩ := sig_cells h (show i < n by rw [← h.len]; exact (List.getElem?_eq_some_iff.1 hit).1)
  rw [hit] at hit'
  obtain ⟨rfl, rfl⟩ : x = x' ∧ t = t' := by simpa using hit'
  injection hab with hab; subst hab
  rcases hju with ⟨rfl, rfl⟩ | ⟨rfl, rfl⟩
  · rw [Addr.add_lit, c0]
  · rw [Addr.add_lit, ← Nat.add_assoc, c1]

end Go.Proofs.Ytijeieamodjgbaa
