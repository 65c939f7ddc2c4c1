
/- Slices whose things stay, whatever is done to some blocks; a tracker that is cut to its first configuration; walk of Take. -/
import Derived.Test.YtijeieamodjgbaaGreatTr9
import Derived.Deep.RegionHeld3
namespace Go.Proofs.YtijeieamodjgbaaGreat
set_option maxRecDepth 100000
open Go.RowKit
set_option linter.unusedVariables false
structure RSl {α : Type} (S : Sh α) (X : Nat → Prop) (w : World) (a : Option Addr) (n c : Nat) (l : List α) : Prop where
  sl : SlAt S w a n c l
  el : ∀ i y, l[i]? = some y → ∃ b o cs, a = some ⟨b, o, none⟩ ∧ Rob X (fun w' => S.E w' y cs) w ∧ ∀ j v, cs[j]? = some v → Rob X (fun w' => w'.cell? ⟨b, o + i * S.k + j, none⟩ = some v) w
section
variable {α : Type} {S : Sh α} {X X' Y : Nat → Prop} {w0 w w1 : World} {a : Option Addr} {n c : Nat} {l : List α}
theorem RSl.rob (h : RSl S X w a n c l) : Rob X (fun w' => SlAt S w' a n c l) w := fun w' hk =>
  ⟨h.sl.len, h.sl.cap, h.sl.max, h.sl.bytes, h.sl.nil, fun i y hy => by
    obtain ⟨b, o, cs, ha, hE, hc⟩ := h.el i y hy
    exact ⟨b, o, cs, ha, hE w' hk, fun j v hv => hc j v hv w' hk⟩⟩
theorem RSl.step (h : RSl S X w a n c l) (hk : Keep Y w w1) (hY : ∀ k, k < w.heap.size → Y k → X k) (hX : ∀ k, k < w.heap.size → X' k → X k) : RSl S X' w1 a n c l :=
  ⟨h.rob w1 ⟨hk.os, hk.tape, hk.output, hk.size, fun k h1 h2 => hk.block k h1 (fun hc => h2 (hY k h1 hc))⟩, fun i y hy => by
    obtain ⟨b, o, cs, ha, hE, hc⟩ := h.el i y hy
    exact ⟨b, o, cs, ha, hE.step hk hY hX, fun j v hv => (hc j v hv).step hk hY hX⟩⟩
end
def takeC (c0 : Cf) (cs : List Cf) (chain : List Lk) : Int := if 64 < chain.length then 3 else checkC c0 (c0 :: cs) chain
end Go.Proofs.YtijeieamodjgbaaGreat
/- Plain laws of a tracker: what is known after a call. No program in sight. -/
namespace Go.Proofs.YtijeieamodjgbaaGreat
set_option maxRecDepth 100000
set_option linter.unusedVariables false
theorem take_zero {c0 : Cf} {L chain : List Lk} (h : takeC c0 (L.map (·.1)) chain = 0) : chain.length ≤ 64 ∧ chainC c0 chain = 0 ∧ otherB (c0 :: L.map (·.1)) chain = false ∧ L.length < chain.length := by
  rw [takeC] at h
  split at h
  · cases h
  · rw [checkC] at h
    split at h
    · rename_i hc; exact (hc h).elim
    · rename_i hc
      split at h
      · cases h
      · rename_i ho
        split at h
        · cases h
        · rename_i hl
          exact ⟨by omega, Classical.byContradiction hc, by simpa using ho, by simp at hl; omega⟩
end Go.Proofs.YtijeieamodjgbaaGreat
/- Walk of a call on the program's tracker. -/
namespace Go.Proofs.YtijeieamodjgbaaGreat
set_option maxRecDepth 100000
open Go.RowKit
set_option linter.unusedVariables false
end Go.Proofs.YtijeieamodjgbaaGreat
/- Scripts of calls: what they are in memory; a chain that was handed out. -/
namespace Go.Proofs.YtijeieamodjgbaaGreat
set_option maxRecDepth 100000
open Go.RowKit
set_option linter.unusedVariables false
abbrev Op := Bool × List Lk
end Go.Proofs.YtijeieamodjgbaaGreat
/- Two trackers beside each other. -/
namespace Go.Proofs.YtijeieamodjgbaaGreat
set_option maxRecDepth 100000
open Go.RowKit
set_option linter.unusedVariables false
def Sep (X : Nat → Prop) (p : Nat) (oc os : Option Nat) (X2 : Nat → Prop) (q : Nat) (oc2 os2 : Option Nat) : Prop :=
  (∀ k, trX p oc os k → X2 k ∧ ¬ trX q oc2 os2 k) ∧ (∀ k, trX q oc2 os2 k → X k ∧ ¬ trX p oc os k)
section
variable {X X' X2 : Nat → Prop} {p q : Nat} {oc os oc' os' oc2 os2 : Option Nat} {B B2 : Nat} {w w' : World} {cs cs2 : List Cf} {ss ss2 : List (List Sg)}
theorem Sep.symm (h : Sep X p oc os X2 q oc2 os2) : Sep X2 q oc2 os2 X p oc os := ⟨h.2, h.1⟩
end
end Go.Proofs.YtijeieamodjgbaaGreat
/- append onto nil at a step of a region that draws; walk of the reference's Copied. -/
namespace Go.Proofs.YtijeieamodjgbaaGreat
set_option maxRecDepth 100000
open Go.RowKit
set_option linter.unusedVariables false
theorem sigs_news {w : World} {a : Option Addr} {n c : Nat} {l : List Sg} (h : SlAt shSig w a n c l) : ∀ ad, a = some ad → ∀ j u, (sigV l)[j]? = some u → w.cell? (ad.add j) = some u := fun ad had j u hu => by
  subst had; obtain ⟨i, x, t, hit, hju⟩ := sigV_at l j u hu; obtain ⟨b, o, x', t', hab, hit', c0, c1, _⟩ := sig_cells h (show i < n by rw [← h.len]; exact (List.getElem?_eq_some_iff.1 hit).1)
  rw [hit] at hit'
  obtain ⟨rfl, rfl⟩ : x = x' ∧ t = t' := by simpa using hit'
  injection hab with hab; subst hab
  rcases hju with ⟨rfl, rfl⟩ | ⟨rfl, rfl⟩
  · rw [Addr.add_lit, c0]
  · rw [Addr.add_lit, ← Nat.add_assoc, c1]
end Go.Proofs.YtijeieamodjgbaaGreat
