
/- Which lists are proofs: plain. No program in sight. -/
import Derived.Test.YtfhbjajhmegdmaaCoP
import Derived.Test.YtfhbjajhmegdmaaNum
import Derived.Test.YtfhbjajhmegdmaaSg
namespace Go.Proofs.Ytfhbjajhmegdmaa
set_option maxRecDepth 100000

/-- Each signs the text, is a member, and stands above the one before. -/
def sigsUp (l : List Int) (text : ByteArray) (last : Int) : List Sg → Bool
  | [] => true
  | s :: r => if s.2 = text ∧ last < s.1 ∧ hasB l s.1 = true then sigsUp l text s.1 r else false
def provesB (e : Int) (l : List Int) (text : ByteArray) (sigs : List Sg) : Bool :=
  rightB e l && decide (sigs.length ≤ 16) && decide (quorumP l.length ≤ sigs.length) && sigsUp l text (-1) sigs
/-- The reference's order: the first has none before it. -/
def sigsRef (l : List Int) (text : ByteArray) : Option Int → List Sg → Bool
  | _, [] => true
  | p, s :: r => if s.2 = text ∧ hasB l s.1 = true ∧ (∀ q, p = some q → q < s.1) then sigsRef l text (some s.1) r else false
theorem sigsRef_some (l : List Int) (text : ByteArray) : ∀ (sigs : List Sg) (q : Int), sigsRef l text (some q) sigs = sigsUp l text q sigs
  | [], q => rfl
  | s :: r, q => by
    unfold sigsRef sigsUp
    by_cases h : s.2 = text ∧ q < s.1 ∧ hasB l s.1 = true
    · rw [if_pos h, if_pos ⟨h.1, h.2.2, fun q' hq => by injection hq with hq; rw [← hq]; exact h.2.1⟩, sigsRef_some l text r]
    · rw [if_neg h, if_neg (fun hc => h ⟨hc.1, hc.2.2 q rfl, hc.2.1⟩)]
theorem hasB_nonneg {l : List Int} (h : risingB l = true) {x : Int} (hx : hasB l x = true) : 0 ≤ x := by
  simp only [hasB, List.any_eq_true, beq_iff_eq] at hx
  obtain ⟨y, hy, rfl⟩ := hx
  exact (risingB_range h x hy).1
theorem sigsRef_none {l : List Int} (h : risingB l = true) (text : ByteArray) : ∀ (sigs : List Sg), sigsRef l text none sigs = sigsUp l text (-1) sigs
  | [] => rfl
  | s :: r => by
    unfold sigsRef sigsUp
    by_cases hc : s.2 = text ∧ hasB l s.1 = true
    · have := hasB_nonneg h hc.2
      rw [if_pos ⟨hc.1, hc.2, fun q hq => by cases hq⟩, if_pos ⟨hc.1, by omega, hc.2⟩, sigsRef_some]
    · rw [if_neg (fun h2 => hc ⟨h2.1, h2.2.1⟩), if_neg (fun h2 => hc ⟨h2.1, h2.2.2⟩)]
theorem proves_ref (e : Int) (l : List Int) (text : ByteArray) (sigs : List Sg) :
    (sigsRef l text none sigs && (rightB e l && decide (quorumP l.length ≤ sigs.length) && decide (sigs.length ≤ 16))) = provesB e l text sigs := by
  unfold provesB
  cases hr : rightB e l with
  | false => simp
  | true =>
    rw [sigsRef_none (rightB_rising hr).2.2]
    cases sigsUp l text (-1) sigs <;> cases decide (quorumP l.length ≤ sigs.length) <;> cases decide (sigs.length ≤ 16) <;> rfl
theorem provesB_1 {e : Int} {l : List Int} (h : rightB e l = false) (text : ByteArray) (sigs : List Sg) : provesB e l text sigs = false := by simp [provesB, h]
theorem provesB_2 {e : Int} {l : List Int} {sigs : List Sg} (h : ¬ sigs.length ≤ 16) (text : ByteArray) : provesB e l text sigs = false := by simp [provesB, h]
theorem provesB_3 {e : Int} {l : List Int} {sigs : List Sg} (h : ¬ quorumP l.length ≤ sigs.length) (text : ByteArray) : provesB e l text sigs = false := by simp [provesB, h]
theorem provesB_4 {e : Int} {l : List Int} {sigs : List Sg} (h : rightB e l = true) (h2 : sigs.length ≤ 16) (h3 : quorumP l.length ≤ sigs.length) (text : ByteArray) : provesB e l text sigs = sigsUp l text (-1) sigs := by simp [provesB, h, h2, h3]
end Go.Proofs.Ytfhbjajhmegdmaa
