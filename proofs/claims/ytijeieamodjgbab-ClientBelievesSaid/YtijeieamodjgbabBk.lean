
/- The book of signatures: New, Note, Has, Len. -/
import Derived.Test.YtijeieamodjgbabMp
import Derived.Test.YtijeieamodjgbabQuiet
import Derived.Test.YtijeieamodjgbabNews
import Derived.Deep.RegionHeld3
import Derived.Deep.DeepCutAuto
import Derived.Test.YtijeieamodjgbabCoW

namespace Go.Proofs.Ytijeieamodjgbab
set_option maxRecDepth 100000
open Go.RowKit Go.Maps
set_option linter.unusedVariables false
set_option linter.unusedSimpArgs false

structure Cnt (D : DataW Unit) (l : List Sg) (N : Nat) : Prop where
  size : Maps.size D = l.length
  at0 : ∀ s, sgOk s → ∃ c : Nat, D.atKey (sgL s) (li 0) = li c ∧ (0 < c ↔ s ∈ l) ∧ c ≤ N
  has : ∀ s, sgOk s → Maps.has D (sgL s) = decide (s ∈ l)
theorem Cnt.empty : Cnt (.map []) [] 0 := ⟨rfl, fun s hs => ⟨0, rfl, by simp, Nat.le_refl _⟩, fun s hs => by rfl⟩
theorem Cnt.mono {D : DataW Unit} {l : List Sg} {N N' : Nat} (h : Cnt D l N) (hN : N ≤ N') : Cnt D l N' := ⟨h.size, fun s hs => by
  obtain ⟨c, h1, h2, h3⟩ := h.at0 s hs
  exact ⟨c, h1, h2, by omega⟩, h.has⟩
theorem Cnt.put {D : DataW Unit} {l : List Sg} {N : Nat} {s : Sg} (h : Cnt D l N) (T : Tidy D) (hs : sgOk s) {c : Nat} (hc : D.atKey (sgL s) (li 0) = li c) :
    Cnt (D.put (sgL s) (li (c + 1))) (if s ∈ l then l else l ++ [s]) (N + 1) := by
  have hk : WideAt.IsKeyLit (sgL s) := sigK.key (sgKey s hs)
  obtain ⟨c', h1, h2, h3⟩ := h.at0 s hs
  rw [hc] at h1
  have hcc : c = c' := by
    have h1' : ((c : Nat) : Int) = c' := by simpa using h1
    omega
  subst hcc
  have hmem : ∀ s', s' ∈ (if s ∈ l then l else l ++ [s]) ↔ s' = s ∨ s' ∈ l := fun s' => by
    by_cases hm : s ∈ l
    · rw [if_pos hm]
      exact ⟨.inr, fun h => h.elim (fun e => e ▸ hm) id⟩
    · rw [if_neg hm]; simp [or_comm]
  refine ⟨?_, fun s' hs' => ?_, fun s' hs' => ?_⟩
  · rw [size_put T, h.has s hs]
    by_cases hm : s ∈ l
    · simp [hm, h.size]
    · simp [hm, h.size]
  · by_cases he : s' = s
    · subst he
      refine ⟨c + 1, ?_, ?_, by omega⟩
      · rw [atKey_put_same T.isMap hk]; rfl
      · rw [hmem]; simp
    · obtain ⟨c2, g1, g2, g3⟩ := h.at0 s' hs'
      refine ⟨c2, ?_, ?_, by omega⟩
      · rw [atKey_put_other (fun e => he (sgL_inj hs' hs e))]; exact g1
      · rw [hmem, g2]; simp [he]
  · by_cases he : s' = s
    · subst he
      rw [has_put_same T.isMap hk]; simp [hmem]
    · rw [has_put_other (fun e => he (sgL_inj hs' hs e)), h.has s' hs']
      simp [hmem, he]

end Go.Proofs.Ytijeieamodjgbab

/- The book of signatures: Has, Len, Derivable; a book that isn't there. -/
namespace Go.Proofs.Ytijeieamodjgbab
set_option maxRecDepth 100000
open Go.RowKit Go.Maps
set_option linter.unusedVariables false
set_option linter.unusedSimpArgs false

end Go.Proofs.Ytijeieamodjgbab
