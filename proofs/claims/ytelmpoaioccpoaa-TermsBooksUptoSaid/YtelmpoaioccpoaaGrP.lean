
/- Books grow: plain. -/
import Derived.Test.YtelmpoaioccpoaaVw9
namespace Go.Proofs.Ytelmpoaioccpoaa
set_option maxRecDepth 100000
open Go.RowKit
set_option linter.unusedVariables false
set_option linter.unusedSimpArgs false

theorem note_mem (l more : List Sg) (s : Sg) : s ∈ noteP l more ↔ s ∈ l ∨ s ∈ more := by
  induction more using snoc_ind with
  | h0 => simp [noteP]
  | h1 m x ih =>
    rw [noteP_snoc]
    by_cases h : x ∈ noteP l m
    · rw [if_pos h, ih, List.mem_append, List.mem_singleton]
      constructor
      · rintro (h1 | h1)
        · exact .inl h1
        · exact .inr (.inl h1)
      · rintro (h1 | h1 | rfl)
        · exact .inl h1
        · exact .inr h1
        · exact ih.1 h
    · rw [if_neg h, List.mem_append, ih, List.mem_append, List.mem_singleton, or_assoc]
theorem deriv_mono {l l' : List Sg} {bad bad' : List Int} {sigs : List Sg} (hl : ∀ s, s ∈ l → s ∈ l') (hb : ∀ x, hasB bad x = true → hasB bad' x = true) (h : derivP l bad sigs = true) : derivP l' bad' sigs = true := by
  rw [derivP, List.all_eq_true] at *
  intro s hs
  have := h s hs
  rw [Bool.or_eq_true, decide_eq_true_eq] at *
  exact this.imp (hb _) (hl _)
theorem deriv_none (l : List Sg) (sigs : List Sg) : derivP l [] sigs = sigs.all fun s => decide (s ∈ l) := by simp [derivP, hasB]
theorem hasB_more (l : List Int) (y x : Int) (h : hasB l x = true) : hasB (l ++ [y]) x = true := by rw [hasB_snoc, h]; rfl
end Go.Proofs.Ytelmpoaioccpoaa
