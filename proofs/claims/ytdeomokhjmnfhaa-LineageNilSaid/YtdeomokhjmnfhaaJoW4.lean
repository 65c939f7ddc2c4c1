
/- Walks of the reference's Join and Leave, and of SameInts. -/
import Derived.Test.YtdeomokhjmnfhaaJoW3
namespace Go.Proofs.Ytdeomokhjmnfhaa
open Go.RowKit
set_option linter.unusedVariables false

theorem fitsB_cases {l : List Int} {id : Int} (h : fitsB l id = false) : risingB l = false ∨ (risingB l = true ∧ id < 0) ∨ (risingB l = true ∧ ¬ id < 0 ∧ 16 ≤ id) := by
  cases hr : risingB l with
  | false => exact .inl rfl
  | true =>
    simp [fitsB, hr] at h
    by_cases h0 : id < 0
    · exact .inr (.inl ⟨rfl, h0⟩)
    · exact .inr (.inr ⟨rfl, h0, h (by omega)⟩)


end Go.Proofs.Ytdeomokhjmnfhaa
