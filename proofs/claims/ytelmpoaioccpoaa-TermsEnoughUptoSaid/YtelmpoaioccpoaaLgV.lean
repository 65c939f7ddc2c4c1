
/- Walks of lineage.Valid and of the reference's. -/
import Derived.Test.YtelmpoaioccpoaaPvR
import Derived.Test.YtelmpoaioccpoaaTxW
namespace Go.Proofs.Ytelmpoaioccpoaa
set_option maxRecDepth 100000
open Go.RowKit
set_option linter.unusedVariables false

/-- Which link is good behind which configuration. -/
def validC (e0 : Int) (l0 : List Int) (e1 : Int) (l1 : List Int) (sigs : List Sg) : Int :=
  if rightB e0 l0 = true ∧ rightB e1 l1 = true then (if e1 = e0 + 1 then (if provesB e0 l0 (textS e1 l1) sigs = true then 0 else 15) else 12) else 1
theorem textE_yes {e : Int} {l : List Int} (h : rightB e l = true) : textE e l = 0 := by rw [textE, if_pos h]
theorem textE_no {e : Int} {l : List Int} (h : rightB e l = false) : textE e l = 1 := by rw [textE, if_neg (by simp [h])]
theorem validC_old {e0 : Int} {l0 : List Int} (h : rightB e0 l0 = false) (e1 : Int) (l1 : List Int) (sigs : List Sg) : validC e0 l0 e1 l1 sigs = 1 := by rw [validC, if_neg (by simp [h])]
theorem validC_new {e1 : Int} {l1 : List Int} (h : rightB e1 l1 = false) (e0 : Int) (l0 : List Int) (sigs : List Sg) : validC e0 l0 e1 l1 sigs = 1 := by rw [validC, if_neg (by simp [h])]
theorem validC_epoch {e0 e1 : Int} {l0 l1 : List Int} (h0 : rightB e0 l0 = true) (h1 : rightB e1 l1 = true) (h : ¬ e1 = e0 + 1) (sigs : List Sg) : validC e0 l0 e1 l1 sigs = 12 := by rw [validC, if_pos ⟨h0, h1⟩, if_neg h]
theorem validC_end {e0 e1 : Int} {l0 l1 : List Int} (h0 : rightB e0 l0 = true) (h1 : rightB e1 l1 = true) (h : e1 = e0 + 1) (sigs : List Sg) : validC e0 l0 e1 l1 sigs = if provesB e0 l0 (textS e1 l1) sigs = true then 0 else 15 := by rw [validC, if_pos ⟨h0, h1⟩, if_pos h]

section
variable {w0 w w' : World} {e0 e1 : Int} {a0 a1 sa : Option Addr} {n0 c0 n1 c1 sn sc : Nat} {l0 l1 : List Int} {sigs : List Sg}
end

end Go.Proofs.Ytelmpoaioccpoaa

/- Walk of the reference's Valid. -/
namespace Go.Proofs.Ytelmpoaioccpoaa
set_option maxRecDepth 100000
open Go.RowKit
set_option linter.unusedVariables false

end Go.Proofs.Ytelmpoaioccpoaa
