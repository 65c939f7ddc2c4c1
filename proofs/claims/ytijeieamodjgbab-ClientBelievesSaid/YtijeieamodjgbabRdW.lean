
/- Walks of the program's reader: number. -/
import Derived.Test.YtijeieamodjgbabRows
import Derived.Test.YtijeieamodjgbabPkM
import Derived.Deep.QuietTactic
import Derived.BigQuiet
import Derived.Test.YtijeieamodjgbabPkW

namespace Go.Proofs.Ytijeieamodjgbab
set_option maxRecDepth 100000
open Go.RowKit
set_option linter.unusedVariables false

end Go.Proofs.Ytijeieamodjgbab

/- Walks of the readers: Byte, Word, Left, Read of the program; Bits, Num, End of the reference. -/
namespace Go.Proofs.Ytijeieamodjgbab
set_option maxRecDepth 100000
open Go.RowKit
set_option linter.unusedVariables false

/-- How a reading ends. -/
def endE (s : R) : Int := if s.bad = true then 2 else if 0 < s.rest.length then 5 else 0

end Go.Proofs.Ytijeieamodjgbab

/- Writers and readers that aren't there: what is nil answers nothing and does nothing. -/
namespace Go.Proofs.Ytijeieamodjgbab
set_option maxRecDepth 100000
open Go.RowKit
set_option linter.unusedVariables false

end Go.Proofs.Ytijeieamodjgbab

/- Walks of the readers' Text, and of Long and Bits. -/
namespace Go.Proofs.Ytijeieamodjgbab
set_option maxRecDepth 100000
open Go.RowKit
set_option linter.unusedVariables false

/-- A text that is read; what is left then. -/
def tBad (s : R) : Prop := (rNext s 2).bad = true ∨ (rNext s 2).rest.length < rVal s 2
instance (s : R) : Decidable (tBad s) := inferInstanceAs (Decidable (_ ∨ _))
def tVal (s : R) : List UInt8 := if tBad s then [] else (rNext s 2).rest.take (rVal s 2)
def tNext (s : R) : R := if tBad s then ⟨s.rest, true⟩ else ⟨(rNext s 2).rest.drop (rVal s 2), false⟩
theorem tNext_bad {s : R} (h : tBad s) : tNext s = ⟨s.rest, true⟩ := by rw [tNext, if_pos h]
theorem tVal_ok {s : R} (h : ¬ tBad s) : tVal s = (rNext s 2).rest.take (rVal s 2) := by rw [tVal, if_neg h]
theorem tNext_ok {s : R} (h : ¬ tBad s) : tNext s = ⟨(rNext s 2).rest.drop (rVal s 2), false⟩ := by rw [tNext, if_neg h]
end Go.Proofs.Ytijeieamodjgbab

/- Walk of the reference's Text. -/
namespace Go.Proofs.Ytijeieamodjgbab
set_option maxRecDepth 100000
open Go.RowKit
set_option linter.unusedVariables false

end Go.Proofs.Ytijeieamodjgbab
