
/- Walks of the program's reader: number. -/
import Derived.Test.YtfhbjajhmegdmaaRows
import Derived.Test.YtfhbjajhmegdmaaRdM
import Derived.Deep.QuietTactic
import Derived.BigQuiet
namespace Go.Proofs.Ytfhbjajhmegdmaa
set_option maxRecDepth 100000
open Go.RowKit
set_option linter.unusedVariables false


end Go.Proofs.Ytfhbjajhmegdmaa

/- Walks of the readers: Byte, Word, Left, Read of the program; Bits, Num, End of the reference. -/
namespace Go.Proofs.Ytfhbjajhmegdmaa
set_option maxRecDepth 100000
open Go.RowKit
set_option linter.unusedVariables false

theorem rVal_lt (s : R) (k : Nat) : rVal s k < 256 ^ k := by
  unfold rVal
  split
  · exact Nat.pos_of_ne_zero (by simp)
  · have := valBE_lt (s.rest.take k)
    exact Nat.lt_of_lt_of_le this (Nat.pow_le_pow_right (by omega) (by rw [List.length_take]; exact Nat.min_le_left _ _))








/-- How a reading ends. -/
def endE (s : R) : Int := if s.bad = true then 2 else if 0 < s.rest.length then 5 else 0

end Go.Proofs.Ytfhbjajhmegdmaa
