
/- Walks of the reference's writer: put, big. -/
import Derived.Test.YtelmpoaioccpoaaPkW
namespace Go.Proofs.Ytelmpoaioccpoaa
set_option maxRecDepth 100000
open Go.RowKit
set_option linter.unusedVariables false


end Go.Proofs.Ytelmpoaioccpoaa

/- Walks of the reference's writer: big, Num, Done, New. -/
namespace Go.Proofs.Ytelmpoaioccpoaa
set_option maxRecDepth 100000
open Go.RowKit
set_option linter.unusedVariables false

theorem beN_succ : ∀ (k n : Nat), beN n (k + 1) = UInt8.ofNat (n / 256 ^ k % 256) :: beN n k
  | 0, n => by simp [beN]
  | k + 1, n => by
    rw [beN, beN_succ k (n / 256), Nat.div_div_eq_div_mul, ← Nat.pow_succ', beN]; rfl


theorem pow4 (k : Nat) (h : k ≤ 4) : ((256 ^ k : Nat) : Int) ≤ 4294967296 := by
  have : k = 0 ∨ k = 1 ∨ k = 2 ∨ k = 3 ∨ k = 4 := by omega
  rcases this with rfl | rfl | rfl | rfl | rfl <;> decide



end Go.Proofs.Ytelmpoaioccpoaa
