
/- Plain numbers of the layer council: faults, quorum, weak quorum; no program in sight. -/
import Derived.WalkKit
namespace Go.Proofs.Ytfhbjajhmegdmaa
set_option maxRecDepth 100000

def faultsP (n : Int) : Int := if n < 1 then 0 else (n - 1) / 3
def quorumP (n : Int) : Int := if n < 1 then 0 else faultsP n + (n - faultsP n) / 2 + 1
def weakP (n : Int) : Int := if n < 1 then 0 else faultsP n + 1

theorem faultsP_lo (n : Int) (h : n < 1) : faultsP n = 0 := by unfold faultsP; rw [if_pos h]
theorem faultsP_hi (n : Int) (h : ¬ n < 1) : faultsP n = (n - 1) / 3 := by unfold faultsP; rw [if_neg h]
theorem quorumP_lo (n : Int) (h : n < 1) : quorumP n = 0 := by unfold quorumP; rw [if_pos h]
theorem quorumP_hi (n : Int) (h : ¬ n < 1) : quorumP n = faultsP n + (n - faultsP n) / 2 + 1 := by unfold quorumP; rw [if_neg h]
theorem weakP_lo (n : Int) (h : n < 1) : weakP n = 0 := by unfold weakP; rw [if_pos h]
theorem weakP_hi (n : Int) (h : ¬ n < 1) : weakP n = faultsP n + 1 := by unfold weakP; rw [if_neg h]
theorem faultsP_bd (n : Int) (h : ¬ n < 1) : 0 ≤ faultsP n ∧ 3 * faultsP n ≤ n - 1 := by
  rw [faultsP_hi n h]; omega
theorem quorumP_eq (n : Int) (h : ¬ n < 1) : quorumP n = n / 2 + (n % 2 + faultsP n % 2) / 2 + faultsP n / 2 + 1 := by
  rw [quorumP_hi n h, faultsP_hi n h]; omega
end Go.Proofs.Ytfhbjajhmegdmaa
