
/- Walks of the council's numbers (Faults, Quorum, Weak), of the program and of the reference. -/
import Derived.Test.YtfhbjajhmegdmaaRows
import Derived.WalkKit
import Derived.WalkSpells
import Derived.WalkLawsBesides
import Derived.Lib.Hide
import Derived.Test.YtfhbjajhmegdmaaNum
namespace Go.Proofs.Ytfhbjajhmegdmaa
set_option maxRecDepth 100000
open Go.RowKit

set_option maxHeartbeats 400000 in
theorem faults_any (n : Int) (w : World) (h1 : -9223372036854775808 ≤ n) (h2 : n ≤ 9223372036854775807) :
    Calls Try.prog 22 #[.int .i64 n] w fun e w' => e = .returned (.int .i64 (faultsP n)) ∧ w = w' := by
  by_cases h : n < 1
  · go_enter Try.func22, Try.ntmps22
    go_wp2
    go_ret
    exact ⟨by rw [faultsP_lo n (by omega)]; rfl, rfl⟩
  · go_enter Try.func22, Try.ntmps22
    go_wp2
    go_ret
    exact ⟨by rw [faultsP_hi n (by omega)]; rfl, rfl⟩

set_option maxHeartbeats 400000 in
theorem rfaults_any (n : Int) (w : World) (h1 : -9223372036854775808 ≤ n) (h2 : n ≤ 9223372036854775807) :
    Calls Try.prog 53 #[.int .i64 n] w fun e w' => e = .returned (.int .i64 (faultsP n)) ∧ w = w' := by
  by_cases h : n < 1
  · go_enter Try.func53, Try.ntmps53
    go_wp2
    go_ret
    exact ⟨by rw [faultsP_lo n (by omega)]; rfl, rfl⟩
  · go_enter Try.func53, Try.ntmps53
    go_wp2
    go_ret
    exact ⟨by rw [faultsP_hi n (by omega)]; rfl, rfl⟩

set_option maxHeartbeats 400000 in
theorem quorum_any (n : Int) (w : World) (h1 : -9223372036854775808 ≤ n) (h2 : n ≤ 9223372036854775807) :
    Calls Try.prog 26 #[.int .i64 n] w fun e w' => e = .returned (.int .i64 (quorumP n)) ∧ w = w' := by
  by_cases h : n < 1
  · go_enter Try.func26, Try.ntmps26
    go_wp2
    go_ret
    exact ⟨by rw [quorumP_lo n (by omega)]; rfl, rfl⟩
  · obtain ⟨f0, f1⟩ := faultsP_bd n h
    go_enter Try.func26, Try.ntmps26
    go_wp2_with (go_at_call 22; refine (faults_any _ _ h1 h2).mono ?_; rintro e w' ⟨rfl, rfl⟩)
    go_ret
    exact ⟨by rw [quorumP_hi n (by omega)]; rfl, rfl⟩



set_option maxHeartbeats 400000 in
theorem rquorum_any (n : Int) (w : World) (h1 : -9223372036854775808 ≤ n) (h2 : n ≤ 9223372036854775807) :
    Calls Try.prog 40 #[.int .i64 n] w fun e w' => e = .returned (.int .i64 (quorumP n)) ∧ w = w' := by
  by_cases h : n < 1
  · go_enter Try.func40, Try.ntmps40
    go_wp2
    go_ret
    exact ⟨by rw [quorumP_lo n (by omega)]; rfl, rfl⟩
  · obtain ⟨f0, f1⟩ := faultsP_bd n h
    go_enter Try.func40, Try.ntmps40
    go_wp2_with (go_at_call 53; refine (rfaults_any _ _ h1 h2).mono ?_; rintro e w' ⟨rfl, rfl⟩)
    go_ret
    exact ⟨by rw [quorumP_eq n (by omega)]; rfl, rfl⟩
end Go.Proofs.Ytfhbjajhmegdmaa
