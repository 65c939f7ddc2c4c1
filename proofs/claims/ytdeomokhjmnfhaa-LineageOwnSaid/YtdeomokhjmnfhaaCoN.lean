
/- Walks of the council's numbers (Faults, Quorum, Weak), of the program and of the reference. -/
import Derived.Test.YtdeomokhjmnfhaaRows
import Derived.WalkKit
import Derived.WalkSpells
import Derived.WalkLawsBesides
import Derived.Lib.Hide
import Derived.Test.YtdeomokhjmnfhaaNum
namespace Go.Proofs.Ytdeomokhjmnfhaa
open Go.RowKit

set_option maxHeartbeats 400000 in
theorem faults_any (n : Int) (w : World) (h1 : -9223372036854775808 ≤ n) (h2 : n ≤ 9223372036854775807) :
    Calls Try.prog 61 #[.int .i64 n] w fun e w' => e = .returned (.int .i64 (faultsP n)) ∧ w = w' := by
  by_cases h : n < 1
  · go_enter Try.func61, Try.ntmps61
    go_wp2
    go_ret
    exact ⟨by rw [faultsP_lo n (by omega)]; rfl, rfl⟩
  · go_enter Try.func61, Try.ntmps61
    go_wp2
    go_ret
    exact ⟨by rw [faultsP_hi n (by omega)]; rfl, rfl⟩

set_option maxHeartbeats 400000 in
theorem rfaults_any (n : Int) (w : World) (h1 : -9223372036854775808 ≤ n) (h2 : n ≤ 9223372036854775807) :
    Calls Try.prog 63 #[.int .i64 n] w fun e w' => e = .returned (.int .i64 (faultsP n)) ∧ w = w' := by
  by_cases h : n < 1
  · go_enter Try.func63, Try.ntmps63
    go_wp2
    go_ret
    exact ⟨by rw [faultsP_lo n (by omega)]; rfl, rfl⟩
  · go_enter Try.func63, Try.ntmps63
    go_wp2
    go_ret
    exact ⟨by rw [faultsP_hi n (by omega)]; rfl, rfl⟩

set_option maxHeartbeats 400000 in
theorem quorum_any (n : Int) (w : World) (h1 : -9223372036854775808 ≤ n) (h2 : n ≤ 9223372036854775807) :
    Calls Try.prog 50 #[.int .i64 n] w fun e w' => e = .returned (.int .i64 (quorumP n)) ∧ w = w' := by
  by_cases h : n < 1
  · go_enter Try.func50, Try.ntmps50
    go_wp2
    go_ret
    exact ⟨by rw [quorumP_lo n (by omega)]; rfl, rfl⟩
  · obtain ⟨f0, f1⟩ := faultsP_bd n h
    go_enter Try.func50, Try.ntmps50
    go_wp2_with (go_at_call 61; refine (faults_any _ _ h1 h2).mono ?_; rintro e w' ⟨rfl, rfl⟩)
    go_ret
    exact ⟨by rw [quorumP_hi n (by omega)]; rfl, rfl⟩



set_option maxHeartbeats 400000 in
theorem rquorum_any (n : Int) (w : World) (h1 : -9223372036854775808 ≤ n) (h2 : n ≤ 9223372036854775807) :
    Calls Try.prog 54 #[.int .i64 n] w fun e w' => e = .returned (.int .i64 (quorumP n)) ∧ w = w' := by
  by_cases h : n < 1
  · go_enter Try.func54, Try.ntmps54
    go_wp2
    go_ret
    exact ⟨by rw [quorumP_lo n (by omega)]; rfl, rfl⟩
  · obtain ⟨f0, f1⟩ := faultsP_bd n h
    go_enter Try.func54, Try.ntmps54
    go_wp2_with (go_at_call 63; refine (rfaults_any _ _ h1 h2).mono ?_; rintro e w' ⟨rfl, rfl⟩)
    go_ret
    exact ⟨by rw [quorumP_eq n (by omega)]; rfl, rfl⟩
end Go.Proofs.Ytdeomokhjmnfhaa
