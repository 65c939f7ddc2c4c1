
/- Walks of the council's numbers (Faults, Quorum, Weak), of the program and of the reference. -/
import Derived.Test.YtelmpoaioccpoaaRows
import Derived.WalkKit
import Derived.WalkSpells
import Derived.WalkLawsBesides
import Derived.Lib.Hide
import Derived.Test.YtelmpoaioccpoaaNum
namespace Go.Proofs.Ytelmpoaioccpoaa
set_option maxRecDepth 100000
open Go.RowKit

set_option maxHeartbeats 400000 in
theorem faults_any (n : Int) (w : World) (h1 : -9223372036854775808 ≤ n) (h2 : n ≤ 9223372036854775807) :
    Calls Try.prog 20 #[.int .i64 n] w fun e w' => e = .returned (.int .i64 (faultsP n)) ∧ w = w' := by
  by_cases h : n < 1
  · go_enter Try.func20, Try.ntmps20
    go_wp2
    go_ret
    exact ⟨by rw [faultsP_lo n (by omega)]; rfl, rfl⟩
  · go_enter Try.func20, Try.ntmps20
    go_wp2
    go_ret
    exact ⟨by rw [faultsP_hi n (by omega)]; rfl, rfl⟩

set_option maxHeartbeats 400000 in
theorem rfaults_any (n : Int) (w : World) (h1 : -9223372036854775808 ≤ n) (h2 : n ≤ 9223372036854775807) :
    Calls Try.prog 39 #[.int .i64 n] w fun e w' => e = .returned (.int .i64 (faultsP n)) ∧ w = w' := by
  by_cases h : n < 1
  · go_enter Try.func39, Try.ntmps39
    go_wp2
    go_ret
    exact ⟨by rw [faultsP_lo n (by omega)]; rfl, rfl⟩
  · go_enter Try.func39, Try.ntmps39
    go_wp2
    go_ret
    exact ⟨by rw [faultsP_hi n (by omega)]; rfl, rfl⟩

set_option maxHeartbeats 400000 in
theorem quorum_any (n : Int) (w : World) (h1 : -9223372036854775808 ≤ n) (h2 : n ≤ 9223372036854775807) :
    Calls Try.prog 18 #[.int .i64 n] w fun e w' => e = .returned (.int .i64 (quorumP n)) ∧ w = w' := by
  by_cases h : n < 1
  · go_enter Try.func18, Try.ntmps18
    go_wp2
    go_ret
    exact ⟨by rw [quorumP_lo n (by omega)]; rfl, rfl⟩
  · obtain ⟨f0, f1⟩ := faultsP_bd n h
    go_enter Try.func18, Try.ntmps18
    go_wp2_with (go_at_call 20; refine (faults_any _ _ h1 h2).mono ?_; rintro e w' ⟨rfl, rfl⟩)
    go_ret
    exact ⟨by rw [quorumP_hi n (by omega)]; rfl, rfl⟩

set_option maxHeartbeats 400000 in
theorem weak_any (n : Int) (w : World) (h1 : -9223372036854775808 ≤ n) (h2 : n ≤ 9223372036854775807) :
    Calls Try.prog 19 #[.int .i64 n] w fun e w' => e = .returned (.int .i64 (weakP n)) ∧ w = w' := by
  by_cases h : n < 1
  · go_enter Try.func19, Try.ntmps19
    go_wp2
    go_ret
    exact ⟨by rw [weakP_lo n (by omega)]; rfl, rfl⟩
  · obtain ⟨f0, f1⟩ := faultsP_bd n h
    go_enter Try.func19, Try.ntmps19
    go_wp2_with (go_at_call 20; refine (faults_any _ _ h1 h2).mono ?_; rintro e w' ⟨rfl, rfl⟩)
    go_ret
    exact ⟨by rw [weakP_hi n (by omega)]; rfl, rfl⟩


set_option maxHeartbeats 400000 in
theorem rquorum_any (n : Int) (w : World) (h1 : -9223372036854775808 ≤ n) (h2 : n ≤ 9223372036854775807) :
    Calls Try.prog 32 #[.int .i64 n] w fun e w' => e = .returned (.int .i64 (quorumP n)) ∧ w = w' := by
  by_cases h : n < 1
  · go_enter Try.func32, Try.ntmps32
    go_wp2
    go_ret
    exact ⟨by rw [quorumP_lo n (by omega)]; rfl, rfl⟩
  · obtain ⟨f0, f1⟩ := faultsP_bd n h
    go_enter Try.func32, Try.ntmps32
    go_wp2_with (go_at_call 39; refine (rfaults_any _ _ h1 h2).mono ?_; rintro e w' ⟨rfl, rfl⟩)
    go_ret
    exact ⟨by rw [quorumP_eq n (by omega)]; rfl, rfl⟩
end Go.Proofs.Ytelmpoaioccpoaa
