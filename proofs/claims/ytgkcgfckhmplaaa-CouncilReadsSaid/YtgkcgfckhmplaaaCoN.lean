/- Walks of the council's numbers (Faults, Quorum, Weak), of the program and of the reference. -/
import Derived.Test.YtgkcgfckhmplaaaRows
import Derived.WalkKit
import Derived.WalkSpells
import Derived.WalkLawsBesides
import Derived.Lib.Hide
import Derived.Test.YtgkcgfckhmplaaaNum
namespace Go.Proofs.Ytgkcgfckhmplaaa
open Go.RowKit

set_option maxHeartbeats 400000 in
theorem faults_any (n : Int) (w : World) (h1 : -9223372036854775808 ≤ n) (h2 : n ≤ 9223372036854775807) :
    Calls Try.prog 12 #[.int .i64 n] w fun e w' => e = .returned (.int .i64 (faultsP n)) ∧ w = w' := by
  by_cases h : n < 1
  · go_enter Try.func12, Try.ntmps12
    go_wp2
    go_ret
    exact ⟨by rw [faultsP_lo n (by omega)]; rfl, rfl⟩
  · go_enter Try.func12, Try.ntmps12
    go_wp2
    go_ret
    exact ⟨by rw [faultsP_hi n (by omega)]; rfl, rfl⟩

set_option maxHeartbeats 400000 in
theorem rfaults_any (n : Int) (w : World) (h1 : -9223372036854775808 ≤ n) (h2 : n ≤ 9223372036854775807) :
    Calls Try.prog 13 #[.int .i64 n] w fun e w' => e = .returned (.int .i64 (faultsP n)) ∧ w = w' := by
  by_cases h : n < 1
  · go_enter Try.func13, Try.ntmps13
    go_wp2
    go_ret
    exact ⟨by rw [faultsP_lo n (by omega)]; rfl, rfl⟩
  · go_enter Try.func13, Try.ntmps13
    go_wp2
    go_ret
    exact ⟨by rw [faultsP_hi n (by omega)]; rfl, rfl⟩

set_option maxHeartbeats 400000 in
theorem quorum_any (n : Int) (w : World) (h1 : -9223372036854775808 ≤ n) (h2 : n ≤ 9223372036854775807) :
    Calls Try.prog 14 #[.int .i64 n] w fun e w' => e = .returned (.int .i64 (quorumP n)) ∧ w = w' := by
  by_cases h : n < 1
  · go_enter Try.func14, Try.ntmps14
    go_wp2
    go_ret
    exact ⟨by rw [quorumP_lo n (by omega)]; rfl, rfl⟩
  · obtain ⟨f0, f1⟩ := faultsP_bd n h
    go_enter Try.func14, Try.ntmps14
    go_wp2_with (go_at_call 12; refine (faults_any _ _ h1 h2).mono ?_; rintro e w' ⟨rfl, rfl⟩)
    go_ret
    exact ⟨by rw [quorumP_hi n (by omega)]; rfl, rfl⟩

set_option maxHeartbeats 400000 in
theorem weak_any (n : Int) (w : World) (h1 : -9223372036854775808 ≤ n) (h2 : n ≤ 9223372036854775807) :
    Calls Try.prog 16 #[.int .i64 n] w fun e w' => e = .returned (.int .i64 (weakP n)) ∧ w = w' := by
  by_cases h : n < 1
  · go_enter Try.func16, Try.ntmps16
    go_wp2
    go_ret
    exact ⟨by rw [weakP_lo n (by omega)]; rfl, rfl⟩
  · obtain ⟨f0, f1⟩ := faultsP_bd n h
    go_enter Try.func16, Try.ntmps16
    go_wp2_with (go_at_call 12; refine (faults_any _ _ h1 h2).mono ?_; rintro e w' ⟨rfl, rfl⟩)
    go_ret
    exact ⟨by rw [weakP_hi n (by omega)]; rfl, rfl⟩

set_option maxHeartbeats 400000 in
theorem rweak_any (n : Int) (w : World) (h1 : -9223372036854775808 ≤ n) (h2 : n ≤ 9223372036854775807) :
    Calls Try.prog 17 #[.int .i64 n] w fun e w' => e = .returned (.int .i64 (weakP n)) ∧ w = w' := by
  by_cases h : n < 1
  · go_enter Try.func17, Try.ntmps17
    go_wp2
    go_ret
    exact ⟨by rw [weakP_lo n (by omega)]; rfl, rfl⟩
  · obtain ⟨f0, f1⟩ := faultsP_bd n h
    go_enter Try.func17, Try.ntmps17
    go_wp2_with (go_at_call 13; refine (rfaults_any _ _ h1 h2).mono ?_; rintro e w' ⟨rfl, rfl⟩)
    go_ret
    exact ⟨by rw [weakP_hi n (by omega)]; rfl, rfl⟩

set_option maxHeartbeats 400000 in
theorem rquorum_any (n : Int) (w : World) (h1 : -9223372036854775808 ≤ n) (h2 : n ≤ 9223372036854775807) :
    Calls Try.prog 15 #[.int .i64 n] w fun e w' => e = .returned (.int .i64 (quorumP n)) ∧ w = w' := by
  by_cases h : n < 1
  · go_enter Try.func15, Try.ntmps15
    go_wp2
    go_ret
    exact ⟨by rw [quorumP_lo n (by omega)]; rfl, rfl⟩
  · obtain ⟨f0, f1⟩ := faultsP_bd n h
    go_enter Try.func15, Try.ntmps15
    go_wp2_with (go_at_call 13; refine (rfaults_any _ _ h1 h2).mono ?_; rintro e w' ⟨rfl, rfl⟩)
    go_ret
    exact ⟨by rw [quorumP_eq n (by omega)]; rfl, rfl⟩
end Go.Proofs.Ytgkcgfckhmplaaa
