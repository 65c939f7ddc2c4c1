
/- A tracker that isn't there. -/
import Derived.Test.YtdeomokhjmnfhaaTr6
namespace Go.Proofs.Ytdeomokhjmnfhaa
open Go.RowKit
set_option linter.unusedVariables false

set_option maxHeartbeats 1000000 in
theorem epoch_nil (w : World) : Calls Try.prog 14 #[.pointer none] w fun r w' => r = .returned (.int .i64 0) ∧ w = w' := by
  go_enter Try.func14, Try.ntmps14
  go_wp2_with fail
  go_ret
  exact ⟨rfl, rfl⟩
set_option maxHeartbeats 1000000 in
theorem chain_nil (w : World) : Calls Try.prog 13 #[.pointer none] w fun r w' => r = .returned (.slice none 0 0) ∧ w = w' := by
  go_enter Try.func13, Try.ntmps13
  go_wp2_with fail
  go_ret
  exact ⟨rfl, rfl⟩
set_option maxHeartbeats 1000000 in
theorem take_nil (v : Value) (w : World) : Calls Try.prog 18 #[.pointer none, v] w fun r w' => r = .returned (.int .i64 1) ∧ w = w' := by
  go_enter Try.func18, Try.ntmps18
  go_wp2_with fail
  go_ret
  exact ⟨rfl, rfl⟩
set_option maxHeartbeats 1000000 in
theorem add_nil (e : Int) (a : Option Addr) (n c : Nat) (sa : Option Addr) (sn sc : Nat) (w : World) : Calls Try.prog 25 #[.pointer none, .agg #[.int .i64 e, .slice a n c, .slice sa sn sc]] w fun r w' => r = .returned (.int .i64 1) ∧ Below w.heap.size w w' := by
  go_enter Try.func25, Try.ntmps25
  go_wp2_with fail
  go_ret
  exact ⟨rfl, below_alloc _ _⟩
set_option maxHeartbeats 1000000 in
theorem at_nil (x : Int) (w : World) : Calls Try.prog 24 #[.pointer none, .int .i64 x] w fun r w' => r = .returned (.tuple #[.agg #[.int .i64 0, .slice none 0 0], .bool false]) ∧ Below w.heap.size w w' := by
  obtain ⟨wa, hwa⟩ : ∃ wa, wa = w.alloc (.cells #[.int .i64 0, .slice none 0 0] 24) := ⟨_, rfl⟩
  have ba : Below w.heap.size w wa := by rw [hwa]; exact below_alloc _ _
  have kx : wa.heap[w.heap.size]? = some (.cells #[.int .i64 0, .slice none 0 0] 24 (0, 0)) := by rw [hwa]; exact blk_alloc _ _
  have x0 : wa.cell? ⟨w.heap.size, 0, none⟩ = some (.int .i64 0) := by rw [blk_cell kx]; rfl
  have x1 : wa.cell? ⟨w.heap.size, 1, none⟩ = some (.slice none 0 0) := by rw [blk_cell kx]; rfl
  go_enter Try.func24, Try.ntmps24
  go_wp2_with fail
  rw [← hwa]
  clear hwa
  exact bodyPost_ret (v := .tuple #[.agg #[.int .i64 0, .slice none 0 0], .bool false]) (by simp [results, Try.results24, go_sem, x0, x1]) rfl ⟨rfl, ba⟩
end Go.Proofs.Ytdeomokhjmnfhaa
