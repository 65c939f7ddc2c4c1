
/- Walk of four. -/
import Derived.Test.YtdeomokhjmnfhaaTr7
namespace Go.Proofs.Ytdeomokhjmnfhaa
open Go.RowKit
set_option linter.unusedVariables false

set_option maxHeartbeats 1000000 in
theorem four_any (w : World) : Calls Try.prog 27 #[] w fun r w' => ∃ b, r = .returned (.agg #[.int .i64 0, .slice (some ⟨b, 0, none⟩) 4 4]) ∧ SlAt Sh.int w' (some ⟨b, 0, none⟩) 4 4 [0, 1, 2, 3] ∧ Below w.heap.size w w' := by
  go_enter Try.func27, Try.ntmps27
  go_wp2_with fail
  have k1 := blk_alloc w (.cells #[.int .i64 0, .slice (some ⟨w.heap.size + 1, 0, none⟩) 4 4] 24)
  have b2 := below_alloc (w.alloc (.cells #[.int .i64 0, .slice (some ⟨w.heap.size + 1, 0, none⟩) 4 4] 24)) (.cells #[.int .i64 0, .int .i64 1, .int .i64 2, .int .i64 3] 3)
  have k2 := blk_alloc (w.alloc (.cells #[.int .i64 0, .slice (some ⟨w.heap.size + 1, 0, none⟩) 4 4] 24)) (.cells #[.int .i64 0, .int .i64 1, .int .i64 2, .int .i64 3] 3)
  have k3 := blk_below k1 b2
  rw [World.size_alloc] at k2
  have B2 := bthen (below_alloc w _) b2
  generalize World.alloc (World.alloc _ _) _ = w2 at *
  have x0 : w2.cell? ⟨w.heap.size, 0, none⟩ = some (.int .i64 0) := by rw [blk_cell k3]; rfl
  have x1 : w2.cell? ⟨w.heap.size, 1, none⟩ = some (.slice (some ⟨w.heap.size + 1, 0, none⟩) 4 4) := by rw [blk_cell k3]; rfl
  refine bodyPost_ret (v := .agg #[.int .i64 0, .slice (some ⟨w.heap.size + 1, 0, none⟩) 4 4]) (by simp [results, Try.results27, go_sem, x0, x1]) rfl ⟨w.heap.size + 1, rfl, ?_, B2⟩
  refine ⟨rfl, Nat.le_refl _, by decide, by decide, fun h => (by cases h), fun i y hy => ⟨w.heap.size + 1, 0, [.int .i64 y], rfl, ?_, fun j v hv => ?_⟩⟩
  · have hi : i < 4 := (List.getElem?_eq_some_iff.1 hy).1
    obtain rfl | rfl | rfl | rfl : i = 0 ∨ i = 1 ∨ i = 2 ∨ i = 3 := by omega
    all_goals (injection hy with hy; subst hy; exact ⟨rfl, by simp [i64]⟩)
  · have hj : j = 0 := by have := (List.getElem?_eq_some_iff.1 hv).1; simp at this; omega
    subst hj
    injection hv with hv; subst hv
    have hi : i < 4 := (List.getElem?_eq_some_iff.1 hy).1
    obtain rfl | rfl | rfl | rfl : i = 0 ∨ i = 1 ∨ i = 2 ∨ i = 3 := by omega
    all_goals (injection hy with hy; subst hy; rw [blk_cell k2]; rfl)
end Go.Proofs.Ytdeomokhjmnfhaa
