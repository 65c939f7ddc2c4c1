
/- Request of an Ask; lives of witanlaw11. -/
import Derived.Test.YtijeieamodjgbabDh
import Derived.StillTailTactics

namespace Go.Proofs.Ytijeieamodjgbab
set_option maxRecDepth 100000
open Go.RowKit
set_option linter.unusedVariables false
set_option linter.unusedSimpArgs false
attribute [local go_sem] run_store_float

/-- An Ask's value. -/
def Rq.ask (r : Rq) : Value := .agg #[.int .i64 r.c, .int .i64 r.s, .int .i64 r.kind, .string r.key, .int .u64 r.b, .int .i64 r.id]
set_option maxHeartbeats 400000 in
theorem request_any (r : Rq) (w : World) : Calls Try.prog 17 #[r.ask] w fun e w' => e = .returned r.v ∧ Below w.heap.size w w' := by
  obtain ⟨c, s, kind, key, b, id⟩ := r
  unfold Rq.ask Rq.v
  dsimp only
  have hf := frombits_run (b : Int)
  rw [show ((b : Int)).toNat = b by omega] at hf
  have hsz : (w.alloc (.cells #[.int .i64 c, .int .i64 s, .int .i64 kind, .string key, .int .u64 b, .int .i64 id] 43)).heap.size = w.heap.size + 1 := by simp
  have hres := blk_alloc (w.alloc (.cells #[.int .i64 c, .int .i64 s, .int .i64 kind, .string key, .int .u64 b, .int .i64 id] 43)) (.cells #[.int .i64 0, .int .i64 0, .int .i64 0, .string ⟨#[]⟩, .float .f64 0, .int .i64 0] 35 (0, 0))
  rw [hsz] at hres
  have HRES := Lib.hid hres
  have hask := blk_below (blk_alloc w (.cells #[.int .i64 c, .int .i64 s, .int .i64 kind, .string key, .int .u64 b, .int .i64 id] 43 (0, 0))) (below_alloc _ (.cells #[.int .i64 0, .int .i64 0, .int .i64 0, .string ⟨#[]⟩, .float .f64 0, .int .i64 0] 35 (0, 0)))
  have B := Lib.hid (balloc (below_alloc w (.cells #[.int .i64 c, .int .i64 s, .int .i64 kind, .string key, .int .u64 b, .int .i64 id] 43 (0, 0))) (.cells #[.int .i64 0, .int .i64 0, .int .i64 0, .string ⟨#[]⟩, .float .f64 0, .int .i64 0] 35 (0, 0)))
  have HA := Lib.hid hask
  clear hres hask hsz
  go_enter Try.func17, Try.ntmps17
  go_wp2_with fail
  generalize hw1 : (w.alloc (.cells #[.int .i64 c, .int .i64 s, .int .i64 kind, .string key, .int .u64 b, .int .i64 id] 43 (0, 0))).alloc (.cells #[.int .i64 0, .int .i64 0, .int .i64 0, .string ⟨#[]⟩, .float .f64 0, .int .i64 0] 35 (0, 0)) = w1 at *
  clear hw1
  have y0 : w1.cell? ⟨w.heap.size, 0, none⟩ = some (.int .i64 c) := by rw [blk_cell HA.out]; rfl
  have y1 : w1.cell? ⟨w.heap.size, 1, none⟩ = some (.int .i64 s) := by rw [blk_cell HA.out]; rfl
  have y2 : w1.cell? ⟨w.heap.size, 2, none⟩ = some (.int .i64 kind) := by rw [blk_cell HA.out]; rfl
  have y3 : w1.cell? ⟨w.heap.size, 3, none⟩ = some (.string key) := by rw [blk_cell HA.out]; rfl
  have y4 : w1.cell? ⟨w.heap.size, 4, none⟩ = some (.int .u64 b) := by rw [blk_cell HA.out]; rfl
  have y5 : w1.cell? ⟨w.heap.size, 5, none⟩ = some (.int .i64 id) := by rw [blk_cell HA.out]; rfl
  obtain ⟨x0, x1, x2, x3, x4, x5⟩ := rqAt_blk HRES.out
  have f0 : w1.frozen? ⟨w.heap.size + 1, 0, none⟩ = false := blk_frozen HRES.out _
  have f1 : w1.frozen? ⟨w.heap.size + 1, 1, none⟩ = false := blk_frozen HRES.out _
  have f2 : w1.frozen? ⟨w.heap.size + 1, 2, none⟩ = false := blk_frozen HRES.out _
  have f3 : w1.frozen? ⟨w.heap.size + 1, 3, none⟩ = false := blk_frozen HRES.out _
  have f4 : w1.frozen? ⟨w.heap.size + 1, 4, none⟩ = false := blk_frozen HRES.out _
  have f5 : w1.frozen? ⟨w.heap.size + 1, 5, none⟩ = false := blk_frozen HRES.out _
  go_still_tail 15, (by kernel_rfl)
  change wpList _ _ _ _ _ w1.drew
  have HRES2 := Lib.hid (show w1.drew.heap[w.heap.size + 1]? = _ from HRES.out)
  have B2 := Lib.hid (below_drewN B.out 1)
  clear y0 y1 y2 y3 y4 y5 x0 x1 x2 x3 x4 x5 f0 f1 f2 f3 f4 f5
  replace B2 : Hid (Below w.heap.size w w1.drew) := B2
  generalize w1.drew = w2 at *
  obtain ⟨x0, x1, x2, x3, x4, x5⟩ := rqAt_blk HRES2.out
  have f0 : w2.frozen? ⟨w.heap.size + 1, 0, none⟩ = false := blk_frozen HRES2.out _
  have f1 : w2.frozen? ⟨w.heap.size + 1, 1, none⟩ = false := blk_frozen HRES2.out _
  have f2 : w2.frozen? ⟨w.heap.size + 1, 2, none⟩ = false := blk_frozen HRES2.out _
  have f3 : w2.frozen? ⟨w.heap.size + 1, 3, none⟩ = false := blk_frozen HRES2.out _
  have f4 : w2.frozen? ⟨w.heap.size + 1, 4, none⟩ = false := blk_frozen HRES2.out _
  have f5 : w2.frozen? ⟨w.heap.size + 1, 5, none⟩ = false := blk_frozen HRES2.out _
  go_wp2_with fail
  refine bodyPost_ret (v := .agg #[.int .i64 c, .int .i64 s, .int .i64 kind, .string key, .float .f64 b, .int .i64 id]) (by simp [results, Try.results17, go_sem, x0, x1, x2, x3, x4, x5]) rfl ⟨rfl, ?_⟩
  have hp : w.heap.size ≤ w.heap.size + 1 := by omega
  exact (((((B2.out.setCell hp _).setCell hp _).setCell hp _).setCell hp _).setCell hp _).setCell hp _

theorem null_rq (r : Rq) (h : r.Ok) (w : World) : Calls Try.prog 79 #[r.v] w fun e w' => e = .returned (.bool (nullQ r.c r.s r.kind r.key r.b r.id)) ∧ Below w.heap.size w w' := qnull_any _ _ _ _ _ _ w h.c h.s h.kind h.id
end Go.Proofs.Ytijeieamodjgbab
