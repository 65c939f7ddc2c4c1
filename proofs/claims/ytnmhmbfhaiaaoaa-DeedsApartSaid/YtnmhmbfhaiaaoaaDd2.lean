
/- Right and Null of both layers, and of requests. -/
import Derived.Test.YtnmhmbfhaiaaoaaDd
namespace Go.Proofs.Ytnmhmbfhaiaaoaa
set_option maxRecDepth 100000
open Go.RowKit
set_option linter.unusedVariables false
set_option linter.unusedSimpArgs false

def rightQ (c s kind : Int) (key : ByteArray) (b : Nat) (id : Int) : Bool := decide (1 ≤ c ∧ c ≤ 8) && decide (1 ≤ s ∧ s ≤ 1048576) && opB kind key b id
def nullQ (c s kind : Int) (key : ByteArray) (b : Nat) (id : Int) : Bool := decide (c = 0) && decide (s = 0) && decide (kind = 0) && decide (id = 0) && decide (key.size = 0) && noneB b

set_option maxHeartbeats 1000000 in
theorem keyed_any (kind : Int) (key : ByteArray) (b : Nat) (id : Int) (w : World) (hk : key.size ≤ 140737488351232) :
    Calls Try.prog 68 #[.agg #[.int .i64 kind, .string key, .float .f64 b, .int .i64 id]] w fun r w' => r = .returned (.bool (keyB key id)) ∧ Below w.heap.size w w' := by
  obtain ⟨x, hx⟩ : ∃ x, x = keyB key id := ⟨_, rfl⟩
  rw [← hx]
  have HX := Lib.hid hx
  clear hx
  go_enter Try.func68, Try.ntmps68
  go_wp2_with fail
  all_goals
    go_ret
    refine ⟨?_, below_alloc _ _⟩
    rw [HX.out]
    go_light
    clear HX
    first | (simp_all [keyB, beq_dec]; done) | (simp_all [keyB, beq_dec]; omega)
theorem plain_any (kind : Int) (key : ByteArray) (b : Nat) (hb : b < 18446744073709551616) (id : Int) (w : World) :
    Calls Try.prog 50 #[.agg #[.int .i64 kind, .string key, .float .f64 b, .int .i64 id]] w fun r w' => r = .returned (.bool (noneB b)) ∧ Below w.heap.size w w' := by
  obtain ⟨x, hx⟩ : ∃ x, x = noneB b := ⟨_, rfl⟩
  rw [← hx]
  have HX := Lib.hid hx
  clear hx
  go_enter Try.func50, Try.ntmps50
  go_wp2_with (go_at_call 45; refine (bits02_any _ hb _).mono ?_; rintro r w1 ⟨rfl, rfl⟩)
  go_ret
  refine ⟨?_, below_alloc _ _⟩
  rw [HX.out]
  simp [noneB]
  rw [Bool.eq_iff_iff]; simp

set_option maxHeartbeats 2000000 in
theorem oref_any (kind : Int) (key : ByteArray) (b : Nat) (hb : b < 18446744073709551616) (id : Int) (w : World) (hk : key.size ≤ 140737488351232) :
    Calls Try.prog 49 #[.agg #[.int .i64 kind, .string key, .float .f64 b, .int .i64 id]] w fun r w' => r = .returned (.bool (opB kind key b id)) ∧ Below w.heap.size w w' := by
  obtain ⟨x, hx⟩ : ∃ x, x = opB kind key b id := ⟨_, rfl⟩
  rw [← hx]
  have HX := Lib.hid hx
  have CK := Lib.hid (fun (w : World) => keyed_any kind key b id w hk)
  have CP := Lib.hid (fun (w : World) => plain_any kind key b hb id w)
  obtain ⟨kb, hkb⟩ : ∃ kb, kb = keyB key id := ⟨_, rfl⟩
  obtain ⟨nb, hnb⟩ : ∃ nb, nb = noneB b := ⟨_, rfl⟩
  rw [← hkb] at CK
  rw [← hnb] at CP
  have HKB := Lib.hid hkb; have HNB := Lib.hid hnb
  clear hx hkb hnb
  have HC := Lib.hid (show ∀ w', Below (w.alloc (.cells #[.int .i64 kind, .string key, .float .f64 b, .int .i64 id] 28)).heap.size (w.alloc (.cells #[.int .i64 kind, .string key, .float .f64 b, .int .i64 id] 28)) w' → (w'.cell? ⟨w.heap.size, 0, none⟩ = some (.int .i64 kind) ∧ w'.cell? ⟨w.heap.size, 1, none⟩ = some (.string key) ∧ w'.cell? ⟨w.heap.size, 2, none⟩ = some (.float .f64 b) ∧ w'.cell? ⟨w.heap.size, 3, none⟩ = some (.int .i64 id)) ∧ Below w.heap.size w w' from fun w' hb => by
    have := blk_below (blk_alloc _ _) hb
    exact ⟨⟨by rw [blk_cell this]; rfl, by rw [blk_cell this]; rfl, by rw [blk_cell this]; rfl, by rw [blk_cell this]; rfl⟩, bthen (below_alloc _ _) hb⟩)
  have B0 := Lib.hid (Below.refl (w.alloc (.cells #[.int .i64 kind, .string key, .float .f64 b, .int .i64 id] 28)).heap.size (w.alloc (.cells #[.int .i64 kind, .string key, .float .f64 b, .int .i64 id] 28)))
  have hkk : kind = 1 ∨ kind = 2 ∨ kind = 3 ∨ kind = 4 ∨ kind = 5 ∨ kind = 6 ∨ kind = 7 ∨ (kind < 1 ∨ 7 < kind) := by omega
  rcases hkk with rfl | rfl | rfl | rfl | rfl | rfl | rfl | hkk
  iterate 7
    · go_enter Try.func49, Try.ntmps49
      go_wp2_with (first | (go_at_call 68; refine (CK.out _).mono ?_; rintro r w1 ⟨rfl, b1⟩; have B0 := Lib.hid (bthen B0.out b1); clear b1; obtain ⟨⟨x0, x1, x2, x3⟩, -⟩ := HC.out _ B0.out) | (go_at_call 50; refine (CP.out _).mono ?_; rintro r w2 ⟨rfl, b2⟩; have B0 := Lib.hid (bthen B0.out b2); clear b2; obtain ⟨⟨x0, x1, x2, x3⟩, -⟩ := HC.out _ B0.out))
      all_goals
        go_ret
        refine ⟨?_, by first | exact (HC.out _ B0.out).2 | exact below_alloc _ _⟩
        rw [HX.out]
        have e1 := HKB.out
        have e2 := HNB.out
        go_light
        clear HX HKB HNB
        simp only [str_empty] at *
        first | (simp_all [opB, keyB, noneB, noKeyB, beq_dec]; done) | (simp_all [opB, keyB, noneB, noKeyB, beq_dec]; omega)
  · have t1 : (kind == 1) = false := by simp; omega
    have t2 : (kind == 2) = false := by simp; omega
    have t3 : (kind == 3) = false := by simp; omega
    have t4 : (kind == 4) = false := by simp; omega
    have t5 : (kind == 5) = false := by simp; omega
    have t6 : (kind == 6) = false := by simp; omega
    have t7 : (kind == 7) = false := by simp; omega
    have HO := Lib.hid (opB_no hkk key b id)
    clear hkk
    go_enter Try.func49, Try.ntmps49
    go_wp2_with fail
    go_ret
    exact ⟨by rw [HX.out, HO.out]; rfl, below_alloc _ _⟩
end Go.Proofs.Ytnmhmbfhaiaaoaa
