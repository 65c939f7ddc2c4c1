
/- Which operations and requests are right: plain, and walks of both layers. -/
import Derived.Test.YtnmhmbfhaiaaoaaFl
import Derived.Test.YtnmhmbfhaiaaoaaPhase
import Derived.Deep.DeepCutAuto
import Derived.BigGuardPart
import Derived.Deep.Light
namespace Go.Proofs.Ytnmhmbfhaiaaoaa
set_option maxRecDepth 100000
open Go.RowKit
set_option linter.unusedVariables false
set_option linter.unusedSimpArgs false

def keyB (key : ByteArray) (id : Int) : Bool := decide (0 < key.size) && decide (key.size ≤ 16) && decide (id = 0)
def noneB (b : Nat) : Bool := decide (canonB b = 0)
def noKeyB (key : ByteArray) (b : Nat) (id : Int) : Bool := decide (key.size = 0) && noneB b && decide (0 ≤ id) && decide (id < 16)
/-- Which operations are right. -/
def opB (kind : Int) (key : ByteArray) (b : Nat) (id : Int) : Bool :=
  if kind = 1 ∨ kind = 2 ∨ kind = 3 then keyB key id else if kind = 4 ∨ kind = 5 then noneB b && keyB key id else if kind = 6 ∨ kind = 7 then noKeyB key b id else false
theorem opB_key {kind : Int} (h : kind = 1 ∨ kind = 2 ∨ kind = 3) (key : ByteArray) (b : Nat) (id : Int) : opB kind key b id = keyB key id := by rw [opB, if_pos h]
theorem opB_cut {kind : Int} (h : kind = 4 ∨ kind = 5) (key : ByteArray) (b : Nat) (id : Int) : opB kind key b id = (noneB b && keyB key id) := by rw [opB, if_neg (by omega), if_pos h]
theorem opB_join {kind : Int} (h : kind = 6 ∨ kind = 7) (key : ByteArray) (b : Nat) (id : Int) : opB kind key b id = noKeyB key b id := by rw [opB, if_neg (by omega), if_neg (by omega), if_pos h]
theorem opB_no {kind : Int} (h : kind < 1 ∨ 7 < kind) (key : ByteArray) (b : Nat) (id : Int) : opB kind key b id = false := by rw [opB, if_neg (by omega), if_neg (by omega), if_neg (by omega)]

theorem str_empty (s : ByteArray) : s.toList.isEmpty = decide (s.size = 0) := by
  rw [ByteArray.toList_eq]
  obtain ⟨⟨l⟩⟩ := s
  cases l <;> simp [ByteArray.size]
theorem beq_dec (a b : Int) : (a == b) = decide (a = b) := by rw [Bool.eq_iff_iff]; simp
theorem within_any (n lo hi : Int) (w : World) : Calls Try.prog 47 #[.int .i64 n, .int .i64 lo, .int .i64 hi] w fun r w' => r = .returned (.bool (decide (lo ≤ n ∧ n ≤ hi))) ∧ w = w' := by
  obtain ⟨x, hx⟩ : ∃ x, x = decide (lo ≤ n ∧ n ≤ hi) := ⟨_, rfl⟩
  rw [← hx]
  have HX := Lib.hid hx
  clear hx
  go_enter Try.func47, Try.ntmps47
  go_wp2_with fail
  all_goals
    go_ret
    refine ⟨?_, rfl⟩
    rw [HX.out]
    first | (simp [*]; done) | (simp [*]; omega)

set_option maxHeartbeats 1000000 in
theorem dright_any (kind : Int) (key : ByteArray) (b : Nat) (id : Int) (w : World) (hk : key.size ≤ 140737488351232) :
    Calls Try.prog 48 #[.agg #[.int .i64 kind, .string key, .float .f64 b, .int .i64 id]] w fun r w' => r = .returned (.bool (opB kind key b id)) ∧ Below w.heap.size w w' := by
  obtain ⟨x, hx⟩ : ∃ x, x = opB kind key b id := ⟨_, rfl⟩
  rw [← hx]
  have HX := Lib.hid hx
  clear hx
  go_enter Try.func48, Try.ntmps48
  go_wp2_with (go_at_call 39; refine (rbits2_any _ _).mono ?_; rintro r w1 ⟨rfl, rfl⟩)
  all_goals
    go_ret
    refine ⟨?_, below_alloc _ _⟩
    rw [HX.out]
    go_light
    clear HX
    simp only [str_empty] at *
    first | (simp_all [opB, keyB, noneB, noKeyB, beq_dec]; done) | (simp_all [opB, keyB, noneB, noKeyB, beq_dec]; omega)
end Go.Proofs.Ytnmhmbfhaiaaoaa
