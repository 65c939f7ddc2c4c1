
/- Reals by their bits: plain, and walks of both layers' Bits and From. -/
import Derived.Test.YtnmhmbfhaiaaoaaRows
import Derived.Test.YtnmhmbfhaiaaoaaMem
import Derived.WalkLawsBesides
import Derived.Laws.Externs
import Derived.Deep.QuietTactic
import Derived.BigQuiet
namespace Go.Proofs.Ytnmhmbfhaiaaoaa
set_option maxRecDepth 100000
open Go.RowKit
set_option linter.unusedVariables false
set_option linter.unusedSimpArgs false

/-- Bits of a NaN. -/
def wildB (b : Nat) : Bool := decide (b % 9223372036854775808 / 4503599627370496 = 2047) && decide (b % 4503599627370496 ≠ 0)
/-- A real's bits: those of the one NaN, or its own. -/
def canonB (b : Nat) : Nat := if wildB b = true then 9221120237041090560 else b
theorem canonB_wild {b : Nat} (h : wildB b = true) : canonB b = 9221120237041090560 := by rw [canonB, if_pos h]
theorem canonB_tame {b : Nat} (h : wildB b = false) : canonB b = b := by rw [canonB, if_neg (by simp [h])]
theorem canonB_lt {b : Nat} (h : b < 18446744073709551616) : canonB b < 18446744073709551616 := by
  cases hw : wildB b with
  | true => rw [canonB_wild hw]; decide
  | false => rw [canonB_tame hw]; exact h

theorem read_nan (b : Nat) : (Ieee.double.read b).isNaN = wildB b := by
  have e1 : Ieee.double.signWeight = 9223372036854775808 := by decide +kernel
  have e2 : Ieee.double.binade = 4503599627370496 := by decide +kernel
  have e3 : Ieee.double.infRung = 2047 * 4503599627370496 := by decide +kernel
  unfold Ieee.Format.read
  simp only [e1, e2, e3]
  have hr : b % 9223372036854775808 < 2048 * 4503599627370496 := by omega
  have hm : b % 4503599627370496 = (b % 9223372036854775808) % 4503599627370496 := by omega
  unfold wildB
  rw [hm]
  generalize b % 9223372036854775808 = r at *
  split
  · rename_i h
    rw [show r / 4503599627370496 = 0 by omega]; rfl
  · split
    · rename_i h
      have h1 : decide (r / 4503599627370496 = 2047) = false := by simp; omega
      rw [h1]; rfl
    · split
      · rename_i h
        have h1 : decide (r % 4503599627370496 ≠ 0) = false := by simp; omega
        rw [h1]; simp [Ieee.Datum.isNaN]
      · rename_i h
        have h1 : decide (r % 4503599627370496 ≠ 0) = true := by simp; omega
        have h2 : decide (r / 4503599627370496 = 2047) = true := by simp; omega
        rw [h1, h2]; rfl
theorem order_self (d : Ieee.Datum) : (d.order d == some .eq) = !d.isNaN := by
  cases d with
  | number s m i =>
    show (some (compare _ _) == some Ordering.eq) = true
    simp
  | infinity s => cases s <;> rfl
  | nan s t => rfl
theorem order_bits (b : Nat) : (Ieee.double.order b b != some .eq) = wildB b := by
  have h := order_self (Ieee.double.read b)
  rw [read_nan] at h
  show (!(Ieee.double.order b b == some .eq)) = wildB b
  unfold Ieee.Format.order
  rw [h]; simp

/-- 'x != x', of a real by its bits. -/
theorem run_neq_float (b : Nat) (w : World) : (binOp .neq 26 (.float .f64 b) (.float .f64 b)).run Try.prog w = .ok (.bool (wildB b)) w := by
  simp [binOp, Op.floatCmp, FloatKind.format, order_bits]
theorem bits_run (b : Nat) (w : World) : (callFunc 63 #[.float .f64 b]).run Try.prog w = .ok (.value (.int .u64 b)) w := by
  rw [run_callFunc_extern (e := Extern.MathFloatBits.float64bits) Try.func63 (by kernel_rfl) (by kernel_rfl) (by kernel_rfl) (by kernel_rfl)]
  rfl
theorem frombits_run (n : Int) (w : World) : (callFunc 26 #[.int .u64 n]).run Try.prog w = .ok (.value (.float .f64 n.toNat)) w := by
  rw [run_callFunc_extern (e := Extern.MathFloatBits.float64frombits) Try.func26 (by kernel_rfl) (by kernel_rfl) (by kernel_rfl) (by kernel_rfl)]
  rfl

theorem canon_any (b : Nat) (w : World) : Calls Try.prog 64 #[.float .f64 b] w fun r w' => r = .returned (.float .f64 (canonB b)) ∧ w = w' := by
  have hq : (FloatKind.f64.format.order b b != some Ordering.eq) = wildB b := order_bits b
  have hf := frombits_run 9221120237041090560
  cases hw : wildB b with
  | true =>
    rw [canonB_wild hw]
    rw [hw] at hq
    clear hw
    go_enter Try.func64, Try.ntmps64
    go_wp2_with fail
    go_ret
    exact ⟨rfl, rfl⟩
  | false =>
    rw [canonB_tame hw]
    rw [hw] at hq
    clear hw
    go_enter Try.func64, Try.ntmps64
    go_wp2_with fail
    go_ret
    exact ⟨rfl, rfl⟩
theorem rbits2_any (b : Nat) (w : World) : Calls Try.prog 39 #[.float .f64 b] w fun r w' => r = .returned (.int .u64 (canonB b)) ∧ w = w' := by
  have hb := bits_run (canonB b)
  go_enter Try.func39, Try.ntmps39
  go_wp2_with (go_at_call 64; refine (canon_any _ _).mono ?_; rintro r w1 ⟨rfl, rfl⟩)
  go_ret
  exact ⟨rfl, rfl⟩
/-- What 64 bits are read as. -/
def fromV (n : Nat) : Nat := if wildB n = true ∧ n ≠ 9221120237041090560 then 0 else n
def fromOk (n : Nat) : Bool := !(wildB n && decide (n ≠ 9221120237041090560))

theorem from_no {n : Nat} (h : wildB n = true) (h2 : n ≠ 9221120237041090560) : fromV n = 0 ∧ fromOk n = false := by
  refine ⟨by rw [fromV, if_pos ⟨h, h2⟩], ?_⟩
  rw [fromOk, h, decide_eq_true h2]; rfl
theorem from_yes {n : Nat} (h : ¬ (wildB n = true ∧ n ≠ 9221120237041090560)) : fromV n = n ∧ fromOk n = true := by
  refine ⟨by rw [fromV, if_neg h], ?_⟩
  rw [fromOk]
  cases hw : wildB n with
  | false => rfl
  | true =>
    have : ¬ n ≠ 9221120237041090560 := fun hc => h ⟨hw, hc⟩
    rw [decide_eq_false this]; rfl
theorem from_any (n : Nat) (hn : n < 18446744073709551616) (w : World) : Calls Try.prog 52 #[.int .u64 n] w fun r w' => r = .returned (.tuple #[.float .f64 (fromV n), .bool (fromOk n)]) ∧ w = w' := by
  have hq : (FloatKind.f64.format.order n n != some Ordering.eq) = wildB n := order_bits n
  have hf := frombits_run n
  rw [show ((n : Int)).toNat = n by omega] at hf
  by_cases h : wildB n = true ∧ n ≠ 9221120237041090560
  · obtain ⟨h1, h2⟩ := from_no h.1 h.2
    have h3 : ((n : Int) != 9221120237041090560) = true := by simp; omega
    rw [h1, h2]
    rw [h.1] at hq
    clear h h1 h2
    go_enter Try.func52, Try.ntmps52
    go_wp2_with fail
    go_ret2
    exact ⟨rfl, rfl⟩
  · obtain ⟨h1, h2⟩ := from_yes h
    rw [h1, h2]
    clear h1 h2
    cases hw : wildB n with
    | true =>
      have h3 : ((n : Int) != 9221120237041090560) = false := by
        have : n = 9221120237041090560 := Classical.byContradiction fun hc => h ⟨hw, hc⟩
        simp [this]
      rw [hw] at hq
      clear h hw
      go_enter Try.func52, Try.ntmps52
      go_wp2_with fail
      go_ret2
      exact ⟨rfl, rfl⟩
    | false =>
      rw [hw] at hq
      clear h hw
      go_enter Try.func52, Try.ntmps52
      go_wp2_with fail
      go_ret2
      exact ⟨rfl, rfl⟩

theorem wild_any (n : Nat) (hn : n < 18446744073709551616) (w : World) : Calls Try.prog 67 #[.int .u64 n] w fun r w' => r = .returned (.bool (wildB n)) ∧ w = w' := by
  by_cases h1 : n % 9223372036854775808 / 4503599627370496 = 2047
  · have f1 : ((n : Int) % 9223372036854775808 / 4503599627370496 == 2047) = true := by simp; omega
    have f1' : (n : Int) % 9223372036854775808 / 4503599627370496 = 2047 := by omega
    by_cases h2 : n % 4503599627370496 = 0
    · have e : wildB n = false := by unfold wildB; rw [decide_eq_true h1, h2]; rfl
      have f2 : ((n : Int) % 4503599627370496 != 0) = false := by simp; omega
      rw [e]
      clear e h1 h2
      go_enter Try.func67, Try.ntmps67
      go_wp2_with fail
      go_ret
      exact ⟨rfl, rfl⟩
    · have e : wildB n = true := by unfold wildB; rw [decide_eq_true h1, decide_eq_true h2]; rfl
      have f2 : ((n : Int) % 4503599627370496 != 0) = true := by simp; omega
      rw [e]
      clear e h1 h2
      go_enter Try.func67, Try.ntmps67
      go_wp2_with fail
      go_ret
      exact ⟨rfl, rfl⟩
  · have e : wildB n = false := by unfold wildB; rw [decide_eq_false h1]; rfl
    have f1 : ((n : Int) % 9223372036854775808 / 4503599627370496 == 2047) = false := by simp; omega
    rw [e]
    clear e h1
    go_enter Try.func67, Try.ntmps67
    go_wp2_with fail
    go_ret
    exact ⟨rfl, rfl⟩
theorem bits02_any (b : Nat) (hb : b < 18446744073709551616) (w : World) : Calls Try.prog 45 #[.float .f64 b] w fun r w' => r = .returned (.int .u64 (canonB b)) ∧ w = w' := by
  have hq := bits_run b
  have CW := Lib.hid (wild_any b hb w)
  cases hw : wildB b with
  | true =>
    rw [canonB_wild hw]
    rw [hw] at CW
    clear hw
    go_enter Try.func45, Try.ntmps45
    go_wp2_with fail
    refine CW.out.mono ?_
    rintro r w1 ⟨rfl, rfl⟩
    go_wp2_with fail
    go_ret
    exact ⟨rfl, rfl⟩
  | false =>
    rw [canonB_tame hw]
    rw [hw] at CW
    clear hw
    go_enter Try.func45, Try.ntmps45
    go_wp2_with fail
    refine CW.out.mono ?_
    rintro r w1 ⟨rfl, rfl⟩
    go_wp2_with fail
    go_ret
    exact ⟨rfl, rfl⟩
theorem from02_any (n : Nat) (hn : n < 18446744073709551616) (w : World) : Calls Try.prog 55 #[.int .u64 n] w fun r w' => r = .returned (.tuple #[.float .f64 (fromV n), .bool (fromOk n)]) ∧ w = w' := by
  have hf := frombits_run n
  rw [show ((n : Int)).toNat = n by omega] at hf
  have CW := Lib.hid (wild_any n hn w)
  by_cases h : wildB n = true ∧ n ≠ 9221120237041090560
  · obtain ⟨h1, h2⟩ := from_no h.1 h.2
    have h3 : ((n : Int) != 9221120237041090560) = true := by simp; omega
    rw [h1, h2]
    rw [h.1] at CW
    clear h h1 h2
    go_enter Try.func55, Try.ntmps55
    go_wp2_with fail
    refine CW.out.mono ?_
    rintro r w1 ⟨rfl, rfl⟩
    go_wp2_with fail
    go_ret2
    exact ⟨rfl, rfl⟩
  · obtain ⟨h1, h2⟩ := from_yes h
    rw [h1, h2]
    clear h1 h2
    cases hw : wildB n with
    | true =>
      have h3 : ((n : Int) != 9221120237041090560) = false := by
        have : n = 9221120237041090560 := Classical.byContradiction fun hc => h ⟨hw, hc⟩
        simp [this]
      rw [hw] at CW
      clear h hw
      go_enter Try.func55, Try.ntmps55
      go_wp2_with fail
      refine CW.out.mono ?_
      rintro r w1 ⟨rfl, rfl⟩
      go_wp2_with fail
      go_ret2
      exact ⟨rfl, rfl⟩
    | false =>
      rw [hw] at CW
      clear h hw
      go_enter Try.func55, Try.ntmps55
      go_wp2_with fail
      refine CW.out.mono ?_
      rintro r w1 ⟨rfl, rfl⟩
      go_wp2_with fail
      go_ret2
      exact ⟨rfl, rfl⟩
end Go.Proofs.Ytnmhmbfhaiaaoaa
