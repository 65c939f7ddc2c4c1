
/- Reals by their bits: plain, and walks of both layers' Bits and From. -/
import Derived.Test.YtijeieamodjgbabRows
import Derived.Test.YtijeieamodjgbabMem
import Derived.WalkLawsBesides
import Derived.Laws.Externs
import Derived.Deep.QuietTactic
import Derived.BigQuiet
import Derived.Test.YtijeieamodjgbabQuiet
import Derived.Deep.DeepCutAuto
import Derived.BigGuardPart
import Derived.Deep.Light

namespace Go.Proofs.Ytijeieamodjgbab
set_option maxRecDepth 100000
open Go.RowKit
set_option linter.unusedVariables false
set_option linter.unusedSimpArgs false

/-- Bits of a NaN. -/
def wildB (b : Nat) : Bool := decide (b % 9223372036854775808 / 4503599627370496 = 2047) && decide (b % 4503599627370496 ≠ 0)
/-- A real's bits: those of the one NaN, or its own. -/
def canonB (b : Nat) : Nat := if wildB b = true then 9221120237041090560 else b
theorem canonB_wild {b : Nat} (h : wildB b = true) : canonB b = 9221120237041090560 := by rw [canonB, if_pos h]
theorem canonB_tame {b : Nat} (h : wildB b = false) : canonB b = b := by rw [canonB, if_neg (by simp [h])]
theorem canonB_lt {b : Nat} (h : b < 18446744073709551616) : canonB b < 18446744073709551616 := by
  cases hw : wildB b with
  | true => rw [canonB_wild hw]; decide
  | false => rw [canonB_tame hw]; exact h

theorem read_nan (b : Nat) : (Ieee.double.read b).isNaN = wildB b := by
  have e1 : Ieee.double.signWeight = 9223372036854775808 := by decide +kernel
  have e2 : Ieee.double.binade = 4503599627370496 := by decide +kernel
  have e3 : Ieee.double.infRung = 2047 * 4503599627370496 := by decide +kernel
  unfold Ieee.Format.read
  simp only [e1, e2, e3]
  have hr : b % 9223372036854775808 < 2048 * 4503599627370496 := by omega
  have hm : b % 4503599627370496 = (b % 9223372036854775808) % 4503599627370496 := by omega
  unfold wildB
  rw [hm]
  generalize b % 9223372036854775808 = r at *
  split
  · rename_i h
    rw [show r / 4503599627370496 = 0 by omega]; rfl
  · split
    · rename_i h
      have h1 : decide (r / 4503599627370496 = 2047) = false := by simp; omega
      rw [h1]; rfl
    · split
      · rename_i h
        have h1 : decide (r % 4503599627370496 ≠ 0) = false := by simp; omega
        rw [h1]; simp [Ieee.Datum.isNaN]
      · rename_i h
        have h1 : decide (r % 4503599627370496 ≠ 0) = true := by simp; omega
        have h2 : decide (r / 4503599627370496 = 2047) = true := by simp; omega
        rw [h1, h2]; rfl
theorem order_self (d : Ieee.Datum) : (d.order d == some .eq) = !d.isNaN := by
  cases d with
  | number s m i =>
    show (some (compare _ _) == some Ordering.eq) = true
    simp
  | infinity s => cases s <;> rfl
  | nan s t => rfl
theorem order_bits (b : Nat) : (Ieee.double.order b b != some .eq) = wildB b := by
  have h := order_self (Ieee.double.read b)
  rw [read_nan] at h
  show (!(Ieee.double.order b b == some .eq)) = wildB b
  unfold Ieee.Format.order
  rw [h]; simp

theorem bits_run (b : Nat) (w : World) : (callFunc 76 #[.float .f64 b]).run Try.prog w = .ok (.value (.int .u64 b)) w := by
  rw [run_callFunc_extern (e := Extern.MathFloatBits.float64bits) Try.func76 (by kernel_rfl) (by kernel_rfl) (by kernel_rfl) (by kernel_rfl)]
  rfl
theorem frombits_run (n : Int) (w : World) : (callFunc 33 #[.int .u64 n]).run Try.prog w = .ok (.value (.float .f64 n.toNat)) w := by
  rw [run_callFunc_extern (e := Extern.MathFloatBits.float64frombits) Try.func33 (by kernel_rfl) (by kernel_rfl) (by kernel_rfl) (by kernel_rfl)]
  rfl

theorem canon_any (b : Nat) (w : World) : Calls Try.prog 94 #[.float .f64 b] w fun r w' => r = .returned (.float .f64 (canonB b)) ∧ w = w' := by
  have hq : (FloatKind.f64.format.order b b != some Ordering.eq) = wildB b := order_bits b
  have hf := frombits_run 9221120237041090560
  cases hw : wildB b with
  | true =>
    rw [canonB_wild hw]
    rw [hw] at hq
    clear hw
    go_enter Try.func94, Try.ntmps94
    go_wp2_with fail
    go_ret
    exact ⟨rfl, rfl⟩
  | false =>
    rw [canonB_tame hw]
    rw [hw] at hq
    clear hw
    go_enter Try.func94, Try.ntmps94
    go_wp2_with fail
    go_ret
    exact ⟨rfl, rfl⟩
theorem rbits2_any (b : Nat) (w : World) : Calls Try.prog 78 #[.float .f64 b] w fun r w' => r = .returned (.int .u64 (canonB b)) ∧ w = w' := by
  have hb := bits_run (canonB b)
  go_enter Try.func78, Try.ntmps78
  go_wp2_with (go_at_call 94; refine (canon_any _ _).mono ?_; rintro r w1 ⟨rfl, rfl⟩)
  go_ret
  exact ⟨rfl, rfl⟩
/-- What 64 bits are read as. -/
def fromV (n : Nat) : Nat := if wildB n = true ∧ n ≠ 9221120237041090560 then 0 else n
def fromOk (n : Nat) : Bool := !(wildB n && decide (n ≠ 9221120237041090560))

theorem from_no {n : Nat} (h : wildB n = true) (h2 : n ≠ 9221120237041090560) : fromV n = 0 ∧ fromOk n = false := by
  refine ⟨by rw [fromV, if_pos ⟨h, h2⟩], ?_⟩
  rw [fromOk, h, decide_eq_true h2]; rfl
theorem from_yes {n : Nat} (h : ¬ (wildB n = true ∧ n ≠ 9221120237041090560)) : fromV n = n ∧ fromOk n = true := by
  refine ⟨by rw [fromV, if_neg h], ?_⟩
  rw [fromOk]
  cases hw : wildB n with
  | false => rfl
  | true =>
    have : ¬ n ≠ 9221120237041090560 := fun hc => h ⟨hw, hc⟩
    rw [decide_eq_false this]; rfl

theorem wild_any (n : Nat) (hn : n < 18446744073709551616) (w : World) : Calls Try.prog 77 #[.int .u64 n] w fun r w' => r = .returned (.bool (wildB n)) ∧ w = w' := by
  by_cases h1 : n % 9223372036854775808 / 4503599627370496 = 2047
  · have f1 : ((n : Int) % 9223372036854775808 / 4503599627370496 == 2047) = true := by simp; omega
    have f1' : (n : Int) % 9223372036854775808 / 4503599627370496 = 2047 := by omega
    by_cases h2 : n % 4503599627370496 = 0
    · have e : wildB n = false := by unfold wildB; rw [decide_eq_true h1, h2]; rfl
      have f2 : ((n : Int) % 4503599627370496 != 0) = false := by simp; omega
      rw [e]
      clear e h1 h2
      go_enter Try.func77, Try.ntmps77
      go_wp2_with fail
      go_ret
      exact ⟨rfl, rfl⟩
    · have e : wildB n = true := by unfold wildB; rw [decide_eq_true h1, decide_eq_true h2]; rfl
      have f2 : ((n : Int) % 4503599627370496 != 0) = true := by simp; omega
      rw [e]
      clear e h1 h2
      go_enter Try.func77, Try.ntmps77
      go_wp2_with fail
      go_ret
      exact ⟨rfl, rfl⟩
  · have e : wildB n = false := by unfold wildB; rw [decide_eq_false h1]; rfl
    have f1 : ((n : Int) % 9223372036854775808 / 4503599627370496 == 2047) = false := by simp; omega
    rw [e]
    clear e h1
    go_enter Try.func77, Try.ntmps77
    go_wp2_with fail
    go_ret
    exact ⟨rfl, rfl⟩
theorem bits02_any (b : Nat) (hb : b < 18446744073709551616) (w : World) : Calls Try.prog 47 #[.float .f64 b] w fun r w' => r = .returned (.int .u64 (canonB b)) ∧ w = w' := by
  have hq := bits_run b
  have CW := Lib.hid (wild_any b hb w)
  cases hw : wildB b with
  | true =>
    rw [canonB_wild hw]
    rw [hw] at CW
    clear hw
    go_enter Try.func47, Try.ntmps47
    go_wp2_with fail
    refine CW.out.mono ?_
    rintro r w1 ⟨rfl, rfl⟩
    go_wp2_with fail
    go_ret
    exact ⟨rfl, rfl⟩
  | false =>
    rw [canonB_tame hw]
    rw [hw] at CW
    clear hw
    go_enter Try.func47, Try.ntmps47
    go_wp2_with fail
    refine CW.out.mono ?_
    rintro r w1 ⟨rfl, rfl⟩
    go_wp2_with fail
    go_ret
    exact ⟨rfl, rfl⟩
end Go.Proofs.Ytijeieamodjgbab

/- Which operations and requests are right: plain, and walks of both layers. -/
namespace Go.Proofs.Ytijeieamodjgbab
set_option maxRecDepth 100000
open Go.RowKit
set_option linter.unusedVariables false
set_option linter.unusedSimpArgs false

def keyB (key : ByteArray) (id : Int) : Bool := decide (0 < key.size) && decide (key.size ≤ 16) && decide (id = 0)
def noneB (b : Nat) : Bool := decide (canonB b = 0)
def noKeyB (key : ByteArray) (b : Nat) (id : Int) : Bool := decide (key.size = 0) && noneB b && decide (0 ≤ id) && decide (id < 16)
/-- Which operations are right. -/
def opB (kind : Int) (key : ByteArray) (b : Nat) (id : Int) : Bool :=
  if kind = 1 ∨ kind = 2 ∨ kind = 3 then keyB key id else if kind = 4 ∨ kind = 5 then noneB b && keyB key id else if kind = 6 ∨ kind = 7 then noKeyB key b id else false
theorem opB_key {kind : Int} (h : kind = 1 ∨ kind = 2 ∨ kind = 3) (key : ByteArray) (b : Nat) (id : Int) : opB kind key b id = keyB key id := by rw [opB, if_pos h]
theorem opB_cut {kind : Int} (h : kind = 4 ∨ kind = 5) (key : ByteArray) (b : Nat) (id : Int) : opB kind key b id = (noneB b && keyB key id) := by rw [opB, if_neg (by omega), if_pos h]
theorem opB_join {kind : Int} (h : kind = 6 ∨ kind = 7) (key : ByteArray) (b : Nat) (id : Int) : opB kind key b id = noKeyB key b id := by rw [opB, if_neg (by omega), if_neg (by omega), if_pos h]
theorem opB_no {kind : Int} (h : kind < 1 ∨ 7 < kind) (key : ByteArray) (b : Nat) (id : Int) : opB kind key b id = false := by rw [opB, if_neg (by omega), if_neg (by omega), if_neg (by omega)]

theorem str_empty (s : ByteArray) : s.toList.isEmpty = decide (s.size = 0) := by
  rw [ByteArray.toList_eq]
  obtain ⟨⟨l⟩⟩ := s
  cases l <;> simp [ByteArray.size]
theorem beq_dec (a b : Int) : (a == b) = decide (a = b) := by rw [Bool.eq_iff_iff]; simp
theorem within_any (n lo hi : Int) (w : World) : Calls Try.prog 50 #[.int .i64 n, .int .i64 lo, .int .i64 hi] w fun r w' => r = .returned (.bool (decide (lo ≤ n ∧ n ≤ hi))) ∧ w = w' := by
  obtain ⟨x, hx⟩ : ∃ x, x = decide (lo ≤ n ∧ n ≤ hi) := ⟨_, rfl⟩
  rw [← hx]
  have HX := Lib.hid hx
  clear hx
  go_enter Try.func50, Try.ntmps50
  go_wp2_with fail
  all_goals
    go_ret
    refine ⟨?_, rfl⟩
    rw [HX.out]
    first | (simp [*]; done) | (simp [*]; omega)

set_option maxHeartbeats 1000000 in
theorem dright_any (kind : Int) (key : ByteArray) (b : Nat) (id : Int) (w : World) (hk : key.size ≤ 140737488351232) :
    Calls Try.prog 51 #[.agg #[.int .i64 kind, .string key, .float .f64 b, .int .i64 id]] w fun r w' => r = .returned (.bool (opB kind key b id)) ∧ Below w.heap.size w w' := by
  obtain ⟨x, hx⟩ : ∃ x, x = opB kind key b id := ⟨_, rfl⟩
  rw [← hx]
  have HX := Lib.hid hx
  clear hx
  go_enter Try.func51, Try.ntmps51
  go_wp2_with (go_at_call 78; refine (rbits2_any _ _).mono ?_; rintro r w1 ⟨rfl, rfl⟩)
  all_goals
    go_ret
    refine ⟨?_, below_alloc _ _⟩
    rw [HX.out]
    go_light
    clear HX
    simp only [str_empty] at *
    first | (simp_all [opB, keyB, noneB, noKeyB, beq_dec]; done) | (simp_all [opB, keyB, noneB, noKeyB, beq_dec]; omega)
end Go.Proofs.Ytijeieamodjgbab

/- Right and Null of both layers, and of requests. -/
namespace Go.Proofs.Ytijeieamodjgbab
set_option maxRecDepth 100000
open Go.RowKit
set_option linter.unusedVariables false
set_option linter.unusedSimpArgs false

def rightQ (c s kind : Int) (key : ByteArray) (b : Nat) (id : Int) : Bool := decide (1 ≤ c ∧ c ≤ 8) && decide (1 ≤ s ∧ s ≤ 1048576) && opB kind key b id
def nullQ (c s kind : Int) (key : ByteArray) (b : Nat) (id : Int) : Bool := decide (c = 0) && decide (s = 0) && decide (kind = 0) && decide (id = 0) && decide (key.size = 0) && noneB b

set_option maxHeartbeats 1000000 in
theorem keyed_any (kind : Int) (key : ByteArray) (b : Nat) (id : Int) (w : World) (hk : key.size ≤ 140737488351232) :
    Calls Try.prog 93 #[.agg #[.int .i64 kind, .string key, .float .f64 b, .int .i64 id]] w fun r w' => r = .returned (.bool (keyB key id)) ∧ Below w.heap.size w w' := by
  obtain ⟨x, hx⟩ : ∃ x, x = keyB key id := ⟨_, rfl⟩
  rw [← hx]
  have HX := Lib.hid hx
  clear hx
  go_enter Try.func93, Try.ntmps93
  go_wp2_with fail
  all_goals
    go_ret
    refine ⟨?_, below_alloc _ _⟩
    rw [HX.out]
    go_light
    clear HX
    first | (simp_all [keyB, beq_dec]; done) | (simp_all [keyB, beq_dec]; omega)
theorem plain_any (kind : Int) (key : ByteArray) (b : Nat) (hb : b < 18446744073709551616) (id : Int) (w : World) :
    Calls Try.prog 72 #[.agg #[.int .i64 kind, .string key, .float .f64 b, .int .i64 id]] w fun r w' => r = .returned (.bool (noneB b)) ∧ Below w.heap.size w w' := by
  obtain ⟨x, hx⟩ : ∃ x, x = noneB b := ⟨_, rfl⟩
  rw [← hx]
  have HX := Lib.hid hx
  clear hx
  go_enter Try.func72, Try.ntmps72
  go_wp2_with (go_at_call 47; refine (bits02_any _ hb _).mono ?_; rintro r w1 ⟨rfl, rfl⟩)
  go_ret
  refine ⟨?_, below_alloc _ _⟩
  rw [HX.out]
  simp [noneB]
  rw [Bool.eq_iff_iff]; simp

set_option maxHeartbeats 2000000 in
theorem oref_any (kind : Int) (key : ByteArray) (b : Nat) (hb : b < 18446744073709551616) (id : Int) (w : World) (hk : key.size ≤ 140737488351232) :
    Calls Try.prog 73 #[.agg #[.int .i64 kind, .string key, .float .f64 b, .int .i64 id]] w fun r w' => r = .returned (.bool (opB kind key b id)) ∧ Below w.heap.size w w' := by
  obtain ⟨x, hx⟩ : ∃ x, x = opB kind key b id := ⟨_, rfl⟩
  rw [← hx]
  have HX := Lib.hid hx
  have CK := Lib.hid (fun (w : World) => keyed_any kind key b id w hk)
  have CP := Lib.hid (fun (w : World) => plain_any kind key b hb id w)
  obtain ⟨kb, hkb⟩ : ∃ kb, kb = keyB key id := ⟨_, rfl⟩
  obtain ⟨nb, hnb⟩ : ∃ nb, nb = noneB b := ⟨_, rfl⟩
  rw [← hkb] at CK
  rw [← hnb] at CP
  have HKB := Lib.hid hkb; have HNB := Lib.hid hnb
  clear hx hkb hnb
  have HC := Lib.hid (show ∀ w', Below (w.alloc (.cells #[.int .i64 kind, .string key, .float .f64 b, .int .i64 id] 33)).heap.size (w.alloc (.cells #[.int .i64 kind, .string key, .float .f64 b, .int .i64 id] 33)) w' → (w'.cell? ⟨w.heap.size, 0, none⟩ = some (.int .i64 kind) ∧ w'.cell? ⟨w.heap.size, 1, none⟩ = some (.string key) ∧ w'.cell? ⟨w.heap.size, 2, none⟩ = some (.float .f64 b) ∧ w'.cell? ⟨w.heap.size, 3, none⟩ = some (.int .i64 id)) ∧ Below w.heap.size w w' from fun w' hb => by
    have := blk_below (blk_alloc _ _) hb
    exact ⟨⟨by rw [blk_cell this]; rfl, by rw [blk_cell this]; rfl, by rw [blk_cell this]; rfl, by rw [blk_cell this]; rfl⟩, bthen (below_alloc _ _) hb⟩)
  have B0 := Lib.hid (Below.refl (w.alloc (.cells #[.int .i64 kind, .string key, .float .f64 b, .int .i64 id] 33)).heap.size (w.alloc (.cells #[.int .i64 kind, .string key, .float .f64 b, .int .i64 id] 33)))
  have hkk : kind = 1 ∨ kind = 2 ∨ kind = 3 ∨ kind = 4 ∨ kind = 5 ∨ kind = 6 ∨ kind = 7 ∨ (kind < 1 ∨ 7 < kind) := by omega
  rcases hkk with rfl | rfl | rfl | rfl | rfl | rfl | rfl | hkk
  iterate 7
    · go_enter Try.func73, Try.ntmps73
      go_wp2_with (first | (go_at_call 93; refine (CK.out _).mono ?_; rintro r w1 ⟨rfl, b1⟩; have B0 := Lib.hid (bthen B0.out b1); clear b1; obtain ⟨⟨x0, x1, x2, x3⟩, -⟩ := HC.out _ B0.out) | (go_at_call 72; refine (CP.out _).mono ?_; rintro r w2 ⟨rfl, b2⟩; have B0 := Lib.hid (bthen B0.out b2); clear b2; obtain ⟨⟨x0, x1, x2, x3⟩, -⟩ := HC.out _ B0.out))
      all_goals
        go_ret
        refine ⟨?_, by first | exact (HC.out _ B0.out).2 | exact below_alloc _ _⟩
        rw [HX.out]
        have e1 := HKB.out
        have e2 := HNB.out
        go_light
        clear HX HKB HNB
        simp only [str_empty] at *
        first | (simp_all [opB, keyB, noneB, noKeyB, beq_dec]; done) | (simp_all [opB, keyB, noneB, noKeyB, beq_dec]; omega)
  · have t1 : (kind == 1) = false := by simp; omega
    have t2 : (kind == 2) = false := by simp; omega
    have t3 : (kind == 3) = false := by simp; omega
    have t4 : (kind == 4) = false := by simp; omega
    have t5 : (kind == 5) = false := by simp; omega
    have t6 : (kind == 6) = false := by simp; omega
    have t7 : (kind == 7) = false := by simp; omega
    have HO := Lib.hid (opB_no hkk key b id)
    clear hkk
    go_enter Try.func73, Try.ntmps73
    go_wp2_with fail
    go_ret
    exact ⟨by rw [HX.out, HO.out]; rfl, below_alloc _ _⟩
end Go.Proofs.Ytijeieamodjgbab

/- Right and Null of requests, both layers. -/
namespace Go.Proofs.Ytijeieamodjgbab
set_option maxRecDepth 100000
open Go.RowKit
set_option linter.unusedVariables false
set_option linter.unusedSimpArgs false

/-- A request in a box, and its cells in whatever later world. -/
def RqBox (w : World) (c s kind : Int) (key : ByteArray) (b : Nat) (id : Int) (w' : World) : Prop :=
  (w'.cell? ⟨w.heap.size, 0, none⟩ = some (.int .i64 c) ∧ w'.cell? ⟨w.heap.size, 1, none⟩ = some (.int .i64 s) ∧ w'.cell? ⟨w.heap.size, 2, none⟩ = some (.int .i64 kind) ∧ w'.cell? ⟨w.heap.size, 3, none⟩ = some (.string key) ∧ w'.cell? ⟨w.heap.size, 4, none⟩ = some (.float .f64 b) ∧ w'.cell? ⟨w.heap.size, 5, none⟩ = some (.int .i64 id)) ∧ Below w.heap.size w w'
theorem rq_box (w : World) (c s kind : Int) (key : ByteArray) (b : Nat) (id : Int) : ∀ w', Below (w.alloc (.cells #[.int .i64 c, .int .i64 s, .int .i64 kind, .string key, .float .f64 b, .int .i64 id] 35)).heap.size (w.alloc (.cells #[.int .i64 c, .int .i64 s, .int .i64 kind, .string key, .float .f64 b, .int .i64 id] 35)) w' → RqBox w c s kind key b id w' := fun w' hb => by
  have := blk_below (blk_alloc _ _) hb
  exact ⟨⟨by rw [blk_cell this]; rfl, by rw [blk_cell this]; rfl, by rw [blk_cell this]; rfl, by rw [blk_cell this]; rfl, by rw [blk_cell this]; rfl, by rw [blk_cell this]; rfl⟩, bthen (below_alloc _ _) hb⟩

set_option maxHeartbeats 1000000 in
theorem qright_any (c s kind : Int) (key : ByteArray) (b : Nat) (id : Int) (w : World) (hk : key.size ≤ 140737488351232) :
    Calls Try.prog 31 #[.agg #[.int .i64 c, .int .i64 s, .int .i64 kind, .string key, .float .f64 b, .int .i64 id]] w fun r w' => r = .returned (.bool (rightQ c s kind key b id)) ∧ Below w.heap.size w w' := by
  obtain ⟨x, hx⟩ : ∃ x, x = rightQ c s kind key b id := ⟨_, rfl⟩
  rw [← hx]
  have HX := Lib.hid hx
  have CD := Lib.hid (fun (w : World) => dright_any kind key b id w hk)
  have CW := Lib.hid within_any
  obtain ⟨ob, hob⟩ : ∃ ob, ob = opB kind key b id := ⟨_, rfl⟩
  rw [← hob] at CD
  have HO := Lib.hid hob
  clear hx hob
  by_cases h1 : 1 ≤ c ∧ c ≤ 8
  · have CW1 := within_any c 1 8
    rw [decide_eq_true h1] at CW1
    replace CW1 := Lib.hid CW1
    by_cases h2 : 1 ≤ s ∧ s ≤ 1048576
    · have CW2 := within_any s 1 1048576
      rw [decide_eq_true h2] at CW2
      replace CW2 := Lib.hid CW2
      have HR := Lib.hid (show x = ob by rw [HX.out, HO.out, rightQ, decide_eq_true h1, decide_eq_true h2]; rfl)
      clear h1 h2 HX HO CW
      go_enter Try.func31, Try.ntmps31
      go_wp2_with fail
      refine (CW1.out _).mono ?_
      rintro r w1 ⟨rfl, rfl⟩
      go_wp2_with fail
      refine (CW2.out _).mono ?_
      rintro r w1 ⟨rfl, rfl⟩
      go_wp2_with fail
      refine (CD.out _).mono ?_
      rintro r w2 ⟨rfl, b2⟩
      have B2 := Lib.hid (bthen (below_alloc _ _) b2)
      clear b2
      go_wp2_with fail
      go_ret
      exact ⟨by rw [HR.out]; rfl, B2.out⟩
    · have CW2 := within_any s 1 1048576
      rw [decide_eq_false h2] at CW2
      replace CW2 := Lib.hid CW2
      have HR := Lib.hid (show x = false by rw [HX.out, rightQ, decide_eq_true h1, decide_eq_false h2]; rfl)
      clear h1 h2 HX HO CW
      go_enter Try.func31, Try.ntmps31
      go_wp2_with fail
      refine (CW1.out _).mono ?_
      rintro r w1 ⟨rfl, rfl⟩
      go_wp2_with fail
      refine (CW2.out _).mono ?_
      rintro r w1 ⟨rfl, rfl⟩
      go_wp2_with fail
      go_ret
      exact ⟨by rw [HR.out]; rfl, below_alloc _ _⟩
  · have CW1 := within_any c 1 8
    rw [decide_eq_false h1] at CW1
    replace CW1 := Lib.hid CW1
    have HR := Lib.hid (show x = false by rw [HX.out, rightQ, decide_eq_false h1]; rfl)
    clear h1 HX HO CW
    go_enter Try.func31, Try.ntmps31
    go_wp2_with fail
    refine (CW1.out _).mono ?_
    rintro r w1 ⟨rfl, rfl⟩
    go_wp2_with fail
    go_ret
    exact ⟨by rw [HR.out]; rfl, below_alloc _ _⟩

set_option maxHeartbeats 1000000 in
theorem qrright_any (c s kind : Int) (key : ByteArray) (b : Nat) (hb : b < 18446744073709551616) (id : Int) (w : World) (hk : key.size ≤ 140737488351232) :
    Calls Try.prog 42 #[.agg #[.int .i64 c, .int .i64 s, .int .i64 kind, .string key, .float .f64 b, .int .i64 id]] w fun r w' => r = .returned (.bool (rightQ c s kind key b id)) ∧ Below w.heap.size w w' := by
  obtain ⟨x, hx⟩ : ∃ x, x = rightQ c s kind key b id := ⟨_, rfl⟩
  rw [← hx]
  have HX := Lib.hid hx
  have CD := Lib.hid (fun (w : World) => oref_any kind key b hb id w hk)
  obtain ⟨ob, hob⟩ : ∃ ob, ob = opB kind key b id := ⟨_, rfl⟩
  rw [← hob] at CD
  have HO := Lib.hid hob
  have B0 := Lib.hid (below_alloc w (.cells #[.int .i64 c, .int .i64 s, .int .i64 kind, .string key, .float .f64 b, .int .i64 id] 35))
  clear hx hob
  go_enter Try.func42, Try.ntmps42
  go_wp2_with (go_at_call 73; refine (CD.out _).mono ?_; rintro r w1 ⟨rfl, b1⟩; have B0 := Lib.hid (bthen B0.out b1); clear b1)
  all_goals
    go_ret
    refine ⟨?_, B0.out⟩
    rw [HX.out]
    have e1 := HO.out
    go_light
    clear HX HO
    first | (simp_all [rightQ]; done) | (simp_all [rightQ]; omega)

theorem null_no {c s kind : Int} {key : ByteArray} {b : Nat} {id : Int} (h : ¬ (c = 0 ∧ s = 0 ∧ kind = 0 ∧ id = 0 ∧ key.size = 0)) : nullQ c s kind key b id = false := by
  unfold nullQ
  cases hn : noneB b with
  | false => simp
  | true =>
    cases hd : (decide (c = 0) && decide (s = 0) && decide (kind = 0) && decide (id = 0) && decide (key.size = 0)) with
    | false => rfl
    | true => exact absurd (by simp only [Bool.and_eq_true, decide_eq_true_eq] at hd; exact ⟨hd.1.1.1.1, hd.1.1.1.2, hd.1.1.2, hd.1.2, hd.2⟩) h
theorem key_nil {key : ByteArray} (h : key.size = 0) : key = ⟨#[]⟩ := by
  obtain ⟨⟨l⟩⟩ := key
  have : l = [] := List.eq_nil_of_length_eq_zero h
  rw [this]

set_option maxHeartbeats 2000000 in
theorem qrnull_any (c s kind : Int) (key : ByteArray) (b : Nat) (hb : b < 18446744073709551616) (id : Int) (w : World) :
    Calls Try.prog 41 #[.agg #[.int .i64 c, .int .i64 s, .int .i64 kind, .string key, .float .f64 b, .int .i64 id]] w fun r w' => r = .returned (.bool (nullQ c s kind key b id)) ∧ Below w.heap.size w w' := by
  have CP := Lib.hid (fun (w : World) => plain_any kind key b hb id w)
  by_cases hc : c = 0
  · subst hc
    by_cases hs : s = 0
    · subst hs
      by_cases hkd : kind = 0
      · subst hkd
        by_cases hke : key.size = 0
        · obtain rfl := key_nil hke
          have HC := Lib.hid (rq_box w 0 0 0 ⟨#[]⟩ b id)
          by_cases hid : id = 0
          · subst hid
            have HX := Lib.hid (show nullQ 0 0 0 ⟨#[]⟩ b 0 = noneB b by simp [nullQ, ByteArray.size])
            rw [HX.out]
            cases hn : noneB b with
            | true =>
              rw [hn] at CP
              clear hn HX
              go_enter Try.func41, Try.ntmps41
              go_wp2_with fail
              refine (CP.out _).mono ?_
              rintro r w1 ⟨rfl, b1⟩
              obtain ⟨⟨x0, x1, x2, x3, x4, x5⟩, hb1⟩ := HC.out _ b1
              have HB1 := Lib.hid hb1
              clear b1 hb1
              go_wp2_with fail
              go_ret
              exact ⟨rfl, HB1.out⟩
            | false =>
              rw [hn] at CP
              clear hn HX
              go_enter Try.func41, Try.ntmps41
              go_wp2_with fail
              refine (CP.out _).mono ?_
              rintro r w1 ⟨rfl, b1⟩
              obtain ⟨⟨x0, x1, x2, x3, x4, x5⟩, hb1⟩ := HC.out _ b1
              have HB1 := Lib.hid hb1
              clear b1 hb1
              go_wp2_with fail
              go_ret
              exact ⟨rfl, HB1.out⟩
          · rw [null_no (by rintro ⟨_, _, _, h, _⟩; exact hid h)]
            have hid' : (id == 0) = false := by simpa using hid
            cases hn : noneB b with
            | true =>
              rw [hn] at CP
              clear hn
              go_enter Try.func41, Try.ntmps41
              go_wp2_with fail
              refine (CP.out _).mono ?_
              rintro r w1 ⟨rfl, b1⟩
              obtain ⟨⟨x0, x1, x2, x3, x4, x5⟩, hb1⟩ := HC.out _ b1
              have HB1 := Lib.hid hb1
              clear b1 hb1
              go_wp2_with fail
              go_ret
              exact ⟨rfl, HB1.out⟩
            | false =>
              rw [hn] at CP
              clear hn
              go_enter Try.func41, Try.ntmps41
              go_wp2_with fail
              refine (CP.out _).mono ?_
              rintro r w1 ⟨rfl, b1⟩
              obtain ⟨⟨x0, x1, x2, x3, x4, x5⟩, hb1⟩ := HC.out _ b1
              have HB1 := Lib.hid hb1
              clear b1 hb1
              go_wp2_with fail
              go_ret
              exact ⟨rfl, HB1.out⟩
        · rw [null_no (by rintro ⟨_, _, _, _, h⟩; exact hke h)]
          have hke' : key.toList.isEmpty = false := by rw [str_empty]; simpa using hke
          go_enter Try.func41, Try.ntmps41
          go_wp2_with fail
          go_ret
          exact ⟨rfl, below_alloc _ _⟩
      · rw [null_no (by rintro ⟨_, _, h, _⟩; exact hkd h)]
        have hkd' : (kind == 0) = false := by simpa using hkd
        go_enter Try.func41, Try.ntmps41
        go_wp2_with fail
        go_ret
        exact ⟨rfl, below_alloc _ _⟩
    · rw [null_no (by rintro ⟨_, h, _⟩; exact hs h)]
      have hs' : (s == 0) = false := by simpa using hs
      go_enter Try.func41, Try.ntmps41
      go_wp2_with fail
      go_ret
      exact ⟨rfl, below_alloc _ _⟩
  · rw [null_no (by rintro ⟨h, _⟩; exact hc h)]
    have hc' : (c == 0) = false := by simpa using hc
    go_enter Try.func41, Try.ntmps41
    go_wp2_with fail
    go_ret
    exact ⟨rfl, below_alloc _ _⟩

theorem or64 (x y : Int) (hx : -9223372036854775808 ≤ x ∧ x ≤ 9223372036854775807) (hy : -9223372036854775808 ≤ y ∧ y ≤ 9223372036854775807) : (bits .or .i64 x y = 0 ↔ x = 0 ∧ y = 0) ∧ (-9223372036854775808 ≤ bits .or .i64 x y ∧ bits .or .i64 x y ≤ 9223372036854775807) := by
  have key : ∀ n : Nat, n < 18446744073709551616 → (IntKind.i64.wrap (n : Int) = 0 ↔ n = 0) ∧ (-9223372036854775808 ≤ IntKind.i64.wrap (n : Int) ∧ IntKind.i64.wrap (n : Int) ≤ 9223372036854775807) := by
    intro n hn
    simp only [IntKind.wrap, IntKind.bits, IntKind.signed, Bool.true_and, ge_iff_le, decide_eq_true_eq]
    split <;> omega
  have hb : bits .or .i64 x y = IntKind.i64.wrap ((BitVec.ofInt 64 x ||| BitVec.ofInt 64 y).toNat : Int) := rfl
  have hlt : (BitVec.ofInt 64 x ||| BitVec.ofInt 64 y).toNat < 18446744073709551616 := (BitVec.ofInt 64 x ||| BitVec.ofInt 64 y).isLt
  obtain ⟨k1, k2⟩ := key _ hlt
  rw [hb]
  refine ⟨?_, k2⟩
  rw [k1]
  have hz : ∀ z : Int, -9223372036854775808 ≤ z ∧ z ≤ 9223372036854775807 → ((BitVec.ofInt 64 z).toNat = 0 ↔ z = 0) := by
    intro z hz
    rw [BitVec.toNat_ofInt]
    omega
  rw [BitVec.toNat_or, ← hz x hx, ← hz y hy]
  constructor
  · intro h
    have := Nat.or_eq_zero_iff.1 h
    exact this
  · rintro ⟨h1, h2⟩
    rw [h1, h2]; rfl

set_option maxHeartbeats 1000000 in
theorem qnull_any (c s kind : Int) (key : ByteArray) (b : Nat) (id : Int) (w : World) (hc : i64 c) (hs : i64 s) (hkd : i64 kind) (hid : i64 id) :
    Calls Try.prog 79 #[.agg #[.int .i64 c, .int .i64 s, .int .i64 kind, .string key, .float .f64 b, .int .i64 id]] w fun r w' => r = .returned (.bool (nullQ c s kind key b id)) ∧ Below w.heap.size w w' := by
  obtain ⟨o1, o2⟩ := or64 c s hc hs
  obtain ⟨o3, o4⟩ := or64 _ kind o2 hkd
  obtain ⟨o5, o6⟩ := or64 _ id o4 hid
  rw [o3, o1] at o5
  by_cases h : c = 0 ∧ s = 0 ∧ kind = 0 ∧ id = 0
  · obtain ⟨rfl, rfl, rfl, rfl⟩ := h
    have t1 : (bits BinOp.or IntKind.i64 0 0) = 0 := o1.2 ⟨rfl, rfl⟩
    by_cases hke : key.size = 0
    · obtain rfl := key_nil hke
      have HX := Lib.hid (show nullQ 0 0 0 ⟨#[]⟩ b 0 = noneB b by simp [nullQ, ByteArray.size])
      rw [HX.out]
      have HN := Lib.hid (show ((canonB b : Int) == 0) = noneB b by rw [Bool.eq_iff_iff]; simp [noneB])
      generalize noneB b = nb at *
      clear hke hc hs hkd hid o1 o2 o3 o4 o5 o6 HX
      go_enter Try.func79, Try.ntmps79
      go_wp2_with (go_at_call 78; refine (rbits2_any _ _).mono ?_; rintro r w1 ⟨rfl, rfl⟩)
      go_ret
      exact ⟨by rw [← HN.out]; rfl, below_alloc _ _⟩
    · rw [null_no (by rintro ⟨_, _, _, _, h⟩; exact hke h)]
      have hke' : key.toList.isEmpty = false := by rw [str_empty]; simpa using hke
      clear hke hc hs hkd hid o1 o2 o3 o4 o5 o6
      go_enter Try.func79, Try.ntmps79
      go_wp2_with fail
      go_ret
      exact ⟨rfl, below_alloc _ _⟩
  · have hT : (bits BinOp.or IntKind.i64 (bits BinOp.or IntKind.i64 (bits BinOp.or IntKind.i64 c s) kind) id == 0) = false := by
      simp only [beq_eq_false_iff_ne, ne_eq]
      intro hz
      obtain ⟨⟨⟨h1, h2⟩, h3⟩, h4⟩ := o5.1 hz
      exact h ⟨h1, h2, h3, h4⟩
    rw [null_no (by rintro ⟨h1, h2, h3, h4, _⟩; exact h ⟨h1, h2, h3, h4⟩)]
    clear h hc hs hkd hid o1 o2 o3 o4 o5 o6
    go_enter Try.func79, Try.ntmps79
    go_wp2_with fail
    go_ret
    exact ⟨rfl, below_alloc _ _⟩
end Go.Proofs.Ytijeieamodjgbab
