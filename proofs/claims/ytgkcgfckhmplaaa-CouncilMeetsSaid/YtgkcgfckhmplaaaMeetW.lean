/- The walk of 'picked': how many of the first n bits are set in both numbers; and the counting law. -/
import Derived.Test.YtgkcgfckhmplaaaCoW3
namespace Go.Proofs.Ytgkcgfckhmplaaa
open Go.RowKit
set_option linter.unusedVariables false

def bitB (a : Int) (i : Nat) : Bool := (a / 2 ^ i).tmod 2 == 1
def cntB (f : Nat → Bool) : Nat → Nat
  | 0 => 0
  | k + 1 => cntB f k + if f k then 1 else 0
def bothB (a b : Int) (i : Nat) : Bool := bitB a i && bitB b i

theorem cntB_le (f : Nat → Bool) : ∀ n, cntB f n ≤ n
  | 0 => Nat.le_refl 0
  | n + 1 => by have := cntB_le f n; rw [cntB]; split <;> omega
theorem cntB_yes (f : Nat → Bool) (k : Nat) (h : f k = true) : cntB f (k + 1) = cntB f k + 1 := by rw [cntB, h]; rfl
theorem cntB_no (f : Nat → Bool) (k : Nat) (h : f k = false) : cntB f (k + 1) = cntB f k := by rw [cntB, h]; rfl
theorem cntB_meet (f g : Nat → Bool) : ∀ n, cntB f n + cntB g n ≤ n + cntB (fun i => f i && g i) n
  | 0 => Nat.le_refl 0
  | n + 1 => by
    have := cntB_meet f g n
    simp only [cntB]
    rcases Bool.eq_false_or_eq_true (f n) with h1 | h1 <;> rcases Bool.eq_false_or_eq_true (g n) with h2 | h2 <;> simp [h1, h2] <;> omega
theorem bothB_self (a : Int) : (fun i => bothB a a i) = bitB a := by funext i; simp [bothB]

theorem bothB_yes (a b : Int) (i : Nat) (h : (a / 2 ^ i).tmod 2 = 1) (h2 : ((b / 2 ^ i).tmod 2 == 1) = true) : bothB a b i = true := by
  simp only [bothB, bitB, h2, h]; rfl
theorem bothB_no1 (a b : Int) (i : Nat) (h : ¬ (a / 2 ^ i).tmod 2 = 1) : bothB a b i = false := by
  simp [bothB, bitB, h]
theorem bothB_no2 (a b : Int) (i : Nat) (h2 : ((b / 2 ^ i).tmod 2 == 1) = false) : bothB a b i = false := by
  simp only [bothB, bitB, h2, Bool.and_false]

set_option maxHeartbeats 400000 in
theorem picked_any (n : Nat) (a b : Int) (w : World) (hn : n ≤ 60) (ha : 0 ≤ a) (hb : 0 ≤ b) (ha2 : a ≤ 18446744073709551615) (hb2 : b ≤ 18446744073709551615) :
    Calls Try.prog 18 #[.int .i64 n, .int .u64 a, .int .u64 b] w fun e w' => e = .returned (.int .i64 (cntB (bothB a b) n)) ∧ w = w' := by
  go_enter Try.func18, Try.ntmps18
  go_wp2
  go_loop [7, 8] (fun t i => ∃ k j : Nat, k ≤ n ∧ j ≤ k ∧ i = .int .i64 k ∧ t = .int .i64 j ∧ Hid (j = cntB (bothB a b) k)) (fun _ i => n - (intOf i).toNat)
  case atStart => exact ⟨0, 0, by omega, by omega, rfl, rfl, Lib.hid rfl⟩
  case round =>
    obtain ⟨k, j, hk, hj, rfl, rfl, hc⟩ := hrel
    by_cases hlt : k < n
    · by_cases c1 : (a / 2 ^ k).tmod 2 = 1
      · cases c2 : (b / 2 ^ k).tmod 2 == 1
        · have hx := Lib.hid (show j = cntB (bothB a b) (k + 1) by rw [cntB_no _ _ (bothB_no2 a b k c2)]; exact hc.out)
          clear hc
          go_wp2
          go_round
          case rel => exact ⟨k + 1, j, by omega, by omega, by go_num, rfl, hx⟩
          case measure => simp [intOf]; omega
        · have hx := Lib.hid (show j + 1 = cntB (bothB a b) (k + 1) by rw [cntB_yes _ _ (bothB_yes a b k c1 c2), ← hc.out])
          clear hc
          go_wp2
          go_round
          case rel => exact ⟨k + 1, j + 1, by omega, by omega, by go_num, by go_num, hx⟩
          case measure => simp [intOf]; omega
      · have hx := Lib.hid (show j = cntB (bothB a b) (k + 1) by rw [cntB_no _ _ (bothB_no1 a b k c1)]; exact hc.out)
        clear hc
        go_wp2
        go_round
        case rel => exact ⟨k + 1, j, by omega, by omega, by go_num, rfl, hx⟩
        case measure => simp [intOf]; omega
    · obtain rfl : k = n := by omega
      go_wp2
      go_ret
      exact ⟨by rw [← hc.out]; rfl, rfl⟩
end Go.Proofs.Ytgkcgfckhmplaaa
