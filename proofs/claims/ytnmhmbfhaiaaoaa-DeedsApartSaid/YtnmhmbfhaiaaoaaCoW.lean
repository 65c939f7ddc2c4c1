
/- Walks of the council: rising, Right, Has and their references. -/
import Derived.Test.YtnmhmbfhaiaaoaaRows
import Derived.Test.YtnmhmbfhaiaaoaaCoP
import Derived.Test.YtnmhmbfhaiaaoaaCoN
import Derived.Deep.QuietTactic
import Derived.BigQuiet
namespace Go.Proofs.Ytnmhmbfhaiaaoaa
set_option maxRecDepth 100000
open Go.RowKit

set_option maxHeartbeats 400000 in
theorem rising_any (a : Option Addr) (n c : Nat) (l : List Int) (w : World) (h : IntsAt w a n l) :
    Calls Try.prog 74 #[.slice a n c] w fun e w' => e = .returned (.bool (risingB l)) ∧ w = w' := by
  have hmax := h.max
  have Hlen := Lib.hid h.len
  have H := Lib.hid h; clear h
  go_enter Try.func74, Try.ntmps74
  go_wp2
  go_loop [3, 8] (fun t i => ∃ k : Nat, ∃ z : Int, k ≤ n ∧ i = .int .i64 k ∧ t = .int .i64 z ∧ Hid (upFrom (-1) l = upFrom z (l.drop k))) (fun _ i => n - (intOf i).toNat)
  case atStart => exact ⟨0, -1, by omega, rfl, rfl, Lib.hid (by simp)⟩
  case round =>
    obtain ⟨k, z, hk, rfl, rfl, hup⟩ := hrel
    by_cases hlt : k < n
    · obtain ⟨b, o, x, rfl, hc, b0, b1, hd, _⟩ := H.out.elem k hlt
      by_cases hs : x ≤ z ∨ 16 ≤ x
      · have hf := Lib.hid (risingB_false l (by rw [hup.out, hd.out, upFrom_stop z x _ hs]))
        go_wp2
        all_goals
          go_ret
          exact ⟨by rw [hf.out]; rfl, rfl⟩
      · have hg := Lib.hid (show upFrom (-1) l = upFrom x (l.drop (k + 1)) by rw [hup.out, hd.out, upFrom_go z x _ hs])
        have s1 : ¬ x ≤ z := by omega
        have s2 : ¬ 16 ≤ x := by omega
        clear hs
        go_wp2
        go_round
        case rel => exact ⟨k + 1, x, by omega, by go_num, rfl, hg⟩
        case measure => simp [intOf]; omega
    · have hk' : k = n := by omega
      have hg := Lib.hid (risingB_true l (by rw [hup.out, List.drop_eq_nil_of_le (by rw [Hlen.out]; omega)]; rfl))
      subst hk'
      clear hup
      by_cases g1 : 4 ≤ k <;> by_cases g2 : k ≤ 10
      all_goals go_wp2
      all_goals
        go_ret
        refine ⟨?_, rfl⟩
        rw [hg.out, Hlen.out]
        simp [g1, g2] <;> omega

end Go.Proofs.Ytnmhmbfhaiaaoaa

/- Walks of the council: Right, Has, Primary and their references. -/
namespace Go.Proofs.Ytnmhmbfhaiaaoaa
set_option maxRecDepth 100000
open Go.RowKit

set_option maxHeartbeats 400000 in
theorem right_any (e : Int) (a : Option Addr) (n c : Nat) (l : List Int) (w : World) (h : IntsAt w a n l) :
    Calls Try.prog 59 #[.agg #[.int .i64 e, .slice a n c]] w fun r w' => r = .returned (.bool (rightB e l)) ∧ Below w.heap.size w w' := by
  have H := Lib.hid h; clear h
  by_cases h0 : 0 ≤ e
  · by_cases h1 : e ≤ 60
    · have hr := Lib.hid (rightB_3 e l h0 h1)
      go_enter Try.func59, Try.ntmps59
      go_wp2_with (go_at_call 74; refine (rising_any a n c l _ (H.out.alloc _)).mono ?_; rintro e w' ⟨rfl, rfl⟩)
      go_ret
      exact ⟨by rw [hr.out]; rfl, (Below.refl _ _).alloc (Nat.le_refl _) _⟩
    · have hr := Lib.hid (rightB_2 e l h1)
      go_enter Try.func59, Try.ntmps59
      go_wp2_with fail
      go_ret
      exact ⟨by rw [hr.out]; rfl, (Below.refl _ _).alloc (Nat.le_refl _) _⟩
  · have hr := Lib.hid (rightB_1 e l h0)
    go_enter Try.func59, Try.ntmps59
    go_wp2_with fail
    go_ret
    exact ⟨by rw [hr.out]; rfl, (Below.refl _ _).alloc (Nat.le_refl _) _⟩





end Go.Proofs.Ytnmhmbfhaiaaoaa

/- Walks of the council: Primary and its reference. -/
namespace Go.Proofs.Ytnmhmbfhaiaaoaa
set_option maxRecDepth 100000
open Go.RowKit




end Go.Proofs.Ytnmhmbfhaiaaoaa
