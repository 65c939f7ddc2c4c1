/- Walks of the search and of 'fits'. -/
import Derived.Test.YtgkcgfckhmplaaaCoW3
import Derived.Test.YtgkcgfckhmplaaaJoP
import Derived.Test.YtgkcgfckhmplaaaQuiet
namespace Go.Proofs.Ytgkcgfckhmplaaa
open Go.RowKit
set_option linter.unusedVariables false

set_option maxHeartbeats 400000 in
theorem less_any (x y : Int) (w : World) :
    Calls Try.prog 54 #[.int .i64 x, .int .i64 y] w fun e w' => e = .returned (.bool (decide (x < y))) ∧ w = w' := by
  go_enter Try.func54, Try.ntmps54
  go_wp2
  go_ret
  exact ⟨rfl, rfl⟩

set_option maxHeartbeats 400000 in
theorem fits_any (a : Option Addr) (n c : Nat) (l : List Int) (id : Int) (w : World) (h : IntsAt w a n l) :
    Calls Try.prog 38 #[.slice a n c, .int .i64 id] w fun e w' => e = .returned (.bool (fitsB l id)) ∧ w = w' := by
  have H := Lib.hid h; clear h
  have hs := Lib.hid (show fitsB l id = (risingB l && decide (0 ≤ id) && decide (id < 16)) from rfl)
  cases hr : risingB l with
  | false =>
    have Hr := Lib.hid hr; clear hr
    go_enter Try.func38, Try.ntmps38
    go_wp2_with (go_at_call 35; refine (rising_any a n c l _ H.out).mono ?_; rw [Hr.out]; rintro e w' ⟨rfl, rfl⟩)
    go_ret
    exact ⟨by rw [hs.out, Hr.out]; rfl, rfl⟩
  | true =>
    have Hr := Lib.hid hr; clear hr
    by_cases h0 : 0 ≤ id
    all_goals by_cases h1 : id < 16
    all_goals
      go_enter Try.func38, Try.ntmps38
      go_wp2_with (go_at_call 35; refine (rising_any a n c l _ H.out).mono ?_; rw [Hr.out]; rintro e w' ⟨rfl, rfl⟩)
    all_goals
      go_ret
      refine ⟨?_, rfl⟩
      rw [hs.out, Hr.out]
      simp [h0, h1]
      try omega

set_option maxHeartbeats 400000 in
theorem search_any (a : Option Addr) (n c : Nat) (l : List Int) (id : Int) (w : World) (h : IntsAt w a n l) (hinc : incP l) (hn : n ≤ 1000) :
    Calls Try.prog 39 #[.slice a n c, .int .i64 id] w fun e w' => e = .returned (.tuple #[.int .i64 (posP l id), .bool (hasB l id)]) ∧ ∃ q, w' = w.drewN q := by
  have Hlen := Lib.hid h.len
  have H := Lib.hid h; clear h
  have Hinc := Lib.hid hinc; clear hinc
  go_enter Try.func39, Try.ntmps39
  go_wp2
  go_loopw [7, 8] (fun i j w1 => ∃ s t q : Nat, i = .int .i64 s ∧ j = .int .i64 t ∧ s ≤ t ∧ t ≤ n ∧ w1 = w.drewN q ∧ Hid (∀ k, k < s → l.getD k 0 < id) ∧ Hid (∀ k, t ≤ k → k < n → id ≤ l.getD k 0)) (fun i j _ => (intOf j).toNat - (intOf i).toNat)
  case atStart => exact ⟨0, n, 0, rfl, rfl, by omega, by omega, rfl, Lib.hid (by omega), Lib.hid (by omega)⟩
  case round =>
    obtain ⟨s, t, q, rfl, rfl, hst, ht, rfl, h1, h2⟩ := hrel
    by_cases hlt : s < t
    · obtain ⟨b, o, x, rfl, hc, b0, b1, _, hx⟩ := H.out.elem ((s + t) / 2) (by omega)
      have hxd : l.getD ((s + t) / 2) 0 = x := by simp [List.getD, hx.out]
      have CL := fun w => less_any x id w
      have m1 : (s : Int) ≤ ((s : Int) + t) / 2 := by omega
      have m2 : ((s : Int) + t) / 2 < t := by omega
      by_cases hless : x < id
      · have h1' := Lib.hid (show ∀ k, k < (s + t) / 2 + 1 → l.getD k 0 < id from fun k hk => by
          rcases Nat.lt_or_eq_of_le (Nat.le_of_lt_succ hk) with h | h
          · have := Hinc.out k _ h (by rw [Hlen.out]; omega); omega
          · subst h; omega)
        rw [show decide (x < id) = true by simpa using hless] at CL
        replace CL := Lib.hid CL
        clear hxd h1 hx
        go_wp2_with fail
        refine (CL.out _).mono ?_; rintro e w' ⟨rfl, rfl⟩
        go_wp2_with fail
        go_roundw
        case rel => exact ⟨(s + t) / 2 + 1, t, q, by go_num, rfl, by omega, by omega, rfl, h1', h2⟩
        case measure => simp [intOf]; omega
      · have h2' := Lib.hid (show ∀ k, (s + t) / 2 ≤ k → k < n → id ≤ l.getD k 0 from fun k hk hkn => by
          rcases Nat.lt_or_eq_of_le hk with h | h
          · have := Hinc.out _ k h (by rw [Hlen.out]; omega); omega
          · rw [← h]; omega)
        rw [show decide (x < id) = false by simpa using hless] at CL
        replace CL := Lib.hid CL
        clear hxd h2 hx
        go_wp2_with fail
        refine (CL.out _).mono ?_; rintro e w' ⟨rfl, rfl⟩
        go_wp2_with fail
        go_roundw
        case rel => exact ⟨s, (s + t) / 2, q, rfl, by go_num, by omega, by omega, rfl, h1, h2'⟩
        case measure => simp [intOf]; omega
    · obtain rfl : s = t := by omega
      have hpos := posP_eq l id s (by rw [Hlen.out]; omega) h1.out (fun hlt => h2.out s (Nat.le_refl _) (by rw [← Hlen.out]; exact hlt))
      have hhas := pos_has Hinc.out h1.out (fun k hk hkl => h2.out k hk (by rw [← Hlen.out]; exact hkl))
      have Hpos := Lib.hid hpos
      rw [Hlen.out] at hhas
      clear hpos h1 h2
      by_cases hsn : s < n
      · obtain ⟨b, o, x, rfl, hc, b0, b1, _, hx⟩ := H.out.elem s hsn
        have hxd : l.getD s 0 = x := by simp [List.getD, hx.out]
        rw [hxd] at hhas
        cases hxe : x == id with
        | true =>
          have Hhas := Lib.hid (show hasB l id = true by rw [hhas, hxe]; simp [hsn])
          clear hhas hxd hx
          go_wp2
          go_ret2
          exact ⟨by rw [Hpos.out, Hhas.out]; rfl, q, rfl⟩
        | false =>
          have Hhas := Lib.hid (show hasB l id = false by rw [hhas, hxe]; simp)
          clear hhas hxd hx
          go_wp2
          go_ret2
          exact ⟨by rw [Hpos.out, Hhas.out]; rfl, q, rfl⟩
      · have Hhas := Lib.hid (show hasB l id = false by rw [hhas]; simp [hsn])
        clear hhas
        go_wp2
        go_ret2
        exact ⟨by rw [Hpos.out, Hhas.out]; rfl, q, rfl⟩
end Go.Proofs.Ytgkcgfckhmplaaa
