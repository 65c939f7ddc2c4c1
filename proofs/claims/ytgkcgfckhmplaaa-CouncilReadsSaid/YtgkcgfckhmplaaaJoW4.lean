/- Walks of the reference's Join and Leave, and of SameInts. -/
import Derived.Test.YtgkcgfckhmplaaaJoW3
namespace Go.Proofs.Ytgkcgfckhmplaaa
open Go.RowKit
set_option linter.unusedVariables false

theorem fitsB_cases {l : List Int} {id : Int} (h : fitsB l id = false) : risingB l = false ∨ (risingB l = true ∧ id < 0) ∨ (risingB l = true ∧ ¬ id < 0 ∧ 16 ≤ id) := by
  cases hr : risingB l with
  | false => exact .inl rfl
  | true =>
    simp [fitsB, hr] at h
    by_cases h0 : id < 0
    · exact .inr (.inl ⟨rfl, h0⟩)
    · exact .inr (.inr ⟨rfl, h0, h (by omega)⟩)

set_option maxHeartbeats 400000 in
theorem rjoin_no (a : Option Addr) (n c : Nat) (l : List Int) (id : Int) (w : World) (h : IntsAt w a n l) (hid : i64 id) (he : joinE l id ≠ 0) :
    Calls Try.prog 26 #[.slice a n c, .int .i64 id] w (MovePost w [] (joinE l id)) := by
  have hmax := h.max
  have hlen := h.len
  have H := Lib.hid h; clear h
  cases hf : fitsB l id with
  | false =>
    have he1 := Lib.hid (show joinE l id = 1 by unfold joinE; rw [if_pos hf])
    clear he
    rcases fitsB_cases hf with hr | ⟨hr, h0⟩ | ⟨hr, h0, h1⟩
    all_goals
      have Hr := Lib.hid hr; clear hr hf
      go_enter Try.func26, Try.ntmps26
      go_wp2_with (go_at_call 36; refine (rmembers_any a n c l _ H.out).mono ?_; rw [Hr.out]; rintro e w' ⟨rfl, q, rfl⟩)
      go_ret2
      rw [he1.out]
      exact move_nil (below_drewN (Below.refl _ _) _)
  | true =>
    obtain ⟨hr, hi0, hi1⟩ := fitsB_ris hf
    have hl10 := risingB_len hr
    rw [hlen] at hl10
    have i0 : ¬ id < 0 := by omega
    have i1 : ¬ 16 ≤ id := by omega
    have Hr := Lib.hid hr
    cases hh : hasB l id with
    | true =>
      have he1 := Lib.hid (show joinE l id = 7 by unfold joinE; rw [if_neg (by simp [hf]), if_pos hh])
      have Hh := Lib.hid hh; clear hh hf he hr hlen
      go_enter Try.func26, Try.ntmps26
      go_wp2_with (first | (go_at_call 36; refine (rmembers_any a n c l _ H.out).mono ?_; rw [Hr.out]; rintro e w' ⟨rfl, q, rfl⟩) | (go_at_call 22; refine (rhas_any a n c l id _ (H.out.below (below_drewN (Below.refl _ _) _))).mono ?_; rw [Hh.out]; rintro e w' ⟨rfl, rfl⟩))
      go_ret2
      rw [he1.out]
      exact move_nil (below_drewN (Below.refl _ _) _)
    | false =>
      have h10 : n = 10 := by
        unfold joinE at he
        rw [if_neg (by simp [hf]), if_neg (by simp [hh]), hlen] at he
        split at he
        · omega
        · exact absurd rfl he
      have he1 := Lib.hid (show joinE l id = 10 by unfold joinE; rw [if_neg (by simp [hf]), if_neg (by simp [hh]), if_pos (by omega)])
      have Hh := Lib.hid hh; clear hh hf he hr hlen
      subst h10
      go_enter Try.func26, Try.ntmps26
      go_wp2_with (first | (go_at_call 36; refine (rmembers_any a 10 c l _ H.out).mono ?_; rw [Hr.out]; rintro e w' ⟨rfl, q, rfl⟩) | (go_at_call 22; refine (rhas_any a 10 c l id _ (H.out.below (below_drewN (Below.refl _ _) _))).mono ?_; rw [Hh.out]; rintro e w' ⟨rfl, rfl⟩))
      go_ret2
      rw [he1.out]
      exact move_nil (below_drewN (Below.refl _ _) _)

set_option maxHeartbeats 400000 in
theorem rjoin_yes (a : Option Addr) (n c : Nat) (l : List Int) (id : Int) (w : World) (h : IntsAt w a n l) (hid : i64 id) (he : joinE l id = 0) :
    Calls Try.prog 26 #[.slice a n c, .int .i64 id] w (MovePost w (joinP l id) 0) := by
  have hmax := h.max
  have hlen := h.len
  have H := Lib.hid h; clear h
  obtain ⟨hf, hh, hl10⟩ := joinE_0 he
  obtain ⟨hr, hi0, hi1⟩ := fitsB_ris hf
  rw [hlen] at hl10
  have i0 : ¬ id < 0 := by omega
  have i1 : ¬ 16 ≤ id := by omega
  have Hr := Lib.hid hr
  have Hh := Lib.hid hh
  have Hj := Lib.hid (collP_join he)
  clear hh hf he hr hlen
  obtain ⟨ii, hi, hz0, hz1, hz2⟩ := info_parts info_int
  go_enter Try.func26, Try.ntmps26
  go_wp2_with (first | (go_at_call 36; refine (rmembers_any a n c l _ H.out).mono ?_; rw [Hr.out]; rintro e w' ⟨rfl, q, rfl⟩) | (go_at_call 22; refine (rhas_any a n c l id _ (H.out.below (below_drewN (Below.refl _ _) _))).mono ?_; rw [Hh.out]; rintro e w' ⟨rfl, rfl⟩))
  go_loopw [6, 7] (fun v i wr => ∃ k : Nat, k ≤ 16 ∧ i = .int .i64 k ∧ Hid (wr.ownsRow w.heap.size 3 1 v (collP l id k).length (intsV (collP l id k))) ∧ Hid (Below w.heap.size w wr)) (fun _ i _ => 16 - (intOf i).toNat)
  case atStart => exact ⟨0, by omega, rfl, Lib.hid (World.ownsRow_nil _ _ _ _), Lib.hid (below_drewN (Below.refl _ _) _)⟩
  case round =>
    obtain ⟨k, hk, rfl, hown, hB⟩ := hrel
    by_cases hlt : k < 16
    · have CH := rhas_any a n c l (k : Int) wr (H.out.below hB.out)
      by_cases hin : (k : Int) = id ∨ hasB l k = true
      · have hc := Lib.hid (collP_yes hin)
        have hL := collP_len l id k
        have hfin : ∀ (v' : Value) (w1 : World), w1.ownsRow w.heap.size 3 1 v' ((collP l id k).length + 1) (intsV (collP l id k) ++ [.int .i64 k]) → w1.ownsRow w.heap.size 3 1 v' (collP l id (k + 1)).length (intsV (collP l id (k + 1))) := fun v' w1 h => by
          rw [hc.out, intsV_append, List.length_append]; exact h
        have Hfin := Lib.hid hfin; clear hfin
        cases hne : (k : Int) == id with
        | true =>
          clear hin CH
          go_wp2_with (at_builtin; refine wpList_append_own _ rfl (.tmp 40) (.tmp 42) 28 rfl w.heap.size 3 ii (.int .i64 0) 1 8 Try.underlying28 hi hz0 hz1 hz2 rfl (by decide) _ (collP l id k).length (intsV (collP l id k)) rfl (hown.out.alloc _) ⟨wr.heap.size, 0, none⟩ 1 1 [.int .i64 k] rfl rfl ?c1a ?c2a ?c3a ?c4a ?c5a ?_)
          case c1a => exact cell_one_new _ _ _
          case c2a => simp [Value.oneCell']
          case c3a => simp only [maxLen]; omega
          case c4a => omega
          case c5a => have := hB.out.size; simp; omega
          intro v' w1 hown1 hg1 _
          have hB1 := Lib.hid ((balloc hB.out _).grown hg1 (by have := hB.out.size; simp; omega) (fun k hk => (hown.out.lt k hk).1))
          have hown1' := Lib.hid (Hfin.out v' w1 hown1)
          clear hown hown1 hg1 hB hc Hfin
          go_wp2_with fail
          go_roundw
          case rel => exact ⟨k + 1, by omega, by go_num, hown1', hB1⟩
          case measure => simp [intOf]; omega
        | false =>
          have hh1 : hasB l k = true := by
            rcases hin with h | h
            · simp [h] at hne
            · exact h
          rw [hh1] at CH
          replace CH := Lib.hid CH
          clear hin hh1
          go_wp2_with fail
          refine CH.out.mono ?_; rintro e w' ⟨rfl, rfl⟩
          go_wp2_with (at_builtin; refine wpList_append_own _ rfl (.tmp 40) (.tmp 42) 28 rfl w.heap.size 3 ii (.int .i64 0) 1 8 Try.underlying28 hi hz0 hz1 hz2 rfl (by decide) _ (collP l id k).length (intsV (collP l id k)) rfl (hown.out.alloc _) ⟨wr.heap.size, 0, none⟩ 1 1 [.int .i64 k] rfl rfl ?c1b ?c2b ?c3b ?c4b ?c5b ?_)
          case c1b => exact cell_one_new _ _ _
          case c2b => simp [Value.oneCell']
          case c3b => simp only [maxLen]; omega
          case c4b => omega
          case c5b => have := hB.out.size; simp; omega
          intro v' w1 hown1 hg1 _
          have hB1 := Lib.hid ((balloc hB.out _).grown hg1 (by have := hB.out.size; simp; omega) (fun k hk => (hown.out.lt k hk).1))
          have hown1' := Lib.hid (Hfin.out v' w1 hown1)
          clear hown hown1 hg1 hB hc Hfin
          go_wp2_with fail
          go_roundw
          case rel => exact ⟨k + 1, by omega, by go_num, hown1', hB1⟩
          case measure => simp [intOf]; omega
      · have hc := Lib.hid (collP_no hin)
        have hne : ((k : Int) == id) = false := by simp; exact fun h => hin (.inl h)
        have hnh : hasB l k = false := by cases h : hasB l k; rfl; exact absurd (.inr h) hin
        rw [hnh] at CH
        replace CH := Lib.hid CH
        clear hin hnh
        go_wp2_with fail
        refine CH.out.mono ?_; rintro e w' ⟨rfl, rfl⟩
        go_wp2_with fail
        go_roundw
        case rel => exact ⟨k + 1, by omega, by go_num, by rw [hc.out]; exact hown, hB⟩
        case measure => simp [intOf]; omega
    · obtain rfl : k = 16 := by omega
      go_wp2_with fail
      go_ret2
      rw [Hj.out] at hown
      exact ⟨_, rfl, hown.out, hB.out⟩
end Go.Proofs.Ytgkcgfckhmplaaa
