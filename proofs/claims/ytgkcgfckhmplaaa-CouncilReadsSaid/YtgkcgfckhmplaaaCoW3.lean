/- Walks of the council: Primary and its reference. -/
import Derived.Test.YtgkcgfckhmplaaaCoW2
namespace Go.Proofs.Ytgkcgfckhmplaaa
open Go.RowKit

set_option maxHeartbeats 400000 in
theorem primary_no (e : Int) (a : Option Addr) (n c : Nat) (l : List Int) (view : Int) (w : World) (h : IntsAt w a n l) (hno : rightB e l = false ∨ view < 0) :
    Calls Try.prog 23 #[.agg #[.int .i64 e, .slice a n c], .int .i64 view] w fun r w' => r = .returned (.tuple #[.int .i64 0, .bool false]) ∧ Below w.heap.size w w' := by
  have H := Lib.hid h; clear h
  cases hr : rightB e l with
  | false =>
    have Hr := Lib.hid hr; clear hr hno
    go_enter Try.func23, Try.ntmps23
    go_wp2_with (go_at_call 19; refine (right_any e a n c l _ (H.out.alloc _)).mono ?_; rw [Hr.out]; rintro e w' ⟨rfl, hb⟩)
    go_ret2
    exact ⟨rfl, ((Below.refl _ _).alloc (Nat.le_refl _) _).trans (hb.mono (by simp))⟩
  | true =>
    have hv : view < 0 := by rcases hno with h | h; rw [hr] at h; cases h; exact h
    have Hr := Lib.hid hr; clear hr hno
    go_enter Try.func23, Try.ntmps23
    go_wp2_with (go_at_call 19; refine (right_any e a n c l _ (H.out.alloc _)).mono ?_; rw [Hr.out]; rintro e w' ⟨rfl, hb⟩)
    go_ret2
    exact ⟨rfl, ((Below.refl _ _).alloc (Nat.le_refl _) _).trans (hb.mono (by simp))⟩

set_option maxHeartbeats 400000 in
theorem primary_yes (e : Int) (a : Option Addr) (n c : Nat) (l : List Int) (view : Int) (w : World) (h : IntsAt w a n l) (hr : rightB e l = true) (hv : 0 ≤ view) (hv2 : view ≤ 9223372036854775807) :
    Calls Try.prog 23 #[.agg #[.int .i64 e, .slice a n c], .int .i64 view] w fun r w' => r = .returned (.tuple #[.int .i64 (primP l view), .bool true]) ∧ Below w.heap.size w w' := by
  have hlen := risingB_len (rightB_rising hr).2.2
  have hn := h.len
  have H := Lib.hid h; clear h
  have Hr := Lib.hid hr; clear hr
  obtain ⟨b, o, x, rfl, hc, b0, b1, hd, hx⟩ := H.out.elem (view.toNat % n) (Nat.mod_lt _ (by omega))
  have hm : (view % (n : Int)).toNat = view.toNat % n := by
    obtain ⟨m, rfl⟩ := Int.eq_ofNat_of_zero_le hv
    rw [← Int.natCast_emod, Int.toNat_natCast, Int.toNat_natCast]
  have hm0 : 0 ≤ view % (n : Int) := Int.emod_nonneg _ (by omega)
  have hm1 : view % (n : Int) < n := Int.emod_lt_of_pos _ (by omega)
  have hp := Lib.hid (show primP l view = x by unfold primP; rw [hn, List.getD, hx.out]; rfl)
  rw [← hm] at hc
  have hn0 : (0 : Int) < (n : Int) := by omega
  have hn1 : (n : Int) ≤ 10 := by omega
  clear hm hd hx hlen hn
  go_enter Try.func23, Try.ntmps23
  go_wp2_with (go_at_call 19; refine (right_any e _ n c l _ (H.out.alloc _)).mono ?_; rw [Hr.out]; rintro e w' ⟨rfl, hb⟩)
  obtain ⟨hb1, hb2⟩ := bcell hb
  have hz := hb.size
  simp only [World.size_alloc] at hz hb1 hb2
  have hcb := World.block_lt hc
  go_quiet (fail)
  go_wp2
  go_ret2
  exact ⟨by rw [hp.out]; rfl, ((Below.refl _ _).alloc (Nat.le_refl _) _).trans (below_drewN (hb.mono (by simp)) _)⟩
set_option maxHeartbeats 400000 in
theorem rprimary_no (e : Int) (a : Option Addr) (n c : Nat) (l : List Int) (view : Int) (w : World) (h : IntsAt w a n l) (hno : rightB e l = false ∨ view < 0) :
    Calls Try.prog 24 #[.agg #[.int .i64 e, .slice a n c], .int .i64 view] w fun r w' => r = .returned (.tuple #[.int .i64 0, .bool false]) ∧ Below w.heap.size w w' := by
  have H := Lib.hid h; clear h
  cases hr : rightB e l with
  | false =>
    have Hr := Lib.hid hr; clear hr hno
    go_enter Try.func24, Try.ntmps24
    go_wp2_with (go_at_call 20; refine (rright_any e a n c l _ (H.out.alloc _)).mono ?_; rw [Hr.out]; rintro e w' ⟨rfl, hb⟩)
    go_ret2
    exact ⟨rfl, ((Below.refl _ _).alloc (Nat.le_refl _) _).trans (hb.mono (by simp))⟩
  | true =>
    have hv : view < 0 := by rcases hno with h | h; rw [hr] at h; cases h; exact h
    have Hr := Lib.hid hr; clear hr hno
    go_enter Try.func24, Try.ntmps24
    go_wp2_with (go_at_call 20; refine (rright_any e a n c l _ (H.out.alloc _)).mono ?_; rw [Hr.out]; rintro e w' ⟨rfl, hb⟩)
    go_ret2
    exact ⟨rfl, ((Below.refl _ _).alloc (Nat.le_refl _) _).trans (hb.mono (by simp))⟩

set_option maxHeartbeats 400000 in
theorem rprimary_yes (e : Int) (a : Option Addr) (n c : Nat) (l : List Int) (view : Int) (w : World) (h : IntsAt w a n l) (hr : rightB e l = true) (hv : 0 ≤ view) (hv2 : view ≤ 9223372036854775807) :
    Calls Try.prog 24 #[.agg #[.int .i64 e, .slice a n c], .int .i64 view] w fun r w' => r = .returned (.tuple #[.int .i64 (primP l view), .bool true]) ∧ Below w.heap.size w w' := by
  have hlen := risingB_len (rightB_rising hr).2.2
  have hn := h.len
  have H := Lib.hid h; clear h
  have Hr := Lib.hid hr; clear hr
  obtain ⟨b, o, x, rfl, hc, b0, b1, hd, hx⟩ := H.out.elem (view.toNat % n) (Nat.mod_lt _ (by omega))
  have hm : (view % (n : Int)).toNat = view.toNat % n := by
    obtain ⟨m, rfl⟩ := Int.eq_ofNat_of_zero_le hv
    rw [← Int.natCast_emod, Int.toNat_natCast, Int.toNat_natCast]
  have hm0 : 0 ≤ view % (n : Int) := Int.emod_nonneg _ (by omega)
  have hm1 : view % (n : Int) < n := Int.emod_lt_of_pos _ (by omega)
  have hp := Lib.hid (show primP l view = x by unfold primP; rw [hn, List.getD, hx.out]; rfl)
  rw [← hm] at hc
  have hn0 : (0 : Int) < (n : Int) := by omega
  have hn1 : (n : Int) ≤ 10 := by omega
  clear hm hd hx hlen hn
  go_enter Try.func24, Try.ntmps24
  go_wp2_with (go_at_call 20; refine (rright_any e _ n c l _ (H.out.alloc _)).mono ?_; rw [Hr.out]; rintro e w' ⟨rfl, hb⟩)
  obtain ⟨hb1, hb2⟩ := bcell hb
  have hz := hb.size
  simp only [World.size_alloc] at hz hb1 hb2
  have hcb := World.block_lt hc
  go_quiet (fail)
  go_wp2
  go_ret2
  exact ⟨by rw [hp.out]; rfl, ((Below.refl _ _).alloc (Nat.le_refl _) _).trans (below_drewN (hb.mono (by simp)) _)⟩

set_option maxHeartbeats 400000 in
theorem lives_any (w : World) :
    Calls Try.prog 11 #[] w fun r w' => r = .returned (.bool true) ∧ Below w.heap.size w w' := by
  go_enter Try.func11, Try.ntmps11
  go_wp2_with fail
  have hi := IntsAt.made w [1, 2, 3, 4] 3 (by simp [i64]) (by simp)
  have c1 := primary_yes 0 _ 4 4 [1, 2, 3, 4] 5 _ (hi.alloc (.cells #[.int .i64 0, .slice (some ⟨w.heap.size, 0, none⟩) 4 4] 30)) (by decide) (by omega) (by omega)
  rw [show primP [1, 2, 3, 4] 5 = 2 by decide] at c1
  refine c1.mono ?_
  rintro e w1 ⟨rfl, hb⟩
  obtain ⟨hb1, hb2⟩ := bcell hb
  have hi1 := Lib.hid ((hi.alloc (.cells #[.int .i64 0, .slice (some ⟨w.heap.size, 0, none⟩) 4 4] 30)).below hb)
  clear hi c1
  simp only [World.size_alloc] at hb1 hb2
  go_wp2_with fail
  have c2 := right_any 0 _ 4 4 [1, 2, 3, 4] w1 hi1.out
  rw [show rightB 0 [1, 2, 3, 4] = true by decide] at c2
  refine c2.mono ?_
  clear c2
  rintro e w2 ⟨rfl, hb'⟩
  have c3 := fun w => quorum_any 4 w (by omega) (by omega)
  rw [show quorumP 4 = 3 by decide] at c3
  have C3 := Lib.hid c3; clear c3
  go_wp2_with (go_at_call 14; refine (C3.out _).mono ?_; rintro e w' ⟨rfl, rfl⟩)
  go_ret
  refine ⟨rfl, ?_⟩
  exact (((Below.refl _ _).alloc (Nat.le_refl _) _).alloc (by simp) _).trans ((hb.mono (by simp; omega)).trans (hb'.mono (by have := hb.size; simp at this; omega)))
end Go.Proofs.Ytgkcgfckhmplaaa
