
/- Walks of the council: Right, Has, Primary and their references. -/
import Derived.Test.YtdeomokhjmnfhaaCoW
namespace Go.Proofs.Ytdeomokhjmnfhaa
open Go.RowKit

set_option maxHeartbeats 400000 in
theorem right_any (e : Int) (a : Option Addr) (n c : Nat) (l : List Int) (w : World) (h : IntsAt w a n l) :
    Calls Try.prog 29 #[.agg #[.int .i64 e, .slice a n c]] w fun r w' => r = .returned (.bool (rightB e l)) ∧ Below w.heap.size w w' := by
  have H := Lib.hid h; clear h
  by_cases h0 : 0 ≤ e
  · by_cases h1 : e ≤ 60
    · have hr := Lib.hid (rightB_3 e l h0 h1)
      go_enter Try.func29, Try.ntmps29
      go_wp2_with (go_at_call 49; refine (rising_any a n c l _ (H.out.alloc _)).mono ?_; rintro e w' ⟨rfl, rfl⟩)
      go_ret
      exact ⟨by rw [hr.out]; rfl, (Below.refl _ _).alloc (Nat.le_refl _) _⟩
    · have hr := Lib.hid (rightB_2 e l h1)
      go_enter Try.func29, Try.ntmps29
      go_wp2_with fail
      go_ret
      exact ⟨by rw [hr.out]; rfl, (Below.refl _ _).alloc (Nat.le_refl _) _⟩
  · have hr := Lib.hid (rightB_1 e l h0)
    go_enter Try.func29, Try.ntmps29
    go_wp2_with fail
    go_ret
    exact ⟨by rw [hr.out]; rfl, (Below.refl _ _).alloc (Nat.le_refl _) _⟩

set_option maxHeartbeats 400000 in
theorem rright_any (e : Int) (a : Option Addr) (n c : Nat) (l : List Int) (w : World) (h : IntsAt w a n l) :
    Calls Try.prog 31 #[.agg #[.int .i64 e, .slice a n c]] w fun r w' => r = .returned (.bool (rightB e l)) ∧ Below w.heap.size w w' := by
  have H := Lib.hid h; clear h
  by_cases h0 : 0 ≤ e
  · by_cases h1 : e ≤ 60
    · have hr := Lib.hid (rightB_3 e l h0 h1)
      go_enter Try.func31, Try.ntmps31
      go_wp2_with (go_at_call 52; refine (rmembers_any a n c l _ (H.out.alloc _)).mono ?_; rintro e w' ⟨rfl, q, rfl⟩)
      go_ret
      exact ⟨by rw [hr.out]; rfl, below_drewN ((Below.refl _ _).alloc (Nat.le_refl _) _) _⟩
    · have hr := Lib.hid (rightB_2 e l h1)
      go_enter Try.func31, Try.ntmps31
      go_wp2_with fail
      go_ret
      exact ⟨by rw [hr.out]; rfl, (Below.refl _ _).alloc (Nat.le_refl _) _⟩
  · have hr := Lib.hid (rightB_1 e l h0)
    go_enter Try.func31, Try.ntmps31
    go_wp2_with fail
    go_ret
    exact ⟨by rw [hr.out]; rfl, (Below.refl _ _).alloc (Nat.le_refl _) _⟩

set_option maxHeartbeats 400000 in
theorem index_any (a : Option Addr) (n c : Nat) (l : List Int) (id : Int) (w : World) (h : IntsAt w a n l) :
    Calls Try.prog 64 #[.slice a n c, .int .i64 id] w fun e w' => e = .returned (.int .i64 (idxFrom 0 l id)) ∧ w = w' := by
  have hmax := h.max
  have Hlen := Lib.hid h.len
  have H := Lib.hid h; clear h
  go_enter Try.func64, Try.ntmps64
  go_wp2
  go_loop [8] (fun i => ∃ k : Nat, k ≤ n ∧ i = .int .i64 k ∧ Hid (idxFrom 0 l id = idxFrom k (l.drop k) id)) (fun i => n - (intOf i).toNat)
  case atStart => exact ⟨0, by omega, rfl, Lib.hid (by simp)⟩
  case round =>
    obtain ⟨k, hk, rfl, hup⟩ := hrel
    by_cases hlt : k < n
    · obtain ⟨b, o, x, rfl, hc, b0, b1, hd, _⟩ := H.out.elem k hlt
      by_cases hs : id = x
      · have hf := Lib.hid (show idxFrom 0 l id = k by rw [hup.out, hd.out, idxFrom_stop k x id _ hs])
        have hb : (id == x) = true := by simp [hs]
        clear hs
        go_wp2
        go_ret
        exact ⟨by rw [hf.out]; rfl, rfl⟩
      · have hg := Lib.hid (show idxFrom 0 l id = idxFrom (k + 1) (l.drop (k + 1)) id by rw [hup.out, hd.out, idxFrom_go k x id _ hs])
        have hb : (id == x) = false := by simp [hs]
        clear hs
        go_wp2
        go_round
        case rel => exact ⟨k + 1, by omega, by go_num, hg⟩
        case measure => simp [intOf]; omega
    · have hg := Lib.hid (show idxFrom 0 l id = -1 by rw [hup.out, List.drop_eq_nil_of_le (by rw [Hlen.out]; omega)]; rfl)
      clear hup
      go_wp2
      go_ret
      exact ⟨by rw [hg.out]; rfl, rfl⟩

set_option maxHeartbeats 400000 in
theorem contains_any (a : Option Addr) (n c : Nat) (l : List Int) (id : Int) (w : World) (h : IntsAt w a n l) :
    Calls Try.prog 62 #[.slice a n c, .int .i64 id] w fun e w' => e = .returned (.bool (hasB l id)) ∧ w = w' := by
  have H := Lib.hid h; clear h
  have hh := Lib.hid (idxFrom_has l id 0)
  go_enter Try.func62, Try.ntmps62
  go_wp2_with (go_at_call 64; refine (index_any a n c l id _ H.out).mono ?_; rintro e w' ⟨rfl, rfl⟩)
  go_ret
  exact ⟨by rw [← hh.out]; rfl, rfl⟩

set_option maxHeartbeats 400000 in
theorem has_any (e : Int) (a : Option Addr) (n c : Nat) (l : List Int) (id : Int) (w : World) (h : IntsAt w a n l) :
    Calls Try.prog 51 #[.agg #[.int .i64 e, .slice a n c], .int .i64 id] w fun r w' => r = .returned (.bool (hasB l id)) ∧ Below w.heap.size w w' := by
  have H := Lib.hid h; clear h
  go_enter Try.func51, Try.ntmps51
  go_wp2_with (go_at_call 62; refine (contains_any a n c l id _ (H.out.alloc _)).mono ?_; rintro e w' ⟨rfl, rfl⟩)
  go_ret
  exact ⟨rfl, (Below.refl _ _).alloc (Nat.le_refl _) _⟩

set_option maxHeartbeats 400000 in
theorem rhas_any (a : Option Addr) (n c : Nat) (l : List Int) (id : Int) (w : World) (h : IntsAt w a n l) :
    Calls Try.prog 53 #[.slice a n c, .int .i64 id] w fun e w' => e = .returned (.bool (hasB l id)) ∧ w = w' := by
  have hmax := h.max
  have Hlen := Lib.hid h.len
  have H := Lib.hid h; clear h
  go_enter Try.func53, Try.ntmps53
  go_wp2
  go_loop [5] (fun i => ∃ k : Nat, k ≤ n ∧ i = .int .i64 k ∧ Hid (hasB l id = hasB (l.drop k) id)) (fun i => n - (intOf i).toNat)
  case atStart => exact ⟨0, by omega, rfl, Lib.hid (by simp)⟩
  case round =>
    obtain ⟨k, hk, rfl, hup⟩ := hrel
    by_cases hlt : k < n
    · obtain ⟨b, o, x, rfl, hc, b0, b1, hd, _⟩ := H.out.elem k hlt
      by_cases hs : id = x
      · have hf := Lib.hid (show hasB l id = true by rw [hup.out, hd.out, hasB_stop x id _ hs])
        have hb : (x == id) = true := by simp [hs]
        clear hs
        go_wp2
        go_ret
        exact ⟨by rw [hf.out]; rfl, rfl⟩
      · have hg := Lib.hid (show hasB l id = hasB (l.drop (k + 1)) id by rw [hup.out, hd.out, hasB_go x id _ hs])
        have hb : (x == id) = false := by simp; omega
        clear hs
        go_wp2
        go_round
        case rel => exact ⟨k + 1, by omega, by go_num, hg⟩
        case measure => simp [intOf]; omega
    · have hg := Lib.hid (show hasB l id = false by rw [hup.out, List.drop_eq_nil_of_le (by rw [Hlen.out]; omega)]; rfl)
      clear hup
      go_wp2
      go_ret
      exact ⟨by rw [hg.out]; rfl, rfl⟩
end Go.Proofs.Ytdeomokhjmnfhaa
