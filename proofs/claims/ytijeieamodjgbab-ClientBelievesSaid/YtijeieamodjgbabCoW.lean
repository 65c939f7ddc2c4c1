
/- Walks of the council: rising, Right, Has and their references. -/
import Derived.Test.YtijeieamodjgbabRows
import Derived.Test.YtijeieamodjgbabCoP
import Derived.Deep.QuietTactic
import Derived.BigQuiet

namespace Go.Proofs.Ytijeieamodjgbab
set_option maxRecDepth 100000
open Go.RowKit

set_option maxHeartbeats 400000 in
theorem rising_any (a : Option Addr) (n c : Nat) (l : List Int) (w : World) (h : IntsAt w a n l) :
    Calls Try.prog 70 #[.slice a n c] w fun e w' => e = .returned (.bool (risingB l)) ∧ w = w' := by
  have hmax := h.max
  have Hlen := Lib.hid h.len
  have H := Lib.hid h; clear h
  go_enter Try.func70, Try.ntmps70
  go_wp2
  go_loop [3, 8] (fun t i => ∃ k : Nat, ∃ z : Int, k ≤ n ∧ i = .int .i64 k ∧ t = .int .i64 z ∧ Hid (upFrom (-1) l = upFrom z (l.drop k))) (fun _ i => n - (intOf i).toNat)
  case atStart => exact ⟨0, -1, by omega, rfl, rfl, Lib.hid (by simp)⟩
  case round =>
    obtain ⟨k, z, hk, rfl, rfl, hup⟩ := hrel
    by_cases hlt : k < n
    · obtain ⟨b, o, x, rfl, hc, b0, b1, hd, _⟩ := H.out.elem k hlt
      by_cases hs : x ≤ z ∨ 16 ≤ x
      · have hf := Lib.hid (risingB_false l (by rw [hup.out, hd.out, upFrom_stop z x _ hs]))
        go_wp2
        all_goals
          go_ret
          exact ⟨by rw [hf.out]; rfl, rfl⟩
      · have hg := Lib.hid (show upFrom (-1) l = upFrom x (l.drop (k + 1)) by rw [hup.out, hd.out, upFrom_go z x _ hs])
        have s1 : ¬ x ≤ z := by omega
        have s2 : ¬ 16 ≤ x := by omega
        clear hs
        go_wp2
        go_round
        case rel => exact ⟨k + 1, x, by omega, by go_num, rfl, hg⟩
        case measure => simp [intOf]; omega
    · have hk' : k = n := by omega
      have hg := Lib.hid (risingB_true l (by rw [hup.out, List.drop_eq_nil_of_le (by rw [Hlen.out]; omega)]; rfl))
      subst hk'
      clear hup
      by_cases g1 : 4 ≤ k <;> by_cases g2 : k ≤ 10
      all_goals go_wp2
      all_goals
        go_ret
        refine ⟨?_, rfl⟩
        rw [hg.out, Hlen.out]
        simp [g1, g2] <;> omega

end Go.Proofs.Ytijeieamodjgbab

/- Walks of the council: Right, Has, Primary and their references. -/
namespace Go.Proofs.Ytijeieamodjgbab
set_option maxRecDepth 100000
open Go.RowKit

set_option maxHeartbeats 400000 in
theorem right_any (e : Int) (a : Option Addr) (n c : Nat) (l : List Int) (w : World) (h : IntsAt w a n l) :
    Calls Try.prog 39 #[.agg #[.int .i64 e, .slice a n c]] w fun r w' => r = .returned (.bool (rightB e l)) ∧ Below w.heap.size w w' := by
  have H := Lib.hid h; clear h
  by_cases h0 : 0 ≤ e
  · by_cases h1 : e ≤ 60
    · have hr := Lib.hid (rightB_3 e l h0 h1)
      go_enter Try.func39, Try.ntmps39
      go_wp2_with (go_at_call 70; refine (rising_any a n c l _ (H.out.alloc _)).mono ?_; rintro e w' ⟨rfl, rfl⟩)
      go_ret
      exact ⟨by rw [hr.out]; rfl, (Below.refl _ _).alloc (Nat.le_refl _) _⟩
    · have hr := Lib.hid (rightB_2 e l h1)
      go_enter Try.func39, Try.ntmps39
      go_wp2_with fail
      go_ret
      exact ⟨by rw [hr.out]; rfl, (Below.refl _ _).alloc (Nat.le_refl _) _⟩
  · have hr := Lib.hid (rightB_1 e l h0)
    go_enter Try.func39, Try.ntmps39
    go_wp2_with fail
    go_ret
    exact ⟨by rw [hr.out]; rfl, (Below.refl _ _).alloc (Nat.le_refl _) _⟩

set_option maxHeartbeats 400000 in
theorem index_any (a : Option Addr) (n c : Nat) (l : List Int) (id : Int) (w : World) (h : IntsAt w a n l) :
    Calls Try.prog 98 #[.slice a n c, .int .i64 id] w fun e w' => e = .returned (.int .i64 (idxFrom 0 l id)) ∧ w = w' := by
  have hmax := h.max
  have Hlen := Lib.hid h.len
  have H := Lib.hid h; clear h
  go_enter Try.func98, Try.ntmps98
  go_wp2
  go_loop [8] (fun i => ∃ k : Nat, k ≤ n ∧ i = .int .i64 k ∧ Hid (idxFrom 0 l id = idxFrom k (l.drop k) id)) (fun i => n - (intOf i).toNat)
  case atStart => exact ⟨0, by omega, rfl, Lib.hid (by simp)⟩
  case round =>
    obtain ⟨k, hk, rfl, hup⟩ := hrel
    by_cases hlt : k < n
    · obtain ⟨b, o, x, rfl, hc, b0, b1, hd, _⟩ := H.out.elem k hlt
      by_cases hs : id = x
      · have hf := Lib.hid (show idxFrom 0 l id = k by rw [hup.out, hd.out, idxFrom_stop k x id _ hs])
        have hb : (id == x) = true := by simp [hs]
        clear hs
        go_wp2
        go_ret
        exact ⟨by rw [hf.out]; rfl, rfl⟩
      · have hg := Lib.hid (show idxFrom 0 l id = idxFrom (k + 1) (l.drop (k + 1)) id by rw [hup.out, hd.out, idxFrom_go k x id _ hs])
        have hb : (id == x) = false := by simp [hs]
        clear hs
        go_wp2
        go_round
        case rel => exact ⟨k + 1, by omega, by go_num, hg⟩
        case measure => simp [intOf]; omega
    · have hg := Lib.hid (show idxFrom 0 l id = -1 by rw [hup.out, List.drop_eq_nil_of_le (by rw [Hlen.out]; omega)]; rfl)
      clear hup
      go_wp2
      go_ret
      exact ⟨by rw [hg.out]; rfl, rfl⟩

set_option maxHeartbeats 400000 in
theorem contains_any (a : Option Addr) (n c : Nat) (l : List Int) (id : Int) (w : World) (h : IntsAt w a n l) :
    Calls Try.prog 90 #[.slice a n c, .int .i64 id] w fun e w' => e = .returned (.bool (hasB l id)) ∧ w = w' := by
  have H := Lib.hid h; clear h
  have hh := Lib.hid (idxFrom_has l id 0)
  go_enter Try.func90, Try.ntmps90
  go_wp2_with (go_at_call 98; refine (index_any a n c l id _ H.out).mono ?_; rintro e w' ⟨rfl, rfl⟩)
  go_ret
  exact ⟨by rw [← hh.out]; rfl, rfl⟩

set_option maxHeartbeats 400000 in
theorem has_any (e : Int) (a : Option Addr) (n c : Nat) (l : List Int) (id : Int) (w : World) (h : IntsAt w a n l) :
    Calls Try.prog 66 #[.agg #[.int .i64 e, .slice a n c], .int .i64 id] w fun r w' => r = .returned (.bool (hasB l id)) ∧ Below w.heap.size w w' := by
  have H := Lib.hid h; clear h
  go_enter Try.func66, Try.ntmps66
  go_wp2_with (go_at_call 90; refine (contains_any a n c l id _ (H.out.alloc _)).mono ?_; rintro e w' ⟨rfl, rfl⟩)
  go_ret
  exact ⟨rfl, (Below.refl _ _).alloc (Nat.le_refl _) _⟩

end Go.Proofs.Ytijeieamodjgbab

/- Walks of the council: Primary and its reference. -/
namespace Go.Proofs.Ytijeieamodjgbab
set_option maxRecDepth 100000
open Go.RowKit

end Go.Proofs.Ytijeieamodjgbab
