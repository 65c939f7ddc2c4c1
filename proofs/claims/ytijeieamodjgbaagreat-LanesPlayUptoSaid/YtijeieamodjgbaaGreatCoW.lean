
/- Walks of the council: rising, Right, Has and their references. -/
import Derived.Test.YtijeieamodjgbaaGreatRows
import Derived.Test.YtijeieamodjgbaaGreatCoP
import Derived.Deep.QuietTactic
import Derived.BigQuiet
namespace Go.Proofs.YtijeieamodjgbaaGreat
set_option maxRecDepth 100000
open Go.RowKit
set_option maxHeartbeats 400000 in
theorem rising_any (a : Option Addr) (n c : Nat) (l : List Int) (w : World) (h : IntsAt w a n l) :
    Calls Tryz.prog 143 #[.slice a n c] w fun e w' => e = .returned (.bool (risingB l)) ∧ w = w' := by
  have hmax := h.max; have Hlen := Lib.hid h.len; have H := Lib.hid h; clear h
  go_enter Tryz.func143, Tryz.ntmps143
  go_wp2
  go_loop [3, 8] (fun t i => ∃ k : Nat, ∃ z : Int, k ≤ n ∧ i = .int .i64 k ∧ t = .int .i64 z ∧ Hid (upFrom (-1) l = upFrom z (l.drop k))) (fun _ i => n - (intOf i).toNat)
  case atStart => exact ⟨0, -1, by omega, rfl, rfl, Lib.hid (by simp)⟩
  case round =>
    obtain ⟨k, z, hk, rfl, rfl, hup⟩ := hrel
    by_cases hlt : k < n
    · obtain ⟨b, o, x, rfl, hc, b0, b1, hd, _⟩ := H.out.elem k hlt
      by_cases hs : x ≤ z ∨ 16 ≤ x
      · have hf := Lib.hid (risingB_false l (by rw [hup.out, hd.out, upFrom_stop z x _ hs]))
        go_wp2
        all_goals
          go_ret
          exact ⟨by rw [hf.out]; rfl, rfl⟩
      · have hg := Lib.hid (show upFrom (-1) l = upFrom x (l.drop (k + 1)) by rw [hup.out, hd.out, upFrom_go z x _ hs])
        have s1 : ¬ x ≤ z := by omega
        have s2 : ¬ 16 ≤ x := by omega
        clear hs
        go_wp2
        go_round
        case rel => exact ⟨k + 1, x, by omega, by go_num, rfl, hg⟩
        case measure => simp [intOf]; omega
    · have hk' : k = n := by omega
      have hg := Lib.hid (risingB_true l (by rw [hup.out, List.drop_eq_nil_of_le (by rw [Hlen.out]; omega)]; rfl)); subst hk'; clear hup
      by_cases g1 : 4 ≤ k <;> by_cases g2 : k ≤ 10
      all_goals go_wp2
      all_goals
        go_ret
        refine ⟨?_, rfl⟩
        rw [hg.out, Hlen.out]
        simp [g1, g2] <;> omega
set_option maxHeartbeats 400000 in
theorem rmembers_any (a : Option Addr) (n c : Nat) (l : List Int) (w : World) (h : IntsAt w a n l) :
    Calls Tryz.prog 90 #[.slice a n c] w fun e w' => e = .returned (.bool (risingB l)) ∧ ∃ q, w' = w.drewN q := by
  have hmax := h.max; have Hlen := Lib.hid h.len; have H := Lib.hid h; clear h
  go_enter Tryz.func90, Tryz.ntmps90
  go_wp2
  go_loopw [3] (fun i w1 => ∃ k q : Nat, ∃ z : Int, k ≤ n ∧ i = .int .i64 k ∧ w1 = w.drewN q ∧ Hid (k = 0 → z = -1) ∧ -1 ≤ z ∧ (0 < k → Hid (l[k - 1]? = some z)) ∧ Hid (upFrom (-1) l = upFrom z (l.drop k))) (fun i _ => n - (intOf i).toNat)
  case atStart => exact ⟨0, 0, -1, by omega, rfl, rfl, Lib.hid (fun _ => rfl), by omega, by omega, Lib.hid (by simp)⟩
  case round =>
    obtain ⟨k, q, z, hk, rfl, rfl, hz, hz0, hzk, hup⟩ := hrel
    by_cases hlt : k < n
    · obtain ⟨b, o, x, rfl, hc, b0, b1, hd, hxk⟩ := H.out.elem k hlt
      by_cases c1 : x < 0
      · have hf := Lib.hid (risingB_false l (by rw [hup.out, hd.out, upFrom_stop z x _ (by omega)]))
        clear hup hd hxk hzk hz
        go_wp2
        go_quiet (fail)
        go_wp2
        go_ret
        exact ⟨by rw [hf.out]; rfl, q + nq, by simp⟩
      · have d1 : decide (x < 0) = false := by simpa using c1
        by_cases c2 : 16 ≤ x
        · have hf := Lib.hid (risingB_false l (by rw [hup.out, hd.out, upFrom_stop z x _ (by omega)]))
          clear hup hd hxk hzk hz
          go_wp2
          go_quiet (fail)
          go_wp2
          go_ret
          exact ⟨by rw [hf.out]; rfl, q + nq, by simp⟩
        · have d2 : decide (16 ≤ x) = false := by simpa using c2
          by_cases hk0 : k = 0
          · have hz' := hz.out hk0
            have hg := Lib.hid (show upFrom (-1) l = upFrom x (l.drop (k + 1)) by rw [hup.out, hd.out, upFrom_go z x _ (by omega)]); clear hup hd hzk hz hz'; subst hk0
            simp only [Nat.add_zero] at hc
            go_wp2
            go_quiet (fail)
            go_wp2
            go_roundw
            case rel => exact ⟨1, _, x, by omega, by go_num, rfl, Lib.hid (by omega), by omega, fun _ => hxk, hg⟩
            case measure => simp [intOf]; omega
          · obtain ⟨b', o', z', he, hc', _, _, _, hz'⟩ := H.out.elem (k - 1) (by omega)
            obtain ⟨rfl, rfl⟩ : b' = b ∧ o' = o := by simpa [eq_comm] using he
            have hzz : z' = z := by
              have := (hzk (by omega)).out
              rw [hz'.out] at this
              simpa using this
            subst hzz
            have hk1 : (0 : Int) < (k : Int) := by omega
            have hk2 : 0 < k := by omega
            clear he hz'
            have g1 : (0 : Int) ≤ (k : Int) - 1 := by omega
            have g2 : (1 : Int) ≤ (k : Int) := by omega
            have g3 : (k : Int) - 1 < (n : Int) := by omega
            have hwr : IntKind.i64.wrap ((k : Int) - 1) = (k : Int) - 1 := IntWalk.i64_in _ (by omega)
            by_cases c3 : x ≤ z'
            · have hf := Lib.hid (risingB_false l (by rw [hup.out, hd.out, upFrom_stop z' x _ (by omega)]))
              clear hup hd hxk hzk hz
              go_wp2
              go_quiet (fail)
              go_wp2
              go_ret
              exact ⟨by rw [hf.out]; rfl, q + nq, by simp⟩
            · have d3 : decide (x ≤ z') = false := by simpa using c3
              have hg := Lib.hid (show upFrom (-1) l = upFrom x (l.drop (k + 1)) by rw [hup.out, hd.out, upFrom_go z' x _ (by omega)]); clear hup hd hzk hz
              go_wp2
              go_quiet (fail)
              go_wp2
              go_roundw
              case rel => exact ⟨k + 1, _, x, by omega, by go_num, rfl, Lib.hid (by omega), by omega, fun _ => by simpa using hxk, hg⟩
              case measure => simp [intOf]; omega
    · have hk' : k = n := by omega
      have hg := Lib.hid (risingB_true l (by rw [hup.out, List.drop_eq_nil_of_le (by rw [Hlen.out]; omega)]; rfl)); subst hk'; clear hup hzk hz
      by_cases g1 : 4 ≤ k <;> by_cases g2 : k ≤ 10
      all_goals go_wp2
      all_goals
        go_ret
        refine ⟨?_, q, rfl⟩
        rw [hg.out, Hlen.out]
        simp [g1, g2] <;> omega
end Go.Proofs.YtijeieamodjgbaaGreat
/- Walks of the council: Right, Has, Primary and their references. -/
namespace Go.Proofs.YtijeieamodjgbaaGreat
set_option maxRecDepth 100000
open Go.RowKit
set_option maxHeartbeats 400000 in
theorem right_any (e : Int) (a : Option Addr) (n c : Nat) (l : List Int) (w : World) (h : IntsAt w a n l) :
    Calls Tryz.prog 111 #[.agg #[.int .i64 e, .slice a n c]] w fun r w' => r = .returned (.bool (rightB e l)) ∧ Below w.heap.size w w' := by
  have H := Lib.hid h; clear h
  by_cases h0 : 0 ≤ e
  · by_cases h1 : e ≤ 60
    · have hr := Lib.hid (rightB_3 e l h0 h1)
      go_enter Tryz.func111, Tryz.ntmps111
      go_wp2_with (go_at_call 143; refine (rising_any a n c l _ (H.out.alloc _)).mono ?_; rintro e w' ⟨rfl, rfl⟩)
      go_ret
      exact ⟨by rw [hr.out]; rfl, (Below.refl _ _).alloc (Nat.le_refl _) _⟩
    · have hr := Lib.hid (rightB_2 e l h1)
      go_enter Tryz.func111, Tryz.ntmps111
      go_wp2_with fail
      go_ret
      exact ⟨by rw [hr.out]; rfl, (Below.refl _ _).alloc (Nat.le_refl _) _⟩
  · have hr := Lib.hid (rightB_1 e l h0)
    go_enter Tryz.func111, Tryz.ntmps111
    go_wp2_with fail
    go_ret
    exact ⟨by rw [hr.out]; rfl, (Below.refl _ _).alloc (Nat.le_refl _) _⟩
set_option maxHeartbeats 400000 in
theorem rright_any (e : Int) (a : Option Addr) (n c : Nat) (l : List Int) (w : World) (h : IntsAt w a n l) :
    Calls Tryz.prog 84 #[.agg #[.int .i64 e, .slice a n c]] w fun r w' => r = .returned (.bool (rightB e l)) ∧ Below w.heap.size w w' := by
  have H := Lib.hid h; clear h
  by_cases h0 : 0 ≤ e
  · by_cases h1 : e ≤ 60
    · have hr := Lib.hid (rightB_3 e l h0 h1)
      go_enter Tryz.func84, Tryz.ntmps84
      go_wp2_with (go_at_call 90; refine (rmembers_any a n c l _ (H.out.alloc _)).mono ?_; rintro e w' ⟨rfl, q, rfl⟩)
      go_ret
      exact ⟨by rw [hr.out]; rfl, below_drewN ((Below.refl _ _).alloc (Nat.le_refl _) _) _⟩
    · have hr := Lib.hid (rightB_2 e l h1)
      go_enter Tryz.func84, Tryz.ntmps84
      go_wp2_with fail
      go_ret
      exact ⟨by rw [hr.out]; rfl, (Below.refl _ _).alloc (Nat.le_refl _) _⟩
  · have hr := Lib.hid (rightB_1 e l h0)
    go_enter Tryz.func84, Tryz.ntmps84
    go_wp2_with fail
    go_ret
    exact ⟨by rw [hr.out]; rfl, (Below.refl _ _).alloc (Nat.le_refl _) _⟩
set_option maxHeartbeats 400000 in
theorem index_any (a : Option Addr) (n c : Nat) (l : List Int) (id : Int) (w : World) (h : IntsAt w a n l) :
    Calls Tryz.prog 99 #[.slice a n c, .int .i64 id] w fun e w' => e = .returned (.int .i64 (idxFrom 0 l id)) ∧ w = w' := by
  have hmax := h.max; have Hlen := Lib.hid h.len; have H := Lib.hid h; clear h
  go_enter Tryz.func99, Tryz.ntmps99
  go_wp2
  go_loop [8] (fun i => ∃ k : Nat, k ≤ n ∧ i = .int .i64 k ∧ Hid (idxFrom 0 l id = idxFrom k (l.drop k) id)) (fun i => n - (intOf i).toNat)
  case atStart => exact ⟨0, by omega, rfl, Lib.hid (by simp)⟩
  case round =>
    obtain ⟨k, hk, rfl, hup⟩ := hrel
    by_cases hlt : k < n
    · obtain ⟨b, o, x, rfl, hc, b0, b1, hd, _⟩ := H.out.elem k hlt
      by_cases hs : id = x
      · have hf := Lib.hid (show idxFrom 0 l id = k by rw [hup.out, hd.out, idxFrom_stop k x id _ hs])
        have hb : (id == x) = true := by simp [hs]
        clear hs
        go_wp2
        go_ret
        exact ⟨by rw [hf.out]; rfl, rfl⟩
      · have hg := Lib.hid (show idxFrom 0 l id = idxFrom (k + 1) (l.drop (k + 1)) id by rw [hup.out, hd.out, idxFrom_go k x id _ hs])
        have hb : (id == x) = false := by simp [hs]
        clear hs
        go_wp2
        go_round
        case rel => exact ⟨k + 1, by omega, by go_num, hg⟩
        case measure => simp [intOf]; omega
    · have hg := Lib.hid (show idxFrom 0 l id = -1 by rw [hup.out, List.drop_eq_nil_of_le (by rw [Hlen.out]; omega)]; rfl)
      clear hup
      go_wp2
      go_ret
      exact ⟨by rw [hg.out]; rfl, rfl⟩
set_option maxHeartbeats 400000 in
theorem contains_any (a : Option Addr) (n c : Nat) (l : List Int) (id : Int) (w : World) (h : IntsAt w a n l) :
    Calls Tryz.prog 52 #[.slice a n c, .int .i64 id] w fun e w' => e = .returned (.bool (hasB l id)) ∧ w = w' := by
  have H := Lib.hid h; clear h; have hh := Lib.hid (idxFrom_has l id 0)
  go_enter Tryz.func52, Tryz.ntmps52
  go_wp2_with (go_at_call 99; refine (index_any a n c l id _ H.out).mono ?_; rintro e w' ⟨rfl, rfl⟩)
  go_ret
  exact ⟨by rw [← hh.out]; rfl, rfl⟩
set_option maxHeartbeats 400000 in
theorem rhas_any (a : Option Addr) (n c : Nat) (l : List Int) (id : Int) (w : World) (h : IntsAt w a n l) :
    Calls Tryz.prog 54 #[.slice a n c, .int .i64 id] w fun e w' => e = .returned (.bool (hasB l id)) ∧ w = w' := by
  have hmax := h.max; have Hlen := Lib.hid h.len; have H := Lib.hid h; clear h
  go_enter Tryz.func54, Tryz.ntmps54
  go_wp2
  go_loop [5] (fun i => ∃ k : Nat, k ≤ n ∧ i = .int .i64 k ∧ Hid (hasB l id = hasB (l.drop k) id)) (fun i => n - (intOf i).toNat)
  case atStart => exact ⟨0, by omega, rfl, Lib.hid (by simp)⟩
  case round =>
    obtain ⟨k, hk, rfl, hup⟩ := hrel
    by_cases hlt : k < n
    · obtain ⟨b, o, x, rfl, hc, b0, b1, hd, _⟩ := H.out.elem k hlt
      by_cases hs : id = x
      · have hf := Lib.hid (show hasB l id = true by rw [hup.out, hd.out, hasB_stop x id _ hs])
        have hb : (x == id) = true := by simp [hs]
        clear hs
        go_wp2
        go_ret
        exact ⟨by rw [hf.out]; rfl, rfl⟩
      · have hg := Lib.hid (show hasB l id = hasB (l.drop (k + 1)) id by rw [hup.out, hd.out, hasB_go x id _ hs])
        have hb : (x == id) = false := by simp; omega
        clear hs
        go_wp2
        go_round
        case rel => exact ⟨k + 1, by omega, by go_num, hg⟩
        case measure => simp [intOf]; omega
    · have hg := Lib.hid (show hasB l id = false by rw [hup.out, List.drop_eq_nil_of_le (by rw [Hlen.out]; omega)]; rfl)
      clear hup
      go_wp2
      go_ret
      exact ⟨by rw [hg.out]; rfl, rfl⟩
end Go.Proofs.YtijeieamodjgbaaGreat
/- Walks of the council: Primary and its reference. -/
namespace Go.Proofs.YtijeieamodjgbaaGreat
set_option maxRecDepth 100000
open Go.RowKit
end Go.Proofs.YtijeieamodjgbaaGreat
