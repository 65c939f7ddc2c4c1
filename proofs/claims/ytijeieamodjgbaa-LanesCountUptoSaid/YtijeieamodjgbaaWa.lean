
/- Wire: walks of the program's tests: of, asked, signed. -/
import Derived.Test.YtijeieamodjgbaaWm
import Derived.Test.YtijeieamodjgbaaDv
namespace Go.Proofs.Ytijeieamodjgbaa
set_option maxRecDepth 100000
open Go.RowKit Go.Deep
set_option linter.unusedVariables false
set_option linter.unusedSimpArgs false

set_option maxHeartbeats 400000 in
theorem of_any (e s : Int) (w : World) (he : 0 ≤ e ∧ e ≤ 60) (hs : i64 s) : Calls Try.prog 144 #[.int .i64 e, .int .i64 s] w fun r w' => r = .returned (.bool (ofB e s)) ∧ w = w' := by
  have hw1 : IntKind.i64.wrap (e * 4) = e * 4 := IntWalk.i64_in _ (by omega)
  have hw2 : IntKind.i64.wrap (e * 4 + 4) = e * 4 + 4 := IntWalk.i64_in _ (by omega)
  have HD := Lib.hid (show ofB e s = (decide (e * 4 < s) && decide (s ≤ e * 4 + 4)) by unfold ofB; rw [Int.mul_comm])
  cases h1 : decide (e * 4 < s)
  · go_enter Try.func144, Try.ntmps144
    go_wp2_with fail
    go_ret
    exact ⟨by rw [HD.out, h1]; rfl, rfl⟩
  · cases h2 : decide (s ≤ e * 4 + 4)
    · go_enter Try.func144, Try.ntmps144
      go_wp2_with fail
      go_ret
      exact ⟨by rw [HD.out, h1, h2]; rfl, rfl⟩
    · go_enter Try.func144, Try.ntmps144
      go_wp2_with fail
      go_ret
      exact ⟨by rw [HD.out, h1, h2]; rfl, rfl⟩
set_option maxHeartbeats 1000000 in
theorem asked_any (r : Rq) (h : r.Ok) (w : World) : Calls Try.prog 145 #[r.v] w fun e w' => e = .returned (.bool (askB r)) ∧ Below w.heap.size w w' := by
  have CR := Lib.hid (right_rq r h)
  have CN := Lib.hid (null_rq r h)
  obtain ⟨c, s, kind, key, b, id⟩ := r
  have HA := Lib.hid (show askB ⟨c, s, kind, key, b, id⟩ = ((⟨c, s, kind, key, b, id⟩ : Rq).right || (nullQ c s kind key b id)) from rfl)
  generalize askB ⟨c, s, kind, key, b, id⟩ = A at HA ⊢
  generalize (⟨c, s, kind, key, b, id⟩ : Rq).right = R at CR HA
  simp only [Rq.v] at CR CN HA ⊢
  generalize nullQ c s kind key b id = NL at CN HA
  clear h
  obtain ⟨w1, hw1⟩ : ∃ u, u = w.alloc (.cells #[.int .i64 c, .int .i64 s, .int .i64 kind, .string key, .float .f64 b, .int .i64 id] 26 (0, 0)) := ⟨_, rfl⟩
  have B1 := Lib.hid (show Below w.heap.size w w1 by rw [hw1]; exact below_alloc _ _)
  have k1 : w1.heap[w.heap.size]? = some (.cells #[.int .i64 c, .int .i64 s, .int .i64 kind, .string key, .float .f64 b, .int .i64 id] 26 (0, 0)) := by rw [hw1]; exact blk_alloc _ _
  go_enter Try.func145, Try.ntmps145
  go_upto_region 1 with (fail)
  rw [← hw1]
  clear hw1
  have K1 := Lib.hid k1
  obtain ⟨q0, q1, q2, q3, q4, q5⟩ := rqAt_blk k1
  clear k1
  go_wp2_with fail
  refine (CR.out w1).mono ?_
  rintro e w2 ⟨rfl, b2⟩
  have B2 := Lib.hid (bthen B1.out b2)
  obtain ⟨p0, p1, p2, p3, p4, p5⟩ := rqAt_blk (blk_below K1.out b2)
  clear b2 B1 K1 q0 q1 q2 q3 q4 q5
  cases R
  · go_wp2_with fail
    refine (CN.out w2).mono ?_
    rintro e w3 ⟨rfl, b3⟩
    have B3 := Lib.hid (bthen B2.out b3)
    clear b3 B2 p0 p1 p2 p3 p4 p5
    go_wp2_with fail
    go_ret
    exact ⟨by rw [HA.out]; rfl, B3.out⟩
  · go_wp2_with fail
    go_ret
    exact ⟨by rw [HA.out]; rfl, B2.out⟩
set_option maxHeartbeats 2000000 in
theorem signed_any (a : Option Addr) (n c : Nat) (l : List Sg) (w : World) (h : SlAt shSig w a n c l) : Calls Try.prog 101 #[.slice a n c] w fun e w' => e = .returned (.bool (sigsB l)) ∧ Below w.heap.size w w' := by
  have hlen := h.len
  have hcap := h.cap
  have hmax := h.max
  have HS := Lib.hid h
  clear h
  go_enter Try.func101, Try.ntmps101
  go_wp2_with fail
  go_loopw [7] (fun i wr => ∃ k : Nat, k ≤ n ∧ i = .int .i64 k ∧ Hid ((l.take k).all byB = true) ∧ Hid (Below w.heap.size w wr)) (fun i _ => n - (intOf i).toNat)
  case atStart => exact ⟨0, by omega, rfl, Lib.hid rfl, Lib.hid (Below.refl _ _)⟩
  case round =>
    obtain ⟨k, hk, rfl, HK, HW⟩ := hrel
    by_cases hlt : k < n
    · have hd : decide ((k : Int) < (n : Int)) = true := by simp; omega
      obtain ⟨bb, o, x, t, rfl, hy, x0, x1, h1, h2⟩ := sig_cells (HS.out.old HW.out) hlt
      have HT := Lib.hid (show l.take (k + 1) = l.take k ++ [(x, t)] by rw [List.take_add_one, hy]; rfl)
      have hba := below_alloc wr (.cells #[.int .i64 x, .string t] 49 (0, 0))
      have HW4 := Lib.hid (bthen HW.out hba)
      have HM := Lib.hid (List.mem_of_getElem? hy)
      clear hba hy
      by_cases hb : 0 ≤ x ∧ x < 200
      · have hx0 : decide (x < 0) = false := by simp; omega
        have hx1 : decide (200 ≤ x) = false := by simp; omega
        have HB := Lib.hid (show byB (x, t) = true by simp [byB]; omega)
        clear hb
        go_wp2_with fail
        go_roundw
        case rel => exact ⟨k + 1, by omega, by go_num, Lib.hid (by rw [HT.out, List.all_append, HK.out]; simpa using HB.out), HW4⟩
        case measure => simp [intOf]; omega
      · have HR := Lib.hid (show sigsB l = false by
          have : l.all byB = false := by
            rw [Bool.eq_false_iff, Ne, List.all_eq_true]
            intro h
            have := h _ HM.out
            simp [byB] at this
            omega
          simp [sigsB, this])
        by_cases hx : x < 0
        · have hx0 : decide (x < 0) = true := by simpa using hx
          clear hb
          go_wp2_with fail
          go_ret
          exact ⟨by rw [HR.out]; rfl, HW4.out⟩
        · have hx0 : decide (x < 0) = false := by simpa using hx
          have hx1 : decide (200 ≤ x) = true := by simp; omega
          clear hb
          go_wp2_with fail
          go_ret
          exact ⟨by rw [HR.out]; rfl, HW4.out⟩
    · have hd : decide ((k : Int) < (n : Int)) = false := by simp; omega
      have HR := Lib.hid (show sigsB l = decide ((n : Int) ≤ 16) by
        have h1 := HK.out
        rw [List.take_of_length_le (by omega)] at h1
        simp only [sigsB, h1, Bool.true_and, hlen]
        exact decide_eq_decide.2 (by omega))
      go_wp2_with fail
      go_ret
      exact ⟨by rw [HR.out]; rfl, HW.out⟩
end Go.Proofs.Ytijeieamodjgbaa
