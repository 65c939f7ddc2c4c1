
/- Wire: walks of the reference's tests: Of, Asked, sigs, links. -/
import Derived.Test.YtijeieamodjgbaaWa
namespace Go.Proofs.Ytijeieamodjgbaa
set_option maxRecDepth 100000
open Go.RowKit Go.Deep
set_option linter.unusedVariables false
set_option linter.unusedSimpArgs false

/-- The reference's Of, whatever the epoch. -/
def ofR (e s : Int) : Bool := decide (wrap64 (4 * e) < s) && decide (s ≤ wrap64 (4 * wrap64 (e + 1)))
theorem ofR_in {e s : Int} (h : 0 ≤ e ∧ e ≤ 60) : ofR e s = ofB e s := by
  have h1 : wrap64 (4 * e) = 4 * e := by unfold wrap64; omega
  have h2 : wrap64 (e + 1) = e + 1 := by unfold wrap64; omega
  have h3 : wrap64 (4 * (e + 1)) = 4 * e + 4 := by unfold wrap64; omega
  unfold ofR ofB
  rw [h1, h2, h3]
set_option maxHeartbeats 400000 in
theorem rof_any (e s : Int) (w : World) : Calls Try.prog 81 #[.int .i64 e, .int .i64 s] w fun r w' => r = .returned (.bool (ofR e s)) ∧ w = w' := by
  have HD := Lib.hid (show ofR e s = (decide (wrap64 (4 * e) < s) && decide (s ≤ wrap64 (4 * wrap64 (e + 1)))) from rfl)
  generalize ofR e s = R at HD ⊢
  cases h1 : decide (wrap64 (4 * e) < s)
  · go_enter Try.func81, Try.ntmps81
    go_wp2_with fail
    go_ret
    exact ⟨by rw [HD.out, h1]; rfl, rfl⟩
  · cases h2 : decide (s ≤ wrap64 (4 * wrap64 (e + 1)))
    · go_enter Try.func81, Try.ntmps81
      go_wp2_with fail
      go_ret
      exact ⟨by rw [HD.out, h1, h2]; rfl, rfl⟩
    · go_enter Try.func81, Try.ntmps81
      go_wp2_with fail
      go_ret
      exact ⟨by rw [HD.out, h1, h2]; rfl, rfl⟩
set_option maxHeartbeats 1000000 in
theorem rasked_any (r : Rq) (h : r.Ok) (w : World) : Calls Try.prog 85 #[r.v] w fun e w' => e = .returned (.bool (askB r)) ∧ Below w.heap.size w w' := by
  have CR := Lib.hid (fun w => rright_rq r h w)
  have CN := Lib.hid (fun w => qrnull_any r.c r.s r.kind r.key r.b h.b r.id w)
  obtain ⟨c, s, kind, key, b, id⟩ := r
  have HA := Lib.hid (show askB ⟨c, s, kind, key, b, id⟩ = ((⟨c, s, kind, key, b, id⟩ : Rq).right || (nullQ c s kind key b id)) from rfl)
  generalize askB ⟨c, s, kind, key, b, id⟩ = A at HA ⊢
  generalize (⟨c, s, kind, key, b, id⟩ : Rq).right = R at CR HA
  simp only [Rq.v] at CR CN HA ⊢
  generalize nullQ c s kind key b id = NL at CN HA
  clear h
  obtain ⟨w1, hw1⟩ : ∃ u, u = w.alloc (.cells #[.int .i64 c, .int .i64 s, .int .i64 kind, .string key, .float .f64 b, .int .i64 id] 26 (0, 0)) := ⟨_, rfl⟩
  have B1 := Lib.hid (show Below w.heap.size w w1 by rw [hw1]; exact below_alloc _ _)
  have k1 : w1.heap[w.heap.size]? = some (.cells #[.int .i64 c, .int .i64 s, .int .i64 kind, .string key, .float .f64 b, .int .i64 id] 26 (0, 0)) := by rw [hw1]; exact blk_alloc _ _
  go_enter Try.func85, Try.ntmps85
  go_upto_region 1 with (fail)
  rw [← hw1]
  clear hw1
  have K1 := Lib.hid k1
  obtain ⟨q0, q1, q2, q3, q4, q5⟩ := rqAt_blk k1
  clear k1
  go_wp2_with fail
  refine (CR.out w1).mono ?_
  rintro e w2 ⟨rfl, b2⟩
  have B2 := Lib.hid (bthen B1.out b2)
  obtain ⟨p0, p1, p2, p3, p4, p5⟩ := rqAt_blk (blk_below K1.out b2)
  clear b2 B1 K1 q0 q1 q2 q3 q4 q5
  cases R
  · go_wp2_with fail
    refine (CN.out w2).mono ?_
    rintro e w3 ⟨rfl, b3⟩
    have B3 := Lib.hid (bthen B2.out b3)
    clear b3 B2 p0 p1 p2 p3 p4 p5
    go_wp2_with fail
    go_ret
    exact ⟨by rw [HA.out]; rfl, B3.out⟩
  · go_wp2_with fail
    go_ret
    exact ⟨by rw [HA.out]; rfl, B2.out⟩
set_option maxHeartbeats 2000000 in
theorem rsigs13_any (a : Option Addr) (n c : Nat) (l : List Sg) (w : World) (h : SlAt shSig w a n c l) : Calls Try.prog 89 #[.slice a n c] w fun e w' => e = .returned (.bool (sigsB l)) ∧ Below w.heap.size w w' := by
  have hlen := h.len
  have hcap := h.cap
  have hmax := h.max
  have HS := Lib.hid h
  clear h
  go_enter Try.func89, Try.ntmps89
  go_wp2_with fail
  go_loopw [3] (fun i wr => ∃ k : Nat, k ≤ n ∧ i = .int .i64 k ∧ Hid ((l.take k).all byB = true) ∧ Hid (Below w.heap.size w wr)) (fun i _ => n - (intOf i).toNat)
  case atStart => exact ⟨0, by omega, rfl, Lib.hid rfl, Lib.hid (Below.refl _ _)⟩
  case round =>
    obtain ⟨k, hk, rfl, HK, HW⟩ := hrel
    by_cases hlt : k < n
    · have hd : decide ((k : Int) < (n : Int)) = true := by simp; omega
      obtain ⟨bb, o, x, t, rfl, hy, x0, x1, h1, h2⟩ := sig_cells (HS.out.old HW.out) hlt
      have HT := Lib.hid (show l.take (k + 1) = l.take k ++ [(x, t)] by rw [List.take_add_one, hy]; rfl)
      have HM := Lib.hid (List.mem_of_getElem? hy)
      have hj0 : (0 : Int) ≤ (k : Int) := by omega
      have hj1 : (k : Int) < (n : Int) := by omega
      have lb := World.block_lt x0
      clear hy
      by_cases hb : 0 ≤ x ∧ x < 200
      · have hx0 : decide (x < 0) = false := by simp; omega
        have hx1 : decide (199 < x) = false := by simp; omega
        have HB := Lib.hid (show byB (x, t) = true by simp [byB]; omega)
        clear hb
        go_wp2_with fail
        go_roundw
        case rel => exact ⟨k + 1, by omega, by go_num, Lib.hid (by rw [HT.out, List.all_append, HK.out]; simpa using HB.out), HW⟩
        case measure => simp [intOf]; omega
      · have HR := Lib.hid (show sigsB l = false by
          have : l.all byB = false := by
            rw [Bool.eq_false_iff, Ne, List.all_eq_true]
            intro h
            have := h _ HM.out
            simp [byB] at this
            omega
          simp [sigsB, this])
        by_cases hx : x < 0
        · have hx0 : decide (x < 0) = true := by simpa using hx
          clear hb
          go_wp2_with fail
          go_ret
          exact ⟨by rw [HR.out]; rfl, HW.out⟩
        · have hx0 : decide (x < 0) = false := by simpa using hx
          have hx1 : decide (199 < x) = true := by simp; omega
          clear hb
          go_wp2_with fail
          go_ret
          exact ⟨by rw [HR.out]; rfl, HW.out⟩
    · have hd : decide ((k : Int) < (n : Int)) = false := by simp; omega
      have HR := Lib.hid (show sigsB l = decide ((n : Int) ≤ 16) by
        have h1 := HK.out
        rw [List.take_of_length_le (by omega)] at h1
        simp only [sigsB, h1, Bool.true_and, hlen]
        exact decide_eq_decide.2 (by omega))
      go_wp2_with fail
      go_ret
      exact ⟨by rw [HR.out]; rfl, HW.out⟩
set_option maxHeartbeats 4000000 in
theorem rlinks13_any (a4 : Option Addr) (n4 c4 : Nat) (l : List Lk) (w : World) (hm : SlAt shLink w a4 n4 c4 l) :
    Calls Try.prog 88 #[.slice a4 n4 c4] w fun r w' => r = .returned (.bool (linksB 0 l)) ∧ Below w.heap.size w w' := by
  have hlen := hm.len
  have hcap := hm.cap
  have hmax := hm.max
  have HM := Lib.hid hm
  obtain ⟨R, hR⟩ : ∃ R, R = linksB 0 l := ⟨_, rfl⟩
  rw [← hR]
  clear hm
  go_enter Try.func88, Try.ntmps88
  go_wp2_with fail
  go_loopw [3] (fun i wr => ∃ k : Nat, k ≤ n4 ∧ i = .int .i64 k ∧ Hid (R = linksB k (l.drop k)) ∧ Hid (Below w.heap.size w wr)) (fun i _ => n4 - (intOf i).toNat)
  case atStart => exact ⟨0, by omega, rfl, Lib.hid (by rw [hR]; rfl), Lib.hid (Below.refl _ _)⟩
  case round =>
    obtain ⟨k, hk, rfl, HK, HW⟩ := hrel
    clear hR
    by_cases hlt : k < n4
    · have hd : decide ((k : Int) < (n4 : Int)) = true := by simp; omega
      obtain ⟨bb, o, e, ms, sg, ma, mn, mc, sa, sn, sc, rfl, hy, z0, z1, z2, hie, hms, hsg⟩ := link_cells13 (HM.out.old HW.out) hlt
      have HST := Lib.hid (links_step hy)
      have hwr : IntKind.i64.wrap ((k : Int) + 1) = (k : Int) + 1 := IntWalk.i64_in _ (by omega)
      have hj0 : (0 : Int) ≤ (k : Int) := by omega
      have hj1 : (k : Int) < (n4 : Int) := by omega
      have lb := World.block_lt z0
      have HSG := Lib.hid hsg
      have CR := Lib.hid (rright_any e ma mn mc ms wr (ints_of_sl hms))
      have Z0 := Lib.hid z0
      have Z2 := Lib.hid z2
      clear hsg hms hy
      cases hrt : rightB e ms
      · rw [hrt] at CR
        have hr : R = false := by rw [HK.out, HST.out, hrt]; simp
        clear HK HST hrt
        go_wp2_with fail
        refine CR.out.mono ?_
        rintro r w5 ⟨rfl, b5⟩
        have B5 := Lib.hid (bthen HW.out b5)
        clear b5 CR z0 z1 z2
        go_wp2_with fail
        go_ret
        exact ⟨by first | rfl | (rw [hr]; rfl), B5.out⟩
      rw [hrt] at CR
      go_wp2_with fail
      refine CR.out.mono ?_
      rintro r w5 ⟨rfl, b5⟩
      have B5 := Lib.hid (bthen HW.out b5)
      have v0 := below_cell b5 Z0.out
      have v2 := below_cell b5 Z2.out
      have lb5 := World.block_lt v0
      have CS := Lib.hid (rsigs13_any sa sn sc sg w5 (HSG.out.old b5))
      clear b5 CR z0 z1 z2 HSG lb
      cases he : (e == (k : Int) + 1)
      · have hr : R = false := by rw [HK.out, HST.out, show decide (e = (k : Int) + 1) = false by rw [← beqZ]; exact he]; rfl
        have he2 : (e != (k : Int) + 1) = true := by rw [bne, he]; rfl
        clear HK HST hrt
        go_wp2_with fail
        go_ret
        exact ⟨by first | rfl | (rw [hr]; rfl), B5.out⟩
      have he2 : (e != (k : Int) + 1) = false := by rw [bne, he]; rfl
      have HE := Lib.hid (show decide (e = (k : Int) + 1) = true by rw [← beqZ]; exact he)
      cases hsb : sigsB sg
      · rw [hsb] at CS
        have hr : R = false := by rw [HK.out, HST.out, hrt, HE.out, hsb]; rfl
        clear HK HST hrt hsb HE
        go_wp2_with fail
        refine CS.out.mono ?_
        rintro r w6 ⟨rfl, b6⟩
        have B6 := Lib.hid (bthen B5.out b6)
        clear b6 B5 CS v0 v2 lb5
        go_wp2_with fail
        go_ret
        exact ⟨by first | rfl | (rw [hr]; rfl), B6.out⟩
      rw [hsb] at CS
      have HR := Lib.hid (show R = linksB (k + 1) (l.drop (k + 1)) by rw [HK.out, HST.out, hrt, HE.out, hsb]; rfl)
      clear HK HST hrt hsb HE
      go_wp2_with fail
      refine CS.out.mono ?_
      rintro r w6 ⟨rfl, b6⟩
      have B6 := Lib.hid (bthen B5.out b6)
      clear b6 B5 CS v0 v2 lb5 he he2
      go_wp2_with fail
      go_roundw
      case rel => exact ⟨k + 1, by omega, by go_num, HR, B6⟩
      case measure => simp [intOf]; omega
    · have hd : decide ((k : Int) < (n4 : Int)) = false := by simp; omega
      have hr : R = true := by
        rw [HK.out, List.drop_of_length_le (by omega)]
        rfl
      go_wp2_with fail
      go_ret
      exact ⟨by first | rfl | (rw [hr]; rfl), HW.out⟩
end Go.Proofs.Ytijeieamodjgbaa
