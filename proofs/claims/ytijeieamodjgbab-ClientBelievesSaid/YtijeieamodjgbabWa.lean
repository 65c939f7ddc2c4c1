
/- Wire: walks of the program's tests: of, asked, signed. -/
import Derived.Test.YtijeieamodjgbabWm
import Derived.Test.YtijeieamodjgbabDv

namespace Go.Proofs.Ytijeieamodjgbab
set_option maxRecDepth 100000
open Go.RowKit Go.Deep
set_option linter.unusedVariables false
set_option linter.unusedSimpArgs false

set_option maxHeartbeats 400000 in
theorem of_any (e s : Int) (w : World) (he : 0 ≤ e ∧ e ≤ 60) (hs : i64 s) : Calls Try.prog 95 #[.int .i64 e, .int .i64 s] w fun r w' => r = .returned (.bool (ofB e s)) ∧ w = w' := by
  have hw1 : IntKind.i64.wrap (e * 4) = e * 4 := IntWalk.i64_in _ (by omega)
  have hw2 : IntKind.i64.wrap (e * 4 + 4) = e * 4 + 4 := IntWalk.i64_in _ (by omega)
  have HD := Lib.hid (show ofB e s = (decide (e * 4 < s) && decide (s ≤ e * 4 + 4)) by unfold ofB; rw [Int.mul_comm])
  cases h1 : decide (e * 4 < s)
  · go_enter Try.func95, Try.ntmps95
    go_wp2_with fail
    go_ret
    exact ⟨by rw [HD.out, h1]; rfl, rfl⟩
  · cases h2 : decide (s ≤ e * 4 + 4)
    · go_enter Try.func95, Try.ntmps95
      go_wp2_with fail
      go_ret
      exact ⟨by rw [HD.out, h1, h2]; rfl, rfl⟩
    · go_enter Try.func95, Try.ntmps95
      go_wp2_with fail
      go_ret
      exact ⟨by rw [HD.out, h1, h2]; rfl, rfl⟩
set_option maxHeartbeats 1000000 in
theorem asked_any (r : Rq) (h : r.Ok) (w : World) : Calls Try.prog 96 #[r.v] w fun e w' => e = .returned (.bool (askB r)) ∧ Below w.heap.size w w' := by
  have CR := Lib.hid (right_rq r h)
  have CN := Lib.hid (null_rq r h)
  obtain ⟨c, s, kind, key, b, id⟩ := r
  have HA := Lib.hid (show askB ⟨c, s, kind, key, b, id⟩ = ((⟨c, s, kind, key, b, id⟩ : Rq).right || (nullQ c s kind key b id)) from rfl)
  generalize askB ⟨c, s, kind, key, b, id⟩ = A at HA ⊢
  generalize (⟨c, s, kind, key, b, id⟩ : Rq).right = R at CR HA
  simp only [Rq.v] at CR CN HA ⊢
  generalize nullQ c s kind key b id = NL at CN HA
  clear h
  obtain ⟨w1, hw1⟩ : ∃ u, u = w.alloc (.cells #[.int .i64 c, .int .i64 s, .int .i64 kind, .string key, .float .f64 b, .int .i64 id] 35 (0, 0)) := ⟨_, rfl⟩
  have B1 := Lib.hid (show Below w.heap.size w w1 by rw [hw1]; exact below_alloc _ _)
  have k1 : w1.heap[w.heap.size]? = some (.cells #[.int .i64 c, .int .i64 s, .int .i64 kind, .string key, .float .f64 b, .int .i64 id] 35 (0, 0)) := by rw [hw1]; exact blk_alloc _ _
  go_enter Try.func96, Try.ntmps96
  go_upto_region 1 with (fail)
  rw [← hw1]
  clear hw1
  have K1 := Lib.hid k1
  obtain ⟨q0, q1, q2, q3, q4, q5⟩ := rqAt_blk k1
  clear k1
  go_wp2_with fail
  refine (CR.out w1).mono ?_
  rintro e w2 ⟨rfl, b2⟩
  have B2 := Lib.hid (bthen B1.out b2)
  obtain ⟨p0, p1, p2, p3, p4, p5⟩ := rqAt_blk (blk_below K1.out b2)
  clear b2 B1 K1 q0 q1 q2 q3 q4 q5
  cases R
  · go_wp2_with fail
    refine (CN.out w2).mono ?_
    rintro e w3 ⟨rfl, b3⟩
    have B3 := Lib.hid (bthen B2.out b3)
    clear b3 B2 p0 p1 p2 p3 p4 p5
    go_wp2_with fail
    go_ret
    exact ⟨by rw [HA.out]; rfl, B3.out⟩
  · go_wp2_with fail
    go_ret
    exact ⟨by rw [HA.out]; rfl, B2.out⟩
set_option maxHeartbeats 2000000 in
theorem signed_any (a : Option Addr) (n c : Nat) (l : List Sg) (w : World) (h : SlAt shSig w a n c l) : Calls Try.prog 82 #[.slice a n c] w fun e w' => e = .returned (.bool (sigsB l)) ∧ Below w.heap.size w w' := by
  have hlen := h.len
  have hcap := h.cap
  have hmax := h.max
  have HS := Lib.hid h
  clear h
  go_enter Try.func82, Try.ntmps82
  go_wp2_with fail
  go_loopw [7] (fun i wr => ∃ k : Nat, k ≤ n ∧ i = .int .i64 k ∧ Hid ((l.take k).all byB = true) ∧ Hid (Below w.heap.size w wr)) (fun i _ => n - (intOf i).toNat)
  case atStart => exact ⟨0, by omega, rfl, Lib.hid rfl, Lib.hid (Below.refl _ _)⟩
  case round =>
    obtain ⟨k, hk, rfl, HK, HW⟩ := hrel
    by_cases hlt : k < n
    · have hd : decide ((k : Int) < (n : Int)) = true := by simp; omega
      obtain ⟨bb, o, x, t, rfl, hy, x0, x1, h1, h2⟩ := sig_cells (HS.out.old HW.out) hlt
      have HT := Lib.hid (show l.take (k + 1) = l.take k ++ [(x, t)] by rw [List.take_add_one, hy]; rfl)
      have hba := below_alloc wr (.cells #[.int .i64 x, .string t] 108 (0, 0))
      have HW4 := Lib.hid (bthen HW.out hba)
      have HM := Lib.hid (List.mem_of_getElem? hy)
      clear hba hy
      by_cases hb : 0 ≤ x ∧ x < 200
      · have hx0 : decide (x < 0) = false := by simp; omega
        have hx1 : decide (200 ≤ x) = false := by simp; omega
        have HB := Lib.hid (show byB (x, t) = true by simp [byB]; omega)
        clear hb
        go_wp2_with fail
        go_roundw
        case rel => exact ⟨k + 1, by omega, by go_num, Lib.hid (by rw [HT.out, List.all_append, HK.out]; simpa using HB.out), HW4⟩
        case measure => simp [intOf]; omega
      · have HR := Lib.hid (show sigsB l = false by
          have : l.all byB = false := by
            rw [Bool.eq_false_iff, Ne, List.all_eq_true]
            intro h
            have := h _ HM.out
            simp [byB] at this
            omega
          simp [sigsB, this])
        by_cases hx : x < 0
        · have hx0 : decide (x < 0) = true := by simpa using hx
          clear hb
          go_wp2_with fail
          go_ret
          exact ⟨by rw [HR.out]; rfl, HW4.out⟩
        · have hx0 : decide (x < 0) = false := by simpa using hx
          have hx1 : decide (200 ≤ x) = true := by simp; omega
          clear hb
          go_wp2_with fail
          go_ret
          exact ⟨by rw [HR.out]; rfl, HW4.out⟩
    · have hd : decide ((k : Int) < (n : Int)) = false := by simp; omega
      have HR := Lib.hid (show sigsB l = decide ((n : Int) ≤ 16) by
        have h1 := HK.out
        rw [List.take_of_length_le (by omega)] at h1
        simp only [sigsB, h1, Bool.true_and, hlen]
        exact decide_eq_decide.2 (by omega))
      go_wp2_with fail
      go_ret
      exact ⟨by rw [HR.out]; rfl, HW.out⟩
end Go.Proofs.Ytijeieamodjgbab

/- Wire: walks of the program's tests: changed. -/
namespace Go.Proofs.Ytijeieamodjgbab
set_option maxRecDepth 100000
open Go.RowKit Go.Deep
set_option linter.unusedVariables false
set_option linter.unusedSimpArgs false
attribute [local go_sem] run_store_float

theorem sl_sig1 {w : World} {b : Nat} {x : Int} {t : ByteArray} (hx : i64 x) (ht : t.size ≤ 1125899906842624) (k1 : w.heap[b]? = some (.cells #[.int .i64 x, .string t] 108 (0, 0))) : SlAt shSig w (some ⟨b, 0, none⟩) 1 1 [(x, t)] :=
  ⟨rfl, by decide, by decide, by decide, nofun, fun i y hy => by
    cases i with
    | zero =>
      cases hy
      refine ⟨b, 0, [.int .i64 x, .string t], rfl, ⟨[.int .i64 x], [.string t], rfl, ⟨rfl, hx⟩, ⟨rfl, ht⟩⟩, fun j v hv => ?_⟩
      rw [blk_cell k1]
      rw [← hv]
      simp
    | succ i => cases hy⟩
theorem chg_fr {e : Int} {y : Ch} (h : ¬ (0 ≤ y.fr ∧ y.fr < 16 ∧ 1 ≤ y.v ∧ y.v ≤ 15 ∧ y.ce.length ≤ 4 ∧ byB y.sg = true)) : changeB e y = false := by
  rw [Bool.eq_false_iff]
  intro hh
  simp only [changeB, Bool.and_eq_true, decide_eq_true_eq] at hh
  exact h ⟨hh.1.1.1.1.1.1, hh.1.1.1.1.1.2, hh.1.1.1.1.2, hh.1.1.1.2, hh.1.1.2, hh.1.2⟩
theorem chg_in {e : Int} {y : Ch} (h : 0 ≤ y.fr ∧ y.fr < 16 ∧ 1 ≤ y.v ∧ y.v ≤ 15 ∧ y.ce.length ≤ 4 ∧ byB y.sg = true) : changeB e y = certsB e 0 y.ce := by
  unfold changeB
  simp [h.1, h.2.1, h.2.2.1, h.2.2.2.1, h.2.2.2.2.1, h.2.2.2.2.2]
theorem sigsB_one (s : Sg) : sigsB [s] = byB s := by simp [sigsB]
theorem crt_no {e z : Int} {y : Ce} (h : ¬ (ofB e y.s = true ∧ z < y.s ∧ 0 ≤ y.v ∧ y.v ≤ 15 ∧ askB y.q = true ∧ sigsB y.sg = true)) : certB e z y = false := by
  rw [Bool.eq_false_iff]
  intro hh
  simp only [certB, Bool.and_eq_true, decide_eq_true_eq] at hh
  exact h ⟨hh.1.1.1.1.1, hh.1.1.1.1.2, hh.1.1.1.2, hh.1.1.2, hh.1.2, hh.2⟩
theorem crt_yes {e z : Int} {y : Ce} (h : ofB e y.s = true ∧ z < y.s ∧ 0 ≤ y.v ∧ y.v ≤ 15 ∧ askB y.q = true ∧ sigsB y.sg = true) : certB e z y = true := by
  unfold certB
  simp [h.1, h.2.1, h.2.2.1, h.2.2.2.1, h.2.2.2.2.1, h.2.2.2.2.2]
theorem certs_step {e z : Int} {l : List Ce} {k : Nat} {y : Ce} (hy : l[k]? = some y) : certsB e z (l.drop k) = (certB e z y && certsB e y.s (l.drop (k + 1))) := by
  rw [List.drop_eq_getElem_cons (List.getElem?_eq_some_iff.1 hy).1, (List.getElem?_eq_some_iff.1 hy).2]
  rfl
set_option maxHeartbeats 4000000 in
theorem changed_any (e : Int) (y : Ch) (ca : Option Addr) (cn cc : Nat) (w : World) (he : 0 ≤ e ∧ e ≤ 60) (hf : i64 y.fr) (hv : i64 y.v) (hc : SlAt shCert w ca cn cc y.ce) (hs : i64 y.sg.1) (ht : y.sg.2.size ≤ 1125899906842624) :
    Calls Try.prog 97 #[.int .i64 e, .agg #[.int .i64 y.fr, .int .i64 y.v, .slice ca cn cc, .int .i64 y.sg.1, .string y.sg.2]] w fun r w' => r = .returned (.bool (changeB e y)) ∧ Below w.heap.size w w' := by
  have hlen := hc.len
  have hcap := hc.cap
  have hmax := hc.max
  have HN := Lib.hid (fun h => chg_fr (e := e) (y := y) h)
  have HY := Lib.hid (fun h => chg_in (e := e) (y := y) h)
  generalize changeB e y = R at HN HY ⊢
  obtain ⟨fr, v, ce, sx, st⟩ := y
  dsimp only at *
  obtain ⟨w1, hw1⟩ : ∃ u, u = w.alloc (.cells #[.int .i64 fr, .int .i64 v, .slice ca cn cc, .int .i64 sx, .string st] 122 (0, 0)) := ⟨_, rfl⟩
  have b1 : Below w.heap.size w w1 := by rw [hw1]; exact below_alloc _ _
  have k1 : w1.heap[w.heap.size]? = some (.cells #[.int .i64 fr, .int .i64 v, .slice ca cn cc, .int .i64 sx, .string st] 122 (0, 0)) := by rw [hw1]; exact blk_alloc _ _
  have HC1 := Lib.hid (hc.old b1)
  have B1 := Lib.hid b1; have K1 := Lib.hid k1
  have x0 : w1.cell? ⟨w.heap.size, 0, none⟩ = some (.int .i64 fr) := by rw [blk_cell k1]; rfl
  have x1 : w1.cell? ⟨w.heap.size, 1, none⟩ = some (.int .i64 v) := by rw [blk_cell k1]; rfl
  have x2 : w1.cell? ⟨w.heap.size, 2, none⟩ = some (.slice ca cn cc) := by rw [blk_cell k1]; rfl
  have x3 : w1.cell? ⟨w.heap.size, 3, none⟩ = some (.int .i64 sx) := by rw [blk_cell k1]; rfl
  have x4 : w1.cell? ⟨w.heap.size, 4, none⟩ = some (.string st) := by rw [blk_cell k1]; rfl
  clear b1 k1 hc
  go_enter Try.func97, Try.ntmps97
  go_upto_region 1 with (fail)
  rw [← hw1]
  clear hw1
  by_cases g1 : fr < 0
  · have hr := HN.out (by omega)
    have d1 : decide (fr < 0) = true := by simpa using g1
    subst hr; clear g1
    go_wp2_with fail
    go_ret
    exact ⟨rfl, B1.out⟩
  have d1 : decide (fr < 0) = false := by simpa using g1
  by_cases g2 : 16 ≤ fr
  · have hr := HN.out (by omega)
    have d2 : decide (16 ≤ fr) = true := by simpa using g2
    subst hr; clear g1 g2
    go_wp2_with fail
    go_ret
    exact ⟨rfl, B1.out⟩
  have d2 : decide (16 ≤ fr) = false := by simpa using g2
  by_cases g3 : v < 1
  · have hr := HN.out (by omega)
    have d3 : decide (v < 1) = true := by simpa using g3
    subst hr; clear g1 g2 g3
    go_wp2_with fail
    go_ret
    exact ⟨rfl, B1.out⟩
  have d3 : decide (v < 1) = false := by simpa using g3
  by_cases g4 : 15 < v
  · have hr := HN.out (by omega)
    have d4 : decide (15 < v) = true := by simpa using g4
    subst hr; clear g1 g2 g3 g4
    go_wp2_with fail
    go_ret
    exact ⟨rfl, B1.out⟩
  have d4 : decide (15 < v) = false := by simpa using g4
  by_cases g5 : (4 : Int) < (cn : Int)
  · have hr := HN.out (by omega)
    have d5 : decide ((4 : Int) < (cn : Int)) = true := by simpa using g5
    subst hr; clear g1 g2 g3 g4 g5
    go_wp2_with fail
    go_ret
    exact ⟨rfl, B1.out⟩
  have d5 : decide ((4 : Int) < (cn : Int)) = false := by simpa using g5
  have HG := Lib.hid (show 0 ≤ fr ∧ fr < 16 ∧ 1 ≤ v ∧ v ≤ 15 ∧ ce.length ≤ 4 by omega)
  obtain ⟨w2, hw2⟩ : ∃ u, u = w1.alloc (.cells #[.int .i64 sx, .string st] 108 (0, 0)) := ⟨_, rfl⟩
  have b2 : Below w1.heap.size w1 w2 := by rw [hw2]; exact below_alloc _ _
  have k2 : w2.heap[w1.heap.size]? = some (.cells #[.int .i64 sx, .string st] 108 (0, 0)) := by rw [hw2]; exact blk_alloc _ _
  have CS := Lib.hid (signed_any _ _ _ _ _ (sl_sig1 hs ht k2))
  rw [sigsB_one] at CS
  have B2 := Lib.hid (bthen B1.out b2)
  have KW := Lib.hid (fun w3 (hb : Below w2.heap.size w2 w3) => blk_below K1.out (bthen b2 hb))
  have HCW := Lib.hid (fun w3 (hb : Below w2.heap.size w2 w3) => HC1.out.old (bthen b2 hb))
  clear g1 g2 g3 g4 g5 b2 k2
  go_wp2_with fail
  rw [← hw2]
  clear hw2
  refine CS.out.mono ?_
  rintro r w3 ⟨rfl, b3⟩
  have B3 := Lib.hid (bthen B2.out b3)
  have HC3 := Lib.hid (HCW.out w3 b3)
  have k3 := KW.out w3 b3
  have K3 := Lib.hid k3
  have y2 : w3.cell? ⟨w.heap.size, 2, none⟩ = some (.slice ca cn cc) := by rw [blk_cell k3]; rfl
  clear x0 x1 x2 x3 x4 b3 k3 KW HCW B2 B1 HC1 K1 CS
  cases hb : byB (sx, st)
  · have hr := HN.out (by simp [hb])
    subst hr; clear hb
    go_wp2_with fail
    go_ret
    exact ⟨rfl, B3.out⟩
  have hR := HY.out ⟨HG.out.1, HG.out.2.1, HG.out.2.2.1, HG.out.2.2.2.1, HG.out.2.2.2.2, hb⟩
  clear hb HG HN HY d1 d2 d3 d4 d5
  go_wp2_with fail
  go_loopw [42, 5] (fun i z wr => ∃ k : Nat, ∃ x : Int, k ≤ cn ∧ i = .int .i64 k ∧ z = .int .i64 x ∧ i64 x ∧ Hid (R = certsB e x (ce.drop k)) ∧ Hid (Below w3.heap.size w3 wr)) (fun i _ _ => cn - (intOf i).toNat)
  case atStart => exact ⟨0, 0, by omega, rfl, rfl, ⟨by decide, by decide⟩, Lib.hid (by rw [hR]; rfl), Lib.hid (Below.refl _ _)⟩
  case round =>
    obtain ⟨k, z, hk, rfl, rfl, hz, HK, HW⟩ := hrel
    clear hR
    by_cases hlt : k < cn
    · have hd : decide ((k : Int) < (cn : Int)) = true := by simp; omega
      obtain ⟨bb, o, ⟨yv, ys, ⟨qc, qs, qk, qt, qb, qi⟩, sg⟩, sa, sn, sc, rfl, hy, z0, z1, z2, z3, z4, z5, z6, z7, z8, hyv, hys, hq, hsg⟩ := cert_cells (HC3.out.old HW.out) hlt
      dsimp only at z0 z1 z2 z3 z4 z5 z6 z7 z8 hyv hys hsg
      have HST := Lib.hid (certs_step (e := e) (z := z) hy)
      have HF := Lib.hid (show certB e z _ = false → R = false from fun h => by rw [HK.out, HST.out, h]; rfl)
      have HT := Lib.hid (show certB e z _ = true → R = certsB e ys (ce.drop (k + 1)) from fun h => by rw [HK.out, HST.out, h]; rfl)
      obtain ⟨w4, hw4⟩ : ∃ u, u = wr.alloc (.cells #[.int .i64 yv, .int .i64 ys, .int .i64 qc, .int .i64 qs, .int .i64 qk, .string qt, .float .f64 qb, .int .i64 qi, .slice sa sn sc] 152 (0, 0)) := ⟨_, rfl⟩
      have b4 : Below wr.heap.size wr w4 := by rw [hw4]; exact below_alloc _ _
      have k4 : w4.heap[wr.heap.size]? = some (.cells #[.int .i64 yv, .int .i64 ys, .int .i64 qc, .int .i64 qs, .int .i64 qk, .string qt, .float .f64 qb, .int .i64 qi, .slice sa sn sc] 152 (0, 0)) := by rw [hw4]; exact blk_alloc _ _
      have B4 := Lib.hid (bthen B3.out (bthen HW.out b4))
      have B4' := Lib.hid (bthen HW.out b4)
      have HSG := Lib.hid (hsg.old b4)
      have HQ := Lib.hid hq
      have y0 : w4.cell? ⟨wr.heap.size, 0, none⟩ = some (.int .i64 yv) := by rw [blk_cell k4]; rfl
      have y1 : w4.cell? ⟨wr.heap.size, 1, none⟩ = some (.int .i64 ys) := by rw [blk_cell k4]; rfl
      have K4 := Lib.hid k4
      clear k4 b4 hsg hq hy
      go_upto_region 7 with (fail)
      rw [← hw4]
      clear hw4 z0 z1 z2 z3 z4 z5 z6 z7 z8
      go_wp2_with fail
      refine (of_any e ys w4 he hys).mono ?_
      rintro r w5 ⟨rfl, rfl⟩
      cases hof : ofB e ys
      · have hr := HF.out (crt_no (fun h => by have h1 := h.1; dsimp only at h1; rw [hof] at h1; cases h1))
        clear hof HT HK
        go_wp2_with fail
        go_ret
        exact ⟨by rw [hr]; rfl, B4.out⟩
      by_cases c1 : ys ≤ z
      · have hr := HF.out (crt_no (fun h => absurd h.2.1 (by dsimp only; omega)))
        have dc1 : decide (ys ≤ z) = true := by simpa using c1
        clear c1 HT HK
        go_wp2_with fail
        go_ret
        exact ⟨by rw [hr]; rfl, B4.out⟩
      have dc1 : decide (ys ≤ z) = false := by simpa using c1
      by_cases c2 : yv < 0
      · have hr := HF.out (crt_no (fun h => absurd h.2.2.1 (by dsimp only; omega)))
        have dc2 : decide (yv < 0) = true := by simpa using c2
        clear c1 c2 HT HK
        go_wp2_with fail
        go_ret
        exact ⟨by rw [hr]; rfl, B4.out⟩
      have dc2 : decide (yv < 0) = false := by simpa using c2
      by_cases c3 : 15 < yv
      · have hr := HF.out (crt_no (fun h => absurd h.2.2.2.1 (by dsimp only; omega)))
        have dc3 : decide (15 < yv) = true := by simpa using c3
        clear c1 c2 c3 HT HK
        go_wp2_with fail
        go_ret
        exact ⟨by rw [hr]; rfl, B4.out⟩
      have dc3 : decide (15 < yv) = false := by simpa using c3
      have HP := Lib.hid (show z < ys ∧ 0 ≤ yv ∧ yv ≤ 15 from ⟨by omega, by omega, by omega⟩)
      have HO := Lib.hid hof
      clear c1 c2 c3 hof
      have y2 : w4.cell? ⟨wr.heap.size, 2, none⟩ = some (.int .i64 qc) := by rw [blk_cell K4.out]; rfl
      have y3 : w4.cell? ⟨wr.heap.size, 3, none⟩ = some (.int .i64 qs) := by rw [blk_cell K4.out]; rfl
      have y4 : w4.cell? ⟨wr.heap.size, 4, none⟩ = some (.int .i64 qk) := by rw [blk_cell K4.out]; rfl
      have y5 : w4.cell? ⟨wr.heap.size, 5, none⟩ = some (.string qt) := by rw [blk_cell K4.out]; rfl
      have y6 : w4.cell? ⟨wr.heap.size, 6, none⟩ = some (.float .f64 qb) := by rw [blk_cell K4.out]; rfl
      have y7 : w4.cell? ⟨wr.heap.size, 7, none⟩ = some (.int .i64 qi) := by rw [blk_cell K4.out]; rfl
      have CA := Lib.hid (asked_any ⟨qc, qs, qk, qt, qb, qi⟩ HQ.out w4)
      go_wp2_with fail
      refine CA.out.mono ?_
      rintro r w5 ⟨rfl, b5⟩
      have B5 := Lib.hid (bthen B4.out b5)
      have B5' := Lib.hid (bthen B4'.out b5)
      have k5 := blk_below K4.out b5
      have K5 := Lib.hid k5
      have v1 : w5.cell? ⟨wr.heap.size, 1, none⟩ = some (.int .i64 ys) := by rw [blk_cell k5]; rfl
      have v8 : w5.cell? ⟨wr.heap.size, 8, none⟩ = some (.slice sa sn sc) := by rw [blk_cell k5]; rfl
      have CS := Lib.hid (signed_any sa sn sc sg w5 (HSG.out.old b5))
      clear b5 k5 y0 y1 y2 y3 y4 y5 y6 y7 K4 B4 B4' CA HSG HQ
      cases hak : askB ⟨qc, qs, qk, qt, qb, qi⟩
      · have hr := HF.out (crt_no (fun h => by have h1 := h.2.2.2.2.1; dsimp only at h1; rw [hak] at h1; cases h1))
        clear hak HT HK
        go_wp2_with fail
        go_ret
        exact ⟨by rw [hr]; rfl, B5.out⟩
      go_wp2_with fail
      refine CS.out.mono ?_
      rintro r w6 ⟨rfl, b6⟩
      have B6 := Lib.hid (bthen B5.out b6)
      have B6' := Lib.hid (bthen B5'.out b6)
      have k6 := blk_below K5.out b6
      have v1 : w6.cell? ⟨wr.heap.size, 1, none⟩ = some (.int .i64 ys) := by rw [blk_cell k6]; rfl
      clear b6 k6 K5 B5 B5' CS v8
      cases hsb : sigsB sg
      · have hr := HF.out (crt_no (fun h => by have h1 := h.2.2.2.2.2; dsimp only at h1; rw [hsb] at h1; cases h1))
        clear hak hsb HT HK
        go_wp2_with fail
        go_ret
        exact ⟨by rw [hr]; rfl, B6.out⟩
      have HR := Lib.hid (HT.out (crt_yes ⟨HO.out, HP.out.1, HP.out.2.1, HP.out.2.2, hak, hsb⟩))
      clear hak hsb HT HK HF HST
      go_wp2_with fail
      go_roundw
      case rel => exact ⟨k + 1, ys, by omega, by go_num, rfl, hys, HR, B6'⟩
      case measure => simp [intOf]; omega
    · have hd : decide ((k : Int) < (cn : Int)) = false := by simp; omega
      have hr : R = true := by
        rw [HK.out, List.drop_of_length_le (by omega)]
        rfl
      go_wp2_with fail
      go_ret
      exact ⟨by rw [hr]; rfl, (bthen B3.out HW.out)⟩
end Go.Proofs.Ytijeieamodjgbab

/- Wire: walks of the program's tests: linked, spotted, turned. -/
namespace Go.Proofs.Ytijeieamodjgbab
set_option maxRecDepth 100000
open Go.RowKit Go.Deep
set_option linter.unusedVariables false
set_option linter.unusedSimpArgs false
attribute [local go_sem] run_store_float

theorem beqZ (a b : Int) : (a == b) = decide (a = b) := rfl
/-- A message's cells from offset o of block p on. -/
def MgAt (w : World) (p o : Nat) (m : Mg) (a1 : Option Addr) (n1 c1 : Nat) (a2 : Option Addr) (n2 c2 : Nat) (a3 : Option Addr) (n3 c3 : Nat) (a4 : Option Addr) (n4 c4 : Nat) : Prop :=
  ∀ j v, (mgCs m a1 n1 c1 a2 n2 c2 a3 n3 c3 a4 n4 c4)[j]? = some v → w.cell? ⟨p, o + j, none⟩ = some v
theorem mgAt_blk {w : World} {p : Nat} {m : Mg} {a1 : Option Addr} {n1 c1 : Nat} {a2 : Option Addr} {n2 c2 : Nat} {a3 : Option Addr} {n3 c3 : Nat} {a4 : Option Addr} {n4 c4 : Nat} {t : TypeId} {fr : Nat × Nat}
    (h : w.heap[p]? = some (.cells (mgCs m a1 n1 c1 a2 n2 c2 a3 n3 c3 a4 n4 c4).toArray t fr)) : MgAt w p 0 m a1 n1 c1 a2 n2 c2 a3 n3 c3 a4 n4 c4 := fun j v hj => by
  rw [blk_cell h]
  simpa using hj
theorem spot_no {m : Mg} {z : Nat} (h : ¬ (0 ≤ m.v ∧ m.v ≤ 15 ∧ ofB m.e m.s = true ∧ askB m.q = true)) : (viewB m && ofB m.e m.s && askB m.q && decide (m.sg.length = z)) = false := by
  rw [Bool.eq_false_iff]
  intro hh
  simp only [viewB, Bool.and_eq_true, decide_eq_true_eq] at hh
  exact h ⟨hh.1.1.1.1, hh.1.1.1.2, hh.1.1.2, hh.1.2⟩
theorem spot_yes {m : Mg} {z : Nat} (h : 0 ≤ m.v ∧ m.v ≤ 15 ∧ ofB m.e m.s = true ∧ askB m.q = true) : (viewB m && ofB m.e m.s && askB m.q && decide (m.sg.length = z)) = decide (m.sg.length = z) := by
  simp [viewB, h.1, h.2.1, h.2.2.1, h.2.2.2]
def wantN (m : Mg) : Nat := if m.k = 3 ∨ (m.k = 2 ∧ m.q.nil = false) then 1 else 0
def spotB (m : Mg) : Bool := viewB m && ofB m.e m.s && askB m.q && decide (m.sg.length = wantN m)
set_option maxHeartbeats 4000000 in
theorem spotted_any (m : Mg) (a1 : Option Addr) (n1 c1 : Nat) (a2 : Option Addr) (n2 c2 : Nat) (a3 : Option Addr) (n3 c3 : Nat) (a4 : Option Addr) (n4 c4 : Nat) (w : World) (he : 0 ≤ m.e ∧ m.e ≤ 60) (hm : MsgIn w m a1 n1 c1 a2 n2 c2 a3 n3 c3 a4 n4 c4) :
    Calls Try.prog 83 #[.agg (mgCs m a1 n1 c1 a2 n2 c2 a3 n3 c3 a4 n4 c4).toArray] w fun r w' => r = .returned (.bool (spotB m)) ∧ Below w.heap.size w w' := by
  obtain ⟨w1, hw1⟩ : ∃ u, u = w.alloc (.cells (mgCs m a1 n1 c1 a2 n2 c2 a3 n3 c3 a4 n4 c4).toArray 50 (0, 0)) := ⟨_, rfl⟩
  have b1 : Below w.heap.size w w1 := by rw [hw1]; exact below_alloc _ _
  have k1 : w1.heap[w.heap.size]? = some (.cells (mgCs m a1 n1 c1 a2 n2 c2 a3 n3 c3 a4 n4 c4).toArray 50 (0, 0)) := by rw [hw1]; exact blk_alloc _ _
  have HA := Lib.hid (show ∀ w', Below w1.heap.size w1 w' → MgAt w' w.heap.size 0 m a1 n1 c1 a2 n2 c2 a3 n3 c3 a4 n4 c4 from fun w' hb => mgAt_blk (blk_below k1 hb))
  have B1 := Lib.hid b1
  have hv := hm.v; have hs := hm.s
  have HQ := Lib.hid hm.q
  have hlen := hm.sg.len
  have HN := Lib.hid (fun h => spot_no (m := m) (z := wantN m) h)
  have HY := Lib.hid (fun h => spot_yes (m := m) (z := wantN m) h)
  have HW := Lib.hid (show wantN m = if m.k = 3 ∨ (m.k = 2 ∧ m.q.nil = false) then 1 else 0 from rfl)
  change Calls _ _ _ _ fun r w' => r = .returned (.bool (viewB m && ofB m.e m.s && askB m.q && decide (m.sg.length = wantN m))) ∧ Below w.heap.size w w'
  generalize (viewB m && ofB m.e m.s && askB m.q && decide (m.sg.length = wantN m)) = R at HN HY ⊢
  generalize wantN m = Z at HN HY HW
  generalize hCS : (mgCs m a1 n1 c1 a2 n2 c2 a3 n3 c3 a4 n4 c4).toArray = CS at hw1 k1 ⊢
  clear hCS k1 b1 hm
  have x0 : w1.cell? ⟨w.heap.size, 0, none⟩ = some (.int .i64 m.k) := HA.out _ (Below.refl _ _) 0 _ rfl
  have x1 : w1.cell? ⟨w.heap.size, 1, none⟩ = some (.int .i64 m.e) := HA.out _ (Below.refl _ _) 1 _ rfl
  have x2 : w1.cell? ⟨w.heap.size, 2, none⟩ = some (.int .i64 m.v) := HA.out _ (Below.refl _ _) 2 _ rfl
  have x3 : w1.cell? ⟨w.heap.size, 3, none⟩ = some (.int .i64 m.s) := HA.out _ (Below.refl _ _) 3 _ rfl
  have x4 : w1.cell? ⟨w.heap.size, 4, none⟩ = some (.int .i64 m.q.c) := HA.out _ (Below.refl _ _) 4 _ rfl
  have x5 : w1.cell? ⟨w.heap.size, 5, none⟩ = some (.int .i64 m.q.s) := HA.out _ (Below.refl _ _) 5 _ rfl
  have x6 : w1.cell? ⟨w.heap.size, 6, none⟩ = some (.int .i64 m.q.kind) := HA.out _ (Below.refl _ _) 6 _ rfl
  have x7 : w1.cell? ⟨w.heap.size, 7, none⟩ = some (.string m.q.key) := HA.out _ (Below.refl _ _) 7 _ rfl
  have x8 : w1.cell? ⟨w.heap.size, 8, none⟩ = some (.float .f64 m.q.b) := HA.out _ (Below.refl _ _) 8 _ rfl
  have x9 : w1.cell? ⟨w.heap.size, 9, none⟩ = some (.int .i64 m.q.id) := HA.out _ (Below.refl _ _) 9 _ rfl
  have CA := Lib.hid (asked_any m.q HQ.out w1)
  have CO := Lib.hid (of_any m.e m.s w1 he hs)
  simp only [Rq.v] at CA
  go_enter Try.func83, Try.ntmps83
  go_upto_region 1 with (fail)
  rw [← hw1]
  clear hw1
  by_cases g1 : m.v < 0
  · have hr := HN.out (by omega)
    have d1 : decide (m.v < 0) = true := by simpa using g1
    clear g1
    go_wp2_with fail
    go_ret
    exact ⟨by first | rfl | (rw [hr]; rfl), B1.out⟩
  have d1 : decide (m.v < 0) = false := by simpa using g1
  by_cases g2 : 15 < m.v
  · have hr := HN.out (by omega)
    have d2 : decide (15 < m.v) = true := by simpa using g2
    clear g1 g2
    go_wp2_with fail
    go_ret
    exact ⟨by first | rfl | (rw [hr]; rfl), B1.out⟩
  have d2 : decide (15 < m.v) = false := by simpa using g2
  have HG := Lib.hid (show 0 ≤ m.v ∧ m.v ≤ 15 by omega)
  clear g1 g2
  go_wp2_with fail
  refine CO.out.mono ?_
  rintro r w2 ⟨rfl, rfl⟩
  cases hof : ofB m.e m.s
  · have hr := HN.out (by rw [hof]; simp)
    clear hof
    go_wp2_with fail
    go_ret
    exact ⟨by first | rfl | (rw [hr]; rfl), B1.out⟩
  go_wp2_with fail
  refine CA.out.mono ?_
  rintro r w2 ⟨rfl, b2⟩
  have B2 := Lib.hid (bthen B1.out b2)
  have y0 : w2.cell? ⟨w.heap.size, 0, none⟩ = some (.int .i64 m.k) := HA.out _ b2 0 _ rfl
  have y4 : w2.cell? ⟨w.heap.size, 4, none⟩ = some (.int .i64 m.q.c) := HA.out _ b2 4 _ rfl
  have y5 : w2.cell? ⟨w.heap.size, 5, none⟩ = some (.int .i64 m.q.s) := HA.out _ b2 5 _ rfl
  have y6 : w2.cell? ⟨w.heap.size, 6, none⟩ = some (.int .i64 m.q.kind) := HA.out _ b2 6 _ rfl
  have y7 : w2.cell? ⟨w.heap.size, 7, none⟩ = some (.string m.q.key) := HA.out _ b2 7 _ rfl
  have y8 : w2.cell? ⟨w.heap.size, 8, none⟩ = some (.float .f64 m.q.b) := HA.out _ b2 8 _ rfl
  have y9 : w2.cell? ⟨w.heap.size, 9, none⟩ = some (.int .i64 m.q.id) := HA.out _ b2 9 _ rfl
  have y14 : w2.cell? ⟨w.heap.size, 14, none⟩ = some (.slice a2 n2 c2) := HA.out _ b2 14 _ rfl
  have HB2 := Lib.hid (show ∀ w', Below w2.heap.size w2 w' → w'.cell? ⟨w.heap.size, 14, none⟩ = some (.slice a2 n2 c2) from fun w' hb => HA.out w' (bthen b2 hb) 14 _ rfl)
  have CN := Lib.hid (null_rq m.q HQ.out w2)
  clear b2 CA CO x0 x1 x2 x3 x4 x5 x6 x7 x8 x9 B1 HQ HA d1 d2
  simp only [Rq.v] at CN
  cases hak : askB m.q
  · have hr := HN.out (by rw [hak]; simp)
    clear hak hof
    go_wp2_with fail
    go_ret
    exact ⟨by first | rfl | (rw [hr]; rfl), B2.out⟩
  have hr := HY.out ⟨HG.out.1, HG.out.2, hof, hak⟩
  clear hof hak HN HY HG
  have HR := Lib.hid hr
  clear hr
  have hnl : m.q.nil = nullQ m.q.c m.q.s m.q.kind m.q.key m.q.b m.q.id := rfl
  rw [hnl] at HW
  clear hnl
  generalize nullQ m.q.c m.q.s m.q.kind m.q.key m.q.b m.q.id = NL at CN HW
  rw [hlen] at HR
  by_cases g3 : m.k = 3
  · have d3 : (m.k == 3) = true := by simpa using g3
    have hz : Z = 1 := by rw [HW.out, if_pos (.inl g3)]
    have HD := Lib.hid (show ((n2 : Int) == 1) = decide (n2 = 1) from by rw [beqZ]; exact decide_eq_decide.2 (by omega))
    clear g3
    go_wp2_with fail
    go_ret
    exact ⟨by rw [HR.out, hz, ← HD.out]; rfl, B2.out⟩
  have d3 : (m.k == 3) = false := by simpa using g3
  by_cases g4 : m.k = 2
  · have d4 : (m.k == 2) = true := by simpa using g4
    have HZ := Lib.hid (show Z = if NL = false then 1 else 0 by rw [HW.out]; simp [g3, g4])
    clear g3 g4
    go_wp2_with fail
    refine CN.out.mono ?_
    rintro r w3 ⟨rfl, b3⟩
    have B3 := Lib.hid (bthen B2.out b3)
    have z14 := HB2.out w3 b3
    clear b3 B2 y0 y4 y5 y6 y7 y8 y9 y14 CN HB2
    cases NL
    · have HD := Lib.hid (show ((n2 : Int) == 1) = decide (n2 = 1) from by rw [beqZ]; exact decide_eq_decide.2 (by omega))
      go_wp2_with fail
      go_ret
      exact ⟨by rw [HR.out, show Z = 1 by rw [HZ.out]; simp, ← HD.out]; rfl, B3.out⟩
    · have HD := Lib.hid (show ((n2 : Int) == 0) = decide (n2 = 0) from by rw [beqZ]; exact decide_eq_decide.2 (by omega))
      go_wp2_with fail
      go_ret
      exact ⟨by rw [HR.out, show Z = 0 by rw [HZ.out]; simp, ← HD.out]; rfl, B3.out⟩
  · have d4 : (m.k == 2) = false := by simpa using g4
    have hz : Z = 0 := by rw [HW.out, if_neg (by rintro (h | h); exact g3 h; exact g4 h.1)]
    have HD := Lib.hid (show ((n2 : Int) == 0) = decide (n2 = 0) from by rw [beqZ]; exact decide_eq_decide.2 (by omega))
    clear g3 g4
    go_wp2_with fail
    go_ret
    exact ⟨by rw [HR.out, hz, ← HD.out]; rfl, B2.out⟩

theorem links_step {l : List Lk} {k : Nat} {e : Int} {ms : List Int} {sg : List Sg} (hy : l[k]? = some ((e, ms), sg)) : linksB k (l.drop k) = (decide (e = (k : Int) + 1) && rightB e ms && sigsB sg && linksB (k + 1) (l.drop (k + 1))) := by
  rw [List.drop_eq_getElem_cons (List.getElem?_eq_some_iff.1 hy).1, (List.getElem?_eq_some_iff.1 hy).2]
  rfl
set_option maxHeartbeats 4000000 in
theorem linked_any (m : Mg) (a1 : Option Addr) (n1 c1 : Nat) (a2 : Option Addr) (n2 c2 : Nat) (a3 : Option Addr) (n3 c3 : Nat) (a4 : Option Addr) (n4 c4 : Nat) (w : World) (hm : MsgIn w m a1 n1 c1 a2 n2 c2 a3 n3 c3 a4 n4 c4) :
    Calls Try.prog 85 #[.agg (mgCs m a1 n1 c1 a2 n2 c2 a3 n3 c3 a4 n4 c4).toArray] w fun r w' => r = .returned (.bool (linksB 0 m.lk && decide ((m.lk.length : Int) = m.e))) ∧ Below w.heap.size w w' := by
  have hlen := hm.lk.len
  have hcap := hm.lk.cap
  have hmax := hm.lk.max
  obtain ⟨w1, hw1⟩ : ∃ u, u = w.alloc (.cells (mgCs m a1 n1 c1 a2 n2 c2 a3 n3 c3 a4 n4 c4).toArray 50 (0, 0)) := ⟨_, rfl⟩
  have b1 : Below w.heap.size w w1 := by rw [hw1]; exact below_alloc _ _
  have k1 : w1.heap[w.heap.size]? = some (.cells (mgCs m a1 n1 c1 a2 n2 c2 a3 n3 c3 a4 n4 c4).toArray 50 (0, 0)) := by rw [hw1]; exact blk_alloc _ _
  have HA := Lib.hid (show ∀ w', Below w1.heap.size w1 w' → MgAt w' w.heap.size 0 m a1 n1 c1 a2 n2 c2 a3 n3 c3 a4 n4 c4 from fun w' hb => mgAt_blk (blk_below k1 hb))
  have B1 := Lib.hid b1
  have HM := Lib.hid (hm.old b1)
  generalize hCS : (mgCs m a1 n1 c1 a2 n2 c2 a3 n3 c3 a4 n4 c4).toArray = CS at hw1 k1 ⊢
  clear hCS k1 b1 hm
  have x16 : w1.cell? ⟨w.heap.size, 16, none⟩ = some (.slice a4 n4 c4) := HA.out _ (Below.refl _ _) 16 _ rfl
  obtain ⟨R, hR⟩ : ∃ R, R = linksB 0 m.lk := ⟨_, rfl⟩
  rw [← hR]
  go_enter Try.func85, Try.ntmps85
  go_upto_region 1 with (fail)
  rw [← hw1]
  clear hw1
  go_wp2_with fail
  go_loopw [8] (fun i wr => ∃ k : Nat, k ≤ n4 ∧ i = .int .i64 k ∧ Hid (R = linksB k (m.lk.drop k)) ∧ Hid (Below w1.heap.size w1 wr)) (fun i _ => n4 - (intOf i).toNat)
  case atStart => exact ⟨0, by omega, rfl, Lib.hid (by rw [hR]; rfl), Lib.hid (Below.refl _ _)⟩
  case round =>
    obtain ⟨k, hk, rfl, HK, HW⟩ := hrel
    clear hR
    by_cases hlt : k < n4
    · have hd : decide ((k : Int) < (n4 : Int)) = true := by simp; omega
      obtain ⟨bb, o, e, ms, sg, ma, mn, mc, sa, sn, sc, rfl, hy, z0, z1, z2, hie, hms, hsg⟩ := link_cells13 (HM.out.lk.old HW.out) hlt
      have HST := Lib.hid (links_step hy)
      have hwr : IntKind.i64.wrap ((k : Int) + 1) = (k : Int) + 1 := IntWalk.i64_in _ (by omega)
      have hnat : ((k + 1 : Nat) : Int) = (k : Int) + 1 := by omega
      obtain ⟨w4, hw4⟩ : ∃ u, u = wr.alloc (.cells #[.int .i64 e, .slice ma mn mc, .slice sa sn sc] 61 (0, 0)) := ⟨_, rfl⟩
      have b4 : Below wr.heap.size wr w4 := by rw [hw4]; exact below_alloc _ _
      have k4 : w4.heap[wr.heap.size]? = some (.cells #[.int .i64 e, .slice ma mn mc, .slice sa sn sc] 61 (0, 0)) := by rw [hw4]; exact blk_alloc _ _
      have B4 := Lib.hid (bthen B1.out (bthen HW.out b4))
      have B4' := Lib.hid (bthen HW.out b4)
      have HSG := Lib.hid (hsg.old b4)
      have CR := Lib.hid (right_any e ma mn mc ms w4 (ints_of_sl (hms.old b4)))
      have y0 : w4.cell? ⟨wr.heap.size, 0, none⟩ = some (.int .i64 e) := by rw [blk_cell k4]; rfl
      have y1 : w4.cell? ⟨wr.heap.size, 1, none⟩ = some (.slice ma mn mc) := by rw [blk_cell k4]; rfl
      have K4 := Lib.hid k4
      clear k4 b4 hsg hms hy
      go_upto_region 4 with (fail)
      rw [← hw4]
      clear hw4 z0 z1 z2
      cases he : (e == (k : Int) + 1)
      · have hr : R = false := by rw [HK.out, HST.out, show decide (e = (k : Int) + 1) = false by rw [← beqZ]; exact he]; rfl
        have he2 : (e != (k : Int) + 1) = true := by rw [bne, he]; rfl
        clear HK HST
        go_wp2_with fail
        go_ret
        exact ⟨by first | rfl | (rw [hr]; rfl), B4.out⟩
      have he2 : (e != (k : Int) + 1) = false := by rw [bne, he]; rfl
      have HE := Lib.hid (show decide (e = (k : Int) + 1) = true by rw [← beqZ]; exact he)
      go_wp2_with fail
      refine CR.out.mono ?_
      rintro r w5 ⟨rfl, b5⟩
      have B5 := Lib.hid (bthen B4.out b5)
      have B5' := Lib.hid (bthen B4'.out b5)
      have k5 := blk_below K4.out b5
      have v2 : w5.cell? ⟨wr.heap.size, 2, none⟩ = some (.slice sa sn sc) := by rw [blk_cell k5]; rfl
      have CS := Lib.hid (signed_any sa sn sc sg w5 (HSG.out.old b5))
      clear b5 k5 y0 y1 K4 B4 B4' HSG CR
      cases hrt : rightB e ms
      · have hr : R = false := by rw [HK.out, HST.out, hrt, HE.out]; rfl
        clear HK HST hrt HE
        go_wp2_with fail
        go_ret
        exact ⟨by first | rfl | (rw [hr]; rfl), B5.out⟩
      go_wp2_with fail
      refine CS.out.mono ?_
      rintro r w6 ⟨rfl, b6⟩
      have B6 := Lib.hid (bthen B5.out b6)
      have B6' := Lib.hid (bthen B5'.out b6)
      clear b6 B5 B5' CS v2
      cases hsb : sigsB sg
      · have hr : R = false := by rw [HK.out, HST.out, hrt, HE.out, hsb]; rfl
        clear HK HST hrt hsb HE
        go_wp2_with fail
        go_ret
        exact ⟨by first | rfl | (rw [hr]; rfl), B6.out⟩
      have HR := Lib.hid (show R = linksB (k + 1) (m.lk.drop (k + 1)) by rw [HK.out, HST.out, hrt, HE.out, hsb]; rfl)
      clear HK HST hrt hsb HE he he2 hnat
      go_wp2_with fail
      go_roundw
      case rel => exact ⟨k + 1, by omega, by go_num, HR, B6'⟩
      case measure => simp [intOf]; omega
    · have hd : decide ((k : Int) < (n4 : Int)) = false := by simp; omega
      have hr : R = true := by
        rw [HK.out, List.drop_of_length_le (by omega)]
        rfl
      have v1 : wr.cell? ⟨w.heap.size, 1, none⟩ = some (.int .i64 m.e) := HA.out _ HW.out 1 _ rfl
      have v16 : wr.cell? ⟨w.heap.size, 16, none⟩ = some (.slice a4 n4 c4) := HA.out _ HW.out 16 _ rfl
      have HD := Lib.hid (show (R && decide ((m.lk.length : Int) = m.e)) = ((n4 : Int) == m.e) by rw [hr, hlen, Bool.true_and, beqZ])
      clear hr
      go_wp2_with fail
      go_ret
      exact ⟨by rw [HD.out]; rfl, (bthen B1.out HW.out)⟩

def turnB (m : Mg) : Bool := decide (1 ≤ m.ch.length) && decide (m.ch.length ≤ 10) && !(decide (m.k = 6) && decide (1 < m.ch.length)) && changesB m.e m.v (-1) m.ch
theorem turn_no {m : Mg} (h : ¬ (1 ≤ m.ch.length ∧ m.ch.length ≤ 10 ∧ ¬ (m.k = 6 ∧ 1 < m.ch.length))) : turnB m = false := by
  rw [Bool.eq_false_iff]
  intro hh
  simp only [turnB, Bool.and_eq_true, decide_eq_true_eq, Bool.not_eq_true', Bool.and_eq_false_iff, decide_eq_false_iff_not] at hh
  refine h ⟨hh.1.1.1, hh.1.1.2, fun hc => ?_⟩
  rcases hh.1.2 with h1 | h1
  · exact h1 hc.1
  · exact h1 hc.2
theorem turn_yes {m : Mg} (h : 1 ≤ m.ch.length ∧ m.ch.length ≤ 10 ∧ ¬ (m.k = 6 ∧ 1 < m.ch.length)) : turnB m = changesB m.e m.v (-1) m.ch := by
  have h3 : (decide (m.k = 6) && decide (1 < m.ch.length)) = false := by
    rw [Bool.eq_false_iff]
    intro hh
    simp only [Bool.and_eq_true, decide_eq_true_eq] at hh
    exact h.2.2 hh
  unfold turnB
  rw [h3]
  simp [h.1, h.2.1]
theorem changes_step {e v z : Int} {l : List Ch} {k : Nat} {y : Ch} (hy : l[k]? = some y) : changesB e v z (l.drop k) = (decide (y.v = v) && decide (z < y.fr) && changeB e y && changesB e v y.fr (l.drop (k + 1))) := by
  rw [List.drop_eq_getElem_cons (List.getElem?_eq_some_iff.1 hy).1, (List.getElem?_eq_some_iff.1 hy).2]
  rfl
set_option maxHeartbeats 4000000 in
theorem turned_any (m : Mg) (a1 : Option Addr) (n1 c1 : Nat) (a2 : Option Addr) (n2 c2 : Nat) (a3 : Option Addr) (n3 c3 : Nat) (a4 : Option Addr) (n4 c4 : Nat) (w : World) (he : 0 ≤ m.e ∧ m.e ≤ 60) (hm : MsgIn w m a1 n1 c1 a2 n2 c2 a3 n3 c3 a4 n4 c4) :
    Calls Try.prog 84 #[.agg (mgCs m a1 n1 c1 a2 n2 c2 a3 n3 c3 a4 n4 c4).toArray] w fun r w' => r = .returned (.bool (turnB m)) ∧ Below w.heap.size w w' := by
  have hlen := hm.ch.len
  have hcap := hm.ch.cap
  have hmax := hm.ch.max
  obtain ⟨w1, hw1⟩ : ∃ u, u = w.alloc (.cells (mgCs m a1 n1 c1 a2 n2 c2 a3 n3 c3 a4 n4 c4).toArray 50 (0, 0)) := ⟨_, rfl⟩
  have b1 : Below w.heap.size w w1 := by rw [hw1]; exact below_alloc _ _
  have k1 : w1.heap[w.heap.size]? = some (.cells (mgCs m a1 n1 c1 a2 n2 c2 a3 n3 c3 a4 n4 c4).toArray 50 (0, 0)) := by rw [hw1]; exact blk_alloc _ _
  have HA := Lib.hid (show ∀ w', Below w1.heap.size w1 w' → MgAt w' w.heap.size 0 m a1 n1 c1 a2 n2 c2 a3 n3 c3 a4 n4 c4 from fun w' hb => mgAt_blk (blk_below k1 hb))
  have B1 := Lib.hid b1
  have HM := Lib.hid (hm.old b1)
  have HN := Lib.hid (fun h => turn_no (m := m) h)
  have HY := Lib.hid (fun h => turn_yes (m := m) h)
  generalize turnB m = R at HN HY ⊢
  generalize hCS : (mgCs m a1 n1 c1 a2 n2 c2 a3 n3 c3 a4 n4 c4).toArray = CS at hw1 k1 ⊢
  clear hCS k1 b1 hm
  have x0 : w1.cell? ⟨w.heap.size, 0, none⟩ = some (.int .i64 m.k) := HA.out _ (Below.refl _ _) 0 _ rfl
  have x15 : w1.cell? ⟨w.heap.size, 15, none⟩ = some (.slice a3 n3 c3) := HA.out _ (Below.refl _ _) 15 _ rfl
  go_enter Try.func84, Try.ntmps84
  go_upto_region 1 with (fail)
  rw [← hw1]
  clear hw1
  by_cases g1 : (n3 : Int) < 1
  · have hr := HN.out (by omega)
    have d1 : decide ((n3 : Int) < 1) = true := by simpa using g1
    clear g1
    go_wp2_with fail
    go_ret
    exact ⟨by first | rfl | (rw [hr]; rfl), B1.out⟩
  have d1 : decide ((n3 : Int) < 1) = false := by simpa using g1
  by_cases g2 : (10 : Int) < (n3 : Int)
  · have hr := HN.out (by omega)
    have d2 : decide ((10 : Int) < (n3 : Int)) = true := by simpa using g2
    clear g1 g2
    go_wp2_with fail
    go_ret
    exact ⟨by first | rfl | (rw [hr]; rfl), B1.out⟩
  have d2 : decide ((10 : Int) < (n3 : Int)) = false := by simpa using g2
  have HC : ∃ b1 b2 : Bool, (m.k == 6) = b1 ∧ decide ((1 : Int) < (n3 : Int)) = b2 ∧ ((b1 = true ∧ b2 = true → R = false) ∧ (¬ (b1 = true ∧ b2 = true) → R = changesB m.e m.v (-1) m.ch)) := by
    refine ⟨_, _, rfl, rfl, fun h => HN.out fun hh => hh.2.2 ⟨by simpa using h.1, by have := h.2; simp at this; omega⟩, fun h => HY.out ⟨by omega, by omega, fun hh => h ⟨by simpa using hh.1, by simp; omega⟩⟩⟩
  obtain ⟨t1, t2, d3, d4, hno, hyes⟩ := HC
  clear g1 g2 HN HY
  have HNO := Lib.hid hno
  clear hno
  by_cases g3 : t1 = true ∧ t2 = true
  · have hr := HNO.out g3
    obtain ⟨rfl, rfl⟩ := g3
    clear hyes
    go_wp2_with fail
    go_ret
    exact ⟨by first | rfl | (rw [hr]; rfl), B1.out⟩
  have hR := hyes g3
  have HR0 := Lib.hid hR
  clear hR hyes HNO
  have ht : t1 = false ∨ (t1 = true ∧ t2 = false) := by
    cases t1
    · exact .inl rfl
    · cases t2
      · exact .inr ⟨rfl, rfl⟩
      · exact absurd ⟨rfl, rfl⟩ g3
  clear g3
  rcases ht with rfl | ⟨rfl, rfl⟩
  · go_wp2_with fail
    go_loopw [28, 4] (fun i z wr => ∃ k : Nat, ∃ x : Int, k ≤ n3 ∧ i = .int .i64 k ∧ z = .int .i64 x ∧ Hid (R = changesB m.e m.v x (m.ch.drop k)) ∧ Hid (Below w1.heap.size w1 wr)) (fun i _ _ => n3 - (intOf i).toNat)
    case atStart => exact ⟨0, -1, by omega, rfl, rfl, HR0, Lib.hid (Below.refl _ _)⟩
    case round =>
      obtain ⟨k, z, hk, rfl, rfl, HK, HW⟩ := hrel
      by_cases hlt : k < n3
      · have hd : decide ((k : Int) < (n3 : Int)) = true := by simp; omega
        obtain ⟨bb, o, ⟨yf, yv, ce, sx, st⟩, sa, sn, sc, rfl, hy, z0, z1, z2, z3, z4, hyf, hyv, hce, hs1, hs2⟩ := change_cells (HM.out.ch.old HW.out) hlt
        dsimp only at z0 z1 z2 z3 z4 hyf hyv hce hs1 hs2
        have HST := Lib.hid (changes_step (e := m.e) (v := m.v) (z := z) hy)
        obtain ⟨w4, hw4⟩ : ∃ u, u = wr.alloc (.cells #[.int .i64 yf, .int .i64 yv, .slice sa sn sc, .int .i64 sx, .string st] 122 (0, 0)) := ⟨_, rfl⟩
        have b4 : Below wr.heap.size wr w4 := by rw [hw4]; exact below_alloc _ _
        have k4 : w4.heap[wr.heap.size]? = some (.cells #[.int .i64 yf, .int .i64 yv, .slice sa sn sc, .int .i64 sx, .string st] 122 (0, 0)) := by rw [hw4]; exact blk_alloc _ _
        have B4 := Lib.hid (bthen B1.out (bthen HW.out b4))
        have B4' := Lib.hid (bthen HW.out b4)
        have CC := Lib.hid (changed_any m.e ⟨yf, yv, ce, sx, st⟩ sa sn sc w4 he hyf hyv (hce.old b4) hs1 hs2)
        have y0 : w4.cell? ⟨wr.heap.size, 0, none⟩ = some (.int .i64 yf) := by rw [blk_cell k4]; rfl
        have y1 : w4.cell? ⟨wr.heap.size, 1, none⟩ = some (.int .i64 yv) := by rw [blk_cell k4]; rfl
        have y2 : w4.cell? ⟨wr.heap.size, 2, none⟩ = some (.slice sa sn sc) := by rw [blk_cell k4]; rfl
        have y3 : w4.cell? ⟨wr.heap.size, 3, none⟩ = some (.int .i64 sx) := by rw [blk_cell k4]; rfl
        have y4 : w4.cell? ⟨wr.heap.size, 4, none⟩ = some (.string st) := by rw [blk_cell k4]; rfl
        have u1 : w4.cell? ⟨w.heap.size, 1, none⟩ = some (.int .i64 m.e) := HA.out _ B4'.out 1 _ rfl
        have u2 : w4.cell? ⟨w.heap.size, 2, none⟩ = some (.int .i64 m.v) := HA.out _ B4'.out 2 _ rfl
        have K4 := Lib.hid k4
        clear k4 b4 hce hy
        go_upto_region 8 with (fail)
        rw [← hw4]
        clear hw4 z0 z1 z2 z3 z4
        cases hv1 : (yv == m.v)
        · have hr : R = false := by rw [HK.out, HST.out, show decide (yv = m.v) = false by rw [← beqZ]; exact hv1]; rfl
          have hv2 : (yv != m.v) = true := by rw [bne, hv1]; rfl
          clear HK HST HR0
          go_wp2_with fail
          go_ret
          exact ⟨by first | rfl | (rw [hr]; rfl), B4.out⟩
        have hv2 : (yv != m.v) = false := by rw [bne, hv1]; rfl
        have HV := Lib.hid (show decide (yv = m.v) = true by rw [← beqZ]; exact hv1)
        by_cases g5 : yf ≤ z
        · have d5 : decide (yf ≤ z) = true := by simpa using g5
          have hr : R = false := by rw [HK.out, HST.out, HV.out, show decide (z < yf) = false by simpa using g5]; rfl
          clear HK HST g5 HR0
          go_wp2_with fail
          go_ret
          exact ⟨by first | rfl | (rw [hr]; rfl), B4.out⟩
        have d5 : decide (yf ≤ z) = false := by simpa using g5
        have HZ := Lib.hid (show decide (z < yf) = true by simp; omega)
        clear g5
        go_wp2_with fail
        refine CC.out.mono ?_
        rintro r w5 ⟨rfl, b5⟩
        have B5 := Lib.hid (bthen B4.out b5)
        have B5' := Lib.hid (bthen B4'.out b5)
        have k5 := blk_below K4.out b5
        have v0 : w5.cell? ⟨wr.heap.size, 0, none⟩ = some (.int .i64 yf) := by rw [blk_cell k5]; rfl
        clear b5 k5 y0 y1 y2 y3 y4 u1 u2 K4 B4 B4' CC
        cases hcb : changeB m.e ⟨yf, yv, ce, sx, st⟩
        · have hr : R = false := by rw [HK.out, HST.out, HV.out, HZ.out, hcb]; rfl
          clear HK HST hcb HV HZ HR0
          go_wp2_with fail
          go_ret
          exact ⟨by first | rfl | (rw [hr]; rfl), B5.out⟩
        have HR := Lib.hid (show R = changesB m.e m.v yf (m.ch.drop (k + 1)) by rw [HK.out, HST.out, HV.out, HZ.out, hcb]; rfl)
        clear HK HST hcb HV HZ hv1 hv2 d5 HR0
        go_wp2_with fail
        go_roundw
        case rel => exact ⟨k + 1, yf, by omega, by go_num, rfl, HR, B5'⟩
        case measure => simp [intOf]; omega
      · have hd : decide ((k : Int) < (n3 : Int)) = false := by simp; omega
        have hr : R = true := by
          rw [HK.out, List.drop_of_length_le (by omega)]
          rfl
        clear HK HR0
        go_wp2_with fail
        go_ret
        exact ⟨by first | rfl | (rw [hr]; rfl), (bthen B1.out HW.out)⟩
  · go_wp2_with fail
    go_loopw [28, 4] (fun i z wr => ∃ k : Nat, ∃ x : Int, k ≤ n3 ∧ i = .int .i64 k ∧ z = .int .i64 x ∧ Hid (R = changesB m.e m.v x (m.ch.drop k)) ∧ Hid (Below w1.heap.size w1 wr)) (fun i _ _ => n3 - (intOf i).toNat)
    case atStart => exact ⟨0, -1, by omega, rfl, rfl, HR0, Lib.hid (Below.refl _ _)⟩
    case round =>
      obtain ⟨k, z, hk, rfl, rfl, HK, HW⟩ := hrel
      by_cases hlt : k < n3
      · have hd : decide ((k : Int) < (n3 : Int)) = true := by simp; omega
        obtain ⟨bb, o, ⟨yf, yv, ce, sx, st⟩, sa, sn, sc, rfl, hy, z0, z1, z2, z3, z4, hyf, hyv, hce, hs1, hs2⟩ := change_cells (HM.out.ch.old HW.out) hlt
        dsimp only at z0 z1 z2 z3 z4 hyf hyv hce hs1 hs2
        have HST := Lib.hid (changes_step (e := m.e) (v := m.v) (z := z) hy)
        obtain ⟨w4, hw4⟩ : ∃ u, u = wr.alloc (.cells #[.int .i64 yf, .int .i64 yv, .slice sa sn sc, .int .i64 sx, .string st] 122 (0, 0)) := ⟨_, rfl⟩
        have b4 : Below wr.heap.size wr w4 := by rw [hw4]; exact below_alloc _ _
        have k4 : w4.heap[wr.heap.size]? = some (.cells #[.int .i64 yf, .int .i64 yv, .slice sa sn sc, .int .i64 sx, .string st] 122 (0, 0)) := by rw [hw4]; exact blk_alloc _ _
        have B4 := Lib.hid (bthen B1.out (bthen HW.out b4))
        have B4' := Lib.hid (bthen HW.out b4)
        have CC := Lib.hid (changed_any m.e ⟨yf, yv, ce, sx, st⟩ sa sn sc w4 he hyf hyv (hce.old b4) hs1 hs2)
        have y0 : w4.cell? ⟨wr.heap.size, 0, none⟩ = some (.int .i64 yf) := by rw [blk_cell k4]; rfl
        have y1 : w4.cell? ⟨wr.heap.size, 1, none⟩ = some (.int .i64 yv) := by rw [blk_cell k4]; rfl
        have y2 : w4.cell? ⟨wr.heap.size, 2, none⟩ = some (.slice sa sn sc) := by rw [blk_cell k4]; rfl
        have y3 : w4.cell? ⟨wr.heap.size, 3, none⟩ = some (.int .i64 sx) := by rw [blk_cell k4]; rfl
        have y4 : w4.cell? ⟨wr.heap.size, 4, none⟩ = some (.string st) := by rw [blk_cell k4]; rfl
        have u1 : w4.cell? ⟨w.heap.size, 1, none⟩ = some (.int .i64 m.e) := HA.out _ B4'.out 1 _ rfl
        have u2 : w4.cell? ⟨w.heap.size, 2, none⟩ = some (.int .i64 m.v) := HA.out _ B4'.out 2 _ rfl
        have K4 := Lib.hid k4
        clear k4 b4 hce hy
        go_upto_region 8 with (fail)
        rw [← hw4]
        clear hw4 z0 z1 z2 z3 z4
        cases hv1 : (yv == m.v)
        · have hr : R = false := by rw [HK.out, HST.out, show decide (yv = m.v) = false by rw [← beqZ]; exact hv1]; rfl
          have hv2 : (yv != m.v) = true := by rw [bne, hv1]; rfl
          clear HK HST HR0
          go_wp2_with fail
          go_ret
          exact ⟨by first | rfl | (rw [hr]; rfl), B4.out⟩
        have hv2 : (yv != m.v) = false := by rw [bne, hv1]; rfl
        have HV := Lib.hid (show decide (yv = m.v) = true by rw [← beqZ]; exact hv1)
        by_cases g5 : yf ≤ z
        · have d5 : decide (yf ≤ z) = true := by simpa using g5
          have hr : R = false := by rw [HK.out, HST.out, HV.out, show decide (z < yf) = false by simpa using g5]; rfl
          clear HK HST g5 HR0
          go_wp2_with fail
          go_ret
          exact ⟨by first | rfl | (rw [hr]; rfl), B4.out⟩
        have d5 : decide (yf ≤ z) = false := by simpa using g5
        have HZ := Lib.hid (show decide (z < yf) = true by simp; omega)
        clear g5
        go_wp2_with fail
        refine CC.out.mono ?_
        rintro r w5 ⟨rfl, b5⟩
        have B5 := Lib.hid (bthen B4.out b5)
        have B5' := Lib.hid (bthen B4'.out b5)
        have k5 := blk_below K4.out b5
        have v0 : w5.cell? ⟨wr.heap.size, 0, none⟩ = some (.int .i64 yf) := by rw [blk_cell k5]; rfl
        clear b5 k5 y0 y1 y2 y3 y4 u1 u2 K4 B4 B4' CC
        cases hcb : changeB m.e ⟨yf, yv, ce, sx, st⟩
        · have hr : R = false := by rw [HK.out, HST.out, HV.out, HZ.out, hcb]; rfl
          clear HK HST hcb HV HZ HR0
          go_wp2_with fail
          go_ret
          exact ⟨by first | rfl | (rw [hr]; rfl), B5.out⟩
        have HR := Lib.hid (show R = changesB m.e m.v yf (m.ch.drop (k + 1)) by rw [HK.out, HST.out, HV.out, HZ.out, hcb]; rfl)
        clear HK HST hcb HV HZ hv1 hv2 d5 HR0
        go_wp2_with fail
        go_roundw
        case rel => exact ⟨k + 1, yf, by omega, by go_num, rfl, HR, B5'⟩
        case measure => simp [intOf]; omega
      · have hd : decide ((k : Int) < (n3 : Int)) = false := by simp; omega
        have hr : R = true := by
          rw [HK.out, List.drop_of_length_le (by omega)]
          rfl
        clear HK HR0
        go_wp2_with fail
        go_ret
        exact ⟨by first | rfl | (rw [hr]; rfl), (bthen B1.out HW.out)⟩
end Go.Proofs.Ytijeieamodjgbab

/- Wire: walks of the program's tests: empty. -/
namespace Go.Proofs.Ytijeieamodjgbab
set_option maxRecDepth 100000
open Go.RowKit Go.Deep
set_option linter.unusedVariables false
set_option linter.unusedSimpArgs false
attribute [local go_sem] run_store_float

def emptyB (m : Mg) : Bool := decide (m.e = 0 ∧ m.v = 0 ∧ m.s = 0 ∧ m.nx.length + m.sg.length + m.ch.length + m.lk.length = 0) && decide (m.t.size = 0) && m.q.nil && decide (m.c = 0) && decide (canonB m.r = 0)
theorem ofInt_zero {x : Int} (h : i64 x) : (BitVec.ofInt 64 x).toNat = 0 ↔ x = 0 := by
  have h1 := h.1; have h2 := h.2
  rw [BitVec.toNat_ofInt]
  constructor
  · intro hh
    have : x % (2 ^ 64 : Nat) = 0 := by have h3 := Int.emod_nonneg x (show ((2 ^ 64 : Nat) : Int) ≠ 0 by decide); omega
    have e : ((2 ^ 64 : Nat) : Int) = 18446744073709551616 := by decide
    rw [e] at this
    omega
  · rintro rfl
    decide
theorem bits_or_i64 (x y : Int) : i64 (bits BinOp.or IntKind.i64 x y) := by
  have := wf_bits BinOp.or .i64 x y
  have h2 := bounds_i64 this
  exact h2
theorem or_zero {x y : Int} (hx : i64 x) (hy : i64 y) : bits BinOp.or IntKind.i64 x y = 0 ↔ x = 0 ∧ y = 0 := by
  show IntKind.i64.wrap ((BitVec.ofInt 64 x ||| BitVec.ofInt 64 y).toNat : Int) = 0 ↔ _
  have h1 := ofInt_zero hx
  have h2 := ofInt_zero hy
  have hb1 := (BitVec.ofInt 64 x).isLt
  have hb2 := (BitVec.ofInt 64 y).isLt
  rw [BitVec.toNat_or]
  have h3 : (BitVec.ofInt 64 x).toNat ||| (BitVec.ofInt 64 y).toNat < 2 ^ 64 := Nat.or_lt_two_pow hb1 hb2
  have h4 : ((BitVec.ofInt 64 x).toNat ||| (BitVec.ofInt 64 y).toNat) = 0 ↔ (BitVec.ofInt 64 x).toNat = 0 ∧ (BitVec.ofInt 64 y).toNat = 0 := Nat.or_eq_zero_iff
  rw [← h1, ← h2, ← h4]
  generalize (BitVec.ofInt 64 x).toNat ||| (BitVec.ofInt 64 y).toNat = n at *
  rw [IntKind.wrap_i64]
  try simp only [wrap64]
  omega
theorem or_four {a b c d : Int} (ha : i64 a) (hb : i64 b) (hc : i64 c) (hd : i64 d) : bits BinOp.or IntKind.i64 (bits BinOp.or IntKind.i64 (bits BinOp.or IntKind.i64 a b) c) d = 0 ↔ a = 0 ∧ b = 0 ∧ c = 0 ∧ d = 0 := by
  rw [or_zero (bits_or_i64 _ _) hd, or_zero (bits_or_i64 _ _) hc, or_zero ha hb]
  constructor
  · rintro ⟨⟨⟨h1, h2⟩, h3⟩, h4⟩; exact ⟨h1, h2, h3, h4⟩
  · rintro ⟨h1, h2, h3, h4⟩; exact ⟨⟨⟨h1, h2⟩, h3⟩, h4⟩
set_option maxHeartbeats 4000000 in
theorem empty_any (m : Mg) (a1 : Option Addr) (n1 c1 : Nat) (a2 : Option Addr) (n2 c2 : Nat) (a3 : Option Addr) (n3 c3 : Nat) (a4 : Option Addr) (n4 c4 : Nat) (w : World) (hm : MsgIn w m a1 n1 c1 a2 n2 c2 a3 n3 c3 a4 n4 c4) :
    Calls Try.prog 86 #[.agg (mgCs m a1 n1 c1 a2 n2 c2 a3 n3 c3 a4 n4 c4).toArray] w fun r w' => r = .returned (.bool (emptyB m)) ∧ Below w.heap.size w w' := by
  obtain ⟨w1, hw1⟩ : ∃ u, u = w.alloc (.cells (mgCs m a1 n1 c1 a2 n2 c2 a3 n3 c3 a4 n4 c4).toArray 145 (0, 0)) := ⟨_, rfl⟩
  have b1 : Below w.heap.size w w1 := by rw [hw1]; exact below_alloc _ _
  have k1 : w1.heap[w.heap.size]? = some (.cells (mgCs m a1 n1 c1 a2 n2 c2 a3 n3 c3 a4 n4 c4).toArray 145 (0, 0)) := by rw [hw1]; exact blk_alloc _ _
  have HA := Lib.hid (show ∀ w', Below w1.heap.size w1 w' → MgAt w' w.heap.size 0 m a1 n1 c1 a2 n2 c2 a3 n3 c3 a4 n4 c4 from fun w' hb => mgAt_blk (blk_below k1 hb))
  have B1 := Lib.hid b1
  have hl1 := hm.nx.bytes; have hl2 := hm.sg.bytes; have hl3 := hm.ch.bytes; have hl4 := hm.lk.bytes
  have hn1 := hm.nx.len; have hn2 := hm.sg.len; have hn3 := hm.ch.len; have hn4 := hm.lk.len
  change n1 * 8 ≤ _ at hl1
  change n2 * 24 ≤ _ at hl2
  change n3 * 64 ≤ _ at hl3
  change n4 * 56 ≤ _ at hl4
  have hq := hm.q
  generalize hCS : (mgCs m a1 n1 c1 a2 n2 c2 a3 n3 c3 a4 n4 c4).toArray = CS at hw1 k1 ⊢
  clear hCS k1 b1
  have CN := Lib.hid (null_rq m.q hq w1)
  simp only [Rq.v] at CN
  have hw2 : IntKind.i64.wrap ((n1 : Int) + n2) = (n1 : Int) + n2 := IntWalk.i64_in _ (by omega)
  have hw3 : IntKind.i64.wrap ((n1 : Int) + n2 + n3) = (n1 : Int) + n2 + n3 := IntWalk.i64_in _ (by omega)
  have hw4 : IntKind.i64.wrap ((n1 : Int) + n2 + n3 + n4) = (n1 : Int) + n2 + n3 + n4 := IntWalk.i64_in _ (by omega)
  have x0 : w1.cell? ⟨w.heap.size, 0, none⟩ = some (.int .i64 m.k) := HA.out _ (Below.refl _ _) 0 _ rfl
  have x1 : w1.cell? ⟨w.heap.size, 1, none⟩ = some (.int .i64 m.e) := HA.out _ (Below.refl _ _) 1 _ rfl
  have x2 : w1.cell? ⟨w.heap.size, 2, none⟩ = some (.int .i64 m.v) := HA.out _ (Below.refl _ _) 2 _ rfl
  have x3 : w1.cell? ⟨w.heap.size, 3, none⟩ = some (.int .i64 m.s) := HA.out _ (Below.refl _ _) 3 _ rfl
  have x4 : w1.cell? ⟨w.heap.size, 4, none⟩ = some (.int .i64 m.q.c) := HA.out _ (Below.refl _ _) 4 _ rfl
  have x5 : w1.cell? ⟨w.heap.size, 5, none⟩ = some (.int .i64 m.q.s) := HA.out _ (Below.refl _ _) 5 _ rfl
  have x6 : w1.cell? ⟨w.heap.size, 6, none⟩ = some (.int .i64 m.q.kind) := HA.out _ (Below.refl _ _) 6 _ rfl
  have x7 : w1.cell? ⟨w.heap.size, 7, none⟩ = some (.string m.q.key) := HA.out _ (Below.refl _ _) 7 _ rfl
  have x8 : w1.cell? ⟨w.heap.size, 8, none⟩ = some (.float .f64 m.q.b) := HA.out _ (Below.refl _ _) 8 _ rfl
  have x9 : w1.cell? ⟨w.heap.size, 9, none⟩ = some (.int .i64 m.q.id) := HA.out _ (Below.refl _ _) 9 _ rfl
  have x10 : w1.cell? ⟨w.heap.size, 10, none⟩ = some (.int .i64 m.c) := HA.out _ (Below.refl _ _) 10 _ rfl
  have x11 : w1.cell? ⟨w.heap.size, 11, none⟩ = some (.float .f64 m.r) := HA.out _ (Below.refl _ _) 11 _ rfl
  have x12 : w1.cell? ⟨w.heap.size, 12, none⟩ = some (.string m.t) := HA.out _ (Below.refl _ _) 12 _ rfl
  have x13 : w1.cell? ⟨w.heap.size, 13, none⟩ = some (.slice a1 n1 c1) := HA.out _ (Below.refl _ _) 13 _ rfl
  have x14 : w1.cell? ⟨w.heap.size, 14, none⟩ = some (.slice a2 n2 c2) := HA.out _ (Below.refl _ _) 14 _ rfl
  have x15 : w1.cell? ⟨w.heap.size, 15, none⟩ = some (.slice a3 n3 c3) := HA.out _ (Below.refl _ _) 15 _ rfl
  have x16 : w1.cell? ⟨w.heap.size, 16, none⟩ = some (.slice a4 n4 c4) := HA.out _ (Below.refl _ _) 16 _ rfl
  have HF := Lib.hid (show bits BinOp.or IntKind.i64 (bits BinOp.or IntKind.i64 (bits BinOp.or IntKind.i64 m.e m.v) m.s) ((n1 : Int) + n2 + n3 + n4) = 0 ↔ (m.e = 0 ∧ m.v = 0 ∧ m.s = 0 ∧ m.nx.length + m.sg.length + m.ch.length + m.lk.length = 0) from by
    rw [or_four hm.e hm.v hm.s ⟨by omega, by omega⟩, hn1, hn2, hn3, hn4]
    constructor
    · rintro ⟨h1, h2, h3, h4⟩; exact ⟨h1, h2, h3, by omega⟩
    · rintro ⟨h1, h2, h3, h4⟩; exact ⟨h1, h2, h3, by omega⟩)
  obtain ⟨b0, hb0⟩ : ∃ b, b = decide (m.e = 0 ∧ m.v = 0 ∧ m.s = 0 ∧ m.nx.length + m.sg.length + m.ch.length + m.lk.length = 0) := ⟨_, rfl⟩
  obtain ⟨bt, hbt⟩ : ∃ b, b = decide (m.t.size = 0) := ⟨_, rfl⟩
  have HE := Lib.hid (show emptyB m = (b0 && bt && nullQ m.q.c m.q.s m.q.kind m.q.key m.q.b m.q.id && decide (m.c = 0) && decide (canonB m.r = 0)) from by rw [hb0, hbt]; rfl)
  generalize emptyB m = R at HE ⊢
  generalize nullQ m.q.c m.q.s m.q.kind m.q.key m.q.b m.q.id = NL at CN HE
  clear hl1 hl2 hl3 hl4 hm
  go_enter Try.func86, Try.ntmps86
  go_upto_region 1 with (fail)
  rw [← hw1]
  clear hw1
  go_upto_region 2 with (fail)
  generalize hz : bits BinOp.or IntKind.i64 (bits BinOp.or IntKind.i64 (bits BinOp.or IntKind.i64 m.e m.v) m.s) ((n1 : Int) + n2 + n3 + n4) = Z at HF
  cases b0
  · have h0 : (Z == 0) = false := by
      have h1 : ¬ Z = 0 := fun hh => by have := HF.out.1 hh; simp [this] at hb0
      simpa using h1
    have hr : R = false := HE.out
    clear HE HF hb0
    go_wp2_with fail
    go_ret
    exact ⟨by first | rfl | (rw [hr]; rfl), B1.out⟩
  have h0 : Z = 0 := by
    have : m.e = 0 ∧ m.v = 0 ∧ m.s = 0 ∧ m.nx.length + m.sg.length + m.ch.length + m.lk.length = 0 := of_decide_eq_true hb0.symm
    exact HF.out.2 this
  subst h0
  clear HF hb0
  cases bt
  · have ht : m.t.toList.isEmpty = false := by rw [str_empty]; exact hbt.symm
    have hr : R = false := HE.out
    clear HE hbt
    go_wp2_with fail
    go_ret
    exact ⟨by first | rfl | (rw [hr]; rfl), B1.out⟩
  have ht : m.t.toList.isEmpty = true := by rw [str_empty]; exact hbt.symm
  clear hbt
  go_wp2_with fail
  refine CN.out.mono ?_
  rintro r w2 ⟨rfl, b2⟩
  have B2 := Lib.hid (bthen B1.out b2)
  have y10 : w2.cell? ⟨w.heap.size, 10, none⟩ = some (.int .i64 m.c) := HA.out _ b2 10 _ rfl
  have y11 : w2.cell? ⟨w.heap.size, 11, none⟩ = some (.float .f64 m.r) := HA.out _ b2 11 _ rfl
  clear b2 CN B1 HA x0 x1 x2 x3 x4 x5 x6 x7 x8 x9 x10 x11 x12 x13 x14 x15 x16
  cases NL
  · have hr : R = false := HE.out
    clear HE
    go_wp2_with fail
    go_ret
    exact ⟨by first | rfl | (rw [hr]; rfl), B2.out⟩
  cases hc : (m.c == 0)
  · have hr : R = false := by rw [HE.out, show decide (m.c = 0) = false by rw [← beqZ]; exact hc]; rfl
    clear HE
    go_wp2_with fail
    go_ret
    exact ⟨by first | rfl | (rw [hr]; rfl), B2.out⟩
  have HR := Lib.hid (show R = decide (canonB m.r = 0) by rw [HE.out, show decide (m.c = 0) = true by rw [← beqZ]; exact hc]; rfl)
  have CB := Lib.hid (rbits2_any m.r w2)
  have HD := Lib.hid (show (((canonB m.r : Nat) : Int) == 0) = decide (canonB m.r = 0) from by rw [beqZ]; exact decide_eq_decide.2 (by omega))
  generalize canonB m.r = C at HR CB HD
  clear HE
  go_wp2_with fail
  refine CB.out.mono ?_
  rintro r w3 ⟨rfl, rfl⟩
  go_wp2_with fail
  go_ret
  exact ⟨by rw [HR.out, ← HD.out]; rfl, B2.out⟩
end Go.Proofs.Ytijeieamodjgbab

/- Wire: what fits asks, kind for kind. No walk. -/
namespace Go.Proofs.Ytijeieamodjgbab
set_option maxRecDepth 100000
open Go.RowKit Go.Deep
set_option linter.unusedVariables false
set_option linter.unusedSimpArgs false

theorem zeroRq_nil : zeroRq.nil = true := by decide
theorem canon_zero : canonB 0 = 0 := by decide
theorem ok_9 {m : Mg} (h : m.k = 9) : okM m = emptyB { m with e := 0 } := by
  unfold okM
  rw [if_neg (by omega), if_neg (by omega), if_neg (by omega), if_neg (by omega), if_neg (by omega), if_neg (by omega), if_neg (by omega), if_neg (by omega), if_pos h, Bool.eq_iff_iff]
  simp only [restB, emptyB, Bool.and_eq_true, Bool.or_eq_true, decide_eq_true_eq, Bool.false_eq_true, false_or, true_or, true_and]
  constructor
  · rintro ⟨⟨⟨⟨⟨⟨⟨⟨h1, h2⟩, h3⟩, h4, h5⟩, h6⟩, h7⟩, h8⟩, h9⟩, h10⟩
    exact ⟨⟨⟨⟨⟨h1, h2, by omega⟩, h6⟩, h3⟩, h4⟩, h5⟩
  · rintro ⟨⟨⟨⟨⟨h1, h2, hl⟩, h6⟩, h3⟩, h4⟩, h5⟩
    exact ⟨⟨⟨⟨⟨⟨⟨⟨h1, h2⟩, h3⟩, h4, h5⟩, h6⟩, by omega⟩, by omega⟩, by omega⟩, by omega⟩
theorem spot_rest (m : Mg) : restB { v := true, s := true, q := true, sg := true } m = emptyB { m with e := 0, v := 0, s := 0, q := zeroRq, sg := [] } := by
  rw [Bool.eq_iff_iff]
  simp only [restB, emptyB, Bool.and_eq_true, Bool.or_eq_true, decide_eq_true_eq, Bool.false_eq_true, false_or, true_or, true_and, zeroRq_nil, and_true, List.length_nil]
  constructor
  · rintro ⟨⟨⟨⟨⟨h4, h5⟩, h6⟩, h7⟩, h9⟩, h10⟩
    exact ⟨⟨⟨by omega, h6⟩, h4⟩, h5⟩
  · rintro ⟨⟨⟨hl, h6⟩, h4⟩, h5⟩
    exact ⟨⟨⟨⟨⟨h4, h5⟩, h6⟩, by omega⟩, by omega⟩, by omega⟩
theorem turn_rest (m : Mg) : restB { v := true, ch := true } m = emptyB { m with e := 0, v := 0, ch := [] } := by
  rw [Bool.eq_iff_iff]
  simp only [restB, emptyB, Bool.and_eq_true, Bool.or_eq_true, decide_eq_true_eq, Bool.false_eq_true, false_or, true_or, true_and, and_true, List.length_nil]
  constructor
  · rintro ⟨⟨⟨⟨⟨⟨h2, h3⟩, h4, h5⟩, h6⟩, h7⟩, h8⟩, h10⟩
    exact ⟨⟨⟨⟨⟨h2, by omega⟩, h6⟩, h3⟩, h4⟩, h5⟩
  · rintro ⟨⟨⟨⟨⟨h2, hl⟩, h6⟩, h3⟩, h4⟩, h5⟩
    exact ⟨⟨⟨⟨⟨⟨h2, h3⟩, h4, h5⟩, h6⟩, by omega⟩, by omega⟩, by omega⟩
theorem ok_4 {m : Mg} (h : m.k = 4) : okM m = (spotB m && emptyB { m with e := 0, v := 0, s := 0, q := zeroRq, sg := [] }) := by
  have hw : wantN m = 0 := by unfold wantN; rw [if_neg (by omega)]
  unfold okM
  rw [if_neg (by omega), if_neg (by omega), if_neg (by omega), if_pos h, spot_rest]
  simp only [spotB, hw]
theorem ok_3 {m : Mg} (h : m.k = 3) : okM m = (spotB m && emptyB { m with e := 0, v := 0, s := 0, q := zeroRq, sg := [] }) := by
  have hw : wantN m = 1 := by unfold wantN; rw [if_pos (.inl h)]
  unfold okM
  rw [if_neg (by omega), if_neg (by omega), if_pos h, spot_rest]
  simp only [spotB, hw]
theorem ok_7 {m : Mg} (h : m.k = 7) : okM m = (turnB m && emptyB { m with e := 0, v := 0, ch := [] }) := by
  unfold okM
  rw [if_neg (by omega), if_neg (by omega), if_neg (by omega), if_neg (by omega), if_neg (by omega), if_neg (by omega), if_pos h, turn_rest]
  simp only [turnB, show decide (m.k = 6) = false from decide_eq_false (by omega), Bool.false_and, Bool.not_false, Bool.and_true]
theorem ok_6 {m : Mg} (h : m.k = 6) : okM m = (turnB m && emptyB { m with e := 0, v := 0, ch := [] }) := by
  unfold okM
  rw [if_neg (by omega), if_neg (by omega), if_neg (by omega), if_neg (by omega), if_neg (by omega), if_pos h, turn_rest]
  congr 1
  simp only [turnB, show decide (m.k = 6) = true from decide_eq_true h, Bool.true_and]
  congr 1
  rw [Bool.eq_iff_iff]
  simp only [Bool.and_eq_true, decide_eq_true_eq, Bool.not_eq_true', decide_eq_false_iff_not]
  omega
theorem ok_2 {m : Mg} (h : m.k = 2) : okM m = (spotB m && emptyB { m with e := 0, v := 0, s := 0, q := zeroRq, sg := [] }) := by
  unfold okM
  rw [if_neg (by omega), if_pos h, spot_rest]
  congr 1
  have hex : m.q.right = true → m.q.nil = false := by
    intro hr
    have h1 : 1 ≤ m.q.c := by
      simp only [Rq.right, rightQ, Bool.and_eq_true, decide_eq_true_eq] at hr
      exact hr.1.1.1
    have : m.q.nil = (decide (m.q.c = 0) && decide (m.q.s = 0) && decide (m.q.kind = 0) && decide (m.q.id = 0) && decide (m.q.key.size = 0) && noneB m.q.b) := rfl
    rw [this, decide_eq_false (show ¬ m.q.c = 0 by omega)]
    rfl
  unfold spotB
  cases hn : m.q.nil
  · have hw : wantN m = 1 := by unfold wantN; rw [if_pos (.inr ⟨h, hn⟩)]
    rw [hw]
    simp [askB, hn, Bool.and_assoc]
  · have hw : wantN m = 0 := by unfold wantN; rw [if_neg (by rintro (h1 | h1); omega; rw [hn] at h1; cases h1.2)]
    have hr : m.q.right = false := by
      cases hr : m.q.right
      · rfl
      · rw [hex hr] at hn; cases hn
    rw [hw]
    simp [askB, hn, hr, Bool.and_assoc]
theorem ok_1 {m : Mg} (h : m.k = 1) : okM m = ((m.q.right && decide (m.sg.length = 1)) && emptyB { m with q := zeroRq, sg := [] }) := by
  unfold okM
  rw [if_pos h, Bool.eq_iff_iff]
  simp only [restB, emptyB, Bool.and_eq_true, Bool.or_eq_true, decide_eq_true_eq, Bool.false_eq_true, false_or, true_or, true_and, zeroRq_nil, and_true, List.length_nil]
  constructor
  · rintro ⟨⟨⟨h0, hr⟩, hl⟩, ⟨⟨⟨⟨⟨h1, h2⟩, h4, h5⟩, h6⟩, h7⟩, h9⟩, h10⟩
    exact ⟨⟨hr, hl⟩, ⟨⟨⟨h0, h1, h2, by omega⟩, h6⟩, h4⟩, h5⟩
  · rintro ⟨⟨hr, hl⟩, ⟨⟨⟨h0, h1, h2, hs⟩, h6⟩, h4⟩, h5⟩
    exact ⟨⟨⟨h0, hr⟩, hl⟩, ⟨⟨⟨⟨⟨h1, h2⟩, h4, h5⟩, h6⟩, by omega⟩, by omega⟩, by omega⟩
theorem ok_8 {m : Mg} (h : m.k = 8) : okM m = ((m.q.right && decide (0 ≤ m.c) && decide (m.c ≤ 8)) && emptyB { m with e := 0, q := zeroRq, c := 0, r := 0 }) := by
  unfold okM
  rw [if_neg (by omega), if_neg (by omega), if_neg (by omega), if_neg (by omega), if_neg (by omega), if_neg (by omega), if_neg (by omega), if_pos h]
  congr 1
  rw [Bool.eq_iff_iff]
  simp only [restB, emptyB, Bool.and_eq_true, Bool.or_eq_true, decide_eq_true_eq, Bool.false_eq_true, false_or, true_or, true_and, zeroRq_nil, canon_zero, and_true, List.length_nil]
  constructor
  · rintro ⟨⟨⟨⟨⟨⟨h1, h2⟩, h6⟩, h7⟩, h8⟩, h9⟩, h10⟩
    exact ⟨⟨h1, h2, by omega⟩, h6⟩
  · rintro ⟨⟨h1, h2, hl⟩, h6⟩
    exact ⟨⟨⟨⟨⟨⟨h1, h2⟩, h6⟩, by omega⟩, by omega⟩, by omega⟩, by omega⟩
theorem ok_5 {m : Mg} (h : m.k = 5) : okM m = ((decide (m.s = 4 * m.e + 4) && decide (m.t.size ≠ 0) && risingB m.nx && decide (m.sg.length = 2)) && emptyB { m with e := 0, s := 0, t := ⟨#[]⟩, nx := [], sg := [] }) := by
  unfold okM
  rw [if_neg (by omega), if_neg (by omega), if_neg (by omega), if_neg (by omega), if_pos h]
  congr 1
  rw [Bool.eq_iff_iff]
  simp only [restB, emptyB, Bool.and_eq_true, Bool.or_eq_true, decide_eq_true_eq, Bool.false_eq_true, false_or, true_or, true_and, and_true, List.length_nil, show (⟨#[]⟩ : ByteArray).size = 0 from rfl]
  constructor
  · rintro ⟨⟨⟨⟨h1, h3⟩, h4, h5⟩, h9⟩, h10⟩
    exact ⟨⟨⟨⟨h1, by omega⟩, h3⟩, h4⟩, h5⟩
  · rintro ⟨⟨⟨⟨h1, hl⟩, h3⟩, h4⟩, h5⟩
    exact ⟨⟨⟨⟨h1, h3⟩, h4, h5⟩, by omega⟩, by omega⟩
theorem ok_10 {m : Mg} (h : m.k = 10) : okM m = ((decide (0 < m.e) && decide (m.s = 4 * m.e) && decide (m.t.size ≠ 0) && (decide ((m.lk.length : Int) = m.e) && linksB 0 m.lk)) && emptyB { m with e := 0, s := 0, t := ⟨#[]⟩, lk := [], sg := [] }) := by
  unfold okM
  rw [if_neg (by omega), if_neg (by omega), if_neg (by omega), if_neg (by omega), if_neg (by omega), if_neg (by omega), if_neg (by omega), if_neg (by omega), if_neg (by omega), if_pos h]
  rw [show (decide (0 < m.e) && decide (m.s = 4 * m.e) && decide (m.t.size ≠ 0) && decide ((m.lk.length : Int) = m.e) && linksB 0 m.lk) = (decide (0 < m.e) && decide (m.s = 4 * m.e) && decide (m.t.size ≠ 0) && (decide ((m.lk.length : Int) = m.e) && linksB 0 m.lk)) by simp only [Bool.and_assoc]]
  congr 1
  rw [Bool.eq_iff_iff]
  simp only [restB, emptyB, Bool.and_eq_true, Bool.or_eq_true, decide_eq_true_eq, Bool.false_eq_true, false_or, true_or, true_and, and_true, List.length_nil, show (⟨#[]⟩ : ByteArray).size = 0 from rfl]
  constructor
  · rintro ⟨⟨⟨⟨h1, h3⟩, h4, h5⟩, h7⟩, h9⟩
    exact ⟨⟨⟨⟨h1, by omega⟩, h3⟩, h4⟩, h5⟩
  · rintro ⟨⟨⟨⟨h1, hl⟩, h3⟩, h4⟩, h5⟩
    exact ⟨⟨⟨⟨h1, h3⟩, h4, h5⟩, by omega⟩, by omega⟩
end Go.Proofs.Ytijeieamodjgbab
