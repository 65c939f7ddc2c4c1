
/- Wire: walks of the program's tests: changed. -/
import Derived.Test.YtijeieamodjgbaaWa
namespace Go.Proofs.Ytijeieamodjgbaa
set_option maxRecDepth 100000
open Go.RowKit Go.Deep
set_option linter.unusedVariables false
set_option linter.unusedSimpArgs false
attribute [local go_sem] run_store_float

theorem sl_sig1 {w : World} {b : Nat} {x : Int} {t : ByteArray} (hx : i64 x) (ht : t.size ≤ 1125899906842624) (k1 : w.heap[b]? = some (.cells #[.int .i64 x, .string t] 49 (0, 0))) : SlAt shSig w (some ⟨b, 0, none⟩) 1 1 [(x, t)] :=
  ⟨rfl, by decide, by decide, by decide, nofun, fun i y hy => by
    cases i with
    | zero =>
      cases hy
      refine ⟨b, 0, [.int .i64 x, .string t], rfl, ⟨[.int .i64 x], [.string t], rfl, ⟨rfl, hx⟩, ⟨rfl, ht⟩⟩, fun j v hv => ?_⟩
      rw [blk_cell k1]
      rw [← hv]
      simp
    | succ i => cases hy⟩
theorem chg_fr {e : Int} {y : Ch} (h : ¬ (0 ≤ y.fr ∧ y.fr < 16 ∧ 1 ≤ y.v ∧ y.v ≤ 15 ∧ y.ce.length ≤ 4 ∧ byB y.sg = true)) : changeB e y = false := by
  rw [Bool.eq_false_iff]
  intro hh
  simp only [changeB, Bool.and_eq_true, decide_eq_true_eq] at hh
  exact h ⟨hh.1.1.1.1.1.1, hh.1.1.1.1.1.2, hh.1.1.1.1.2, hh.1.1.1.2, hh.1.1.2, hh.1.2⟩
theorem chg_in {e : Int} {y : Ch} (h : 0 ≤ y.fr ∧ y.fr < 16 ∧ 1 ≤ y.v ∧ y.v ≤ 15 ∧ y.ce.length ≤ 4 ∧ byB y.sg = true) : changeB e y = certsB e 0 y.ce := by
  unfold changeB
  simp [h.1, h.2.1, h.2.2.1, h.2.2.2.1, h.2.2.2.2.1, h.2.2.2.2.2]
theorem sigsB_one (s : Sg) : sigsB [s] = byB s := by simp [sigsB]
theorem crt_no {e z : Int} {y : Ce} (h : ¬ (ofB e y.s = true ∧ z < y.s ∧ 0 ≤ y.v ∧ y.v ≤ 15 ∧ askB y.q = true ∧ sigsB y.sg = true)) : certB e z y = false := by
  rw [Bool.eq_false_iff]
  intro hh
  simp only [certB, Bool.and_eq_true, decide_eq_true_eq] at hh
  exact h ⟨hh.1.1.1.1.1, hh.1.1.1.1.2, hh.1.1.1.2, hh.1.1.2, hh.1.2, hh.2⟩
theorem crt_yes {e z : Int} {y : Ce} (h : ofB e y.s = true ∧ z < y.s ∧ 0 ≤ y.v ∧ y.v ≤ 15 ∧ askB y.q = true ∧ sigsB y.sg = true) : certB e z y = true := by
  unfold certB
  simp [h.1, h.2.1, h.2.2.1, h.2.2.2.1, h.2.2.2.2.1, h.2.2.2.2.2]
theorem certs_step {e z : Int} {l : List Ce} {k : Nat} {y : Ce} (hy : l[k]? = some y) : certsB e z (l.drop k) = (certB e z y && certsB e y.s (l.drop (k + 1))) := by
  rw [List.drop_eq_getElem_cons (List.getElem?_eq_some_iff.1 hy).1, (List.getElem?_eq_some_iff.1 hy).2]
  rfl
set_option maxHeartbeats 4000000 in
theorem changed_any (e : Int) (y : Ch) (ca : Option Addr) (cn cc : Nat) (w : World) (he : 0 ≤ e ∧ e ≤ 60) (hf : i64 y.fr) (hv : i64 y.v) (hc : SlAt shCert w ca cn cc y.ce) (hs : i64 y.sg.1) (ht : y.sg.2.size ≤ 1125899906842624) :
    Calls Try.prog 148 #[.int .i64 e, .agg #[.int .i64 y.fr, .int .i64 y.v, .slice ca cn cc, .int .i64 y.sg.1, .string y.sg.2]] w fun r w' => r = .returned (.bool (changeB e y)) ∧ Below w.heap.size w w' := by
  have hlen := hc.len
  have hcap := hc.cap
  have hmax := hc.max
  have HN := Lib.hid (fun h => chg_fr (e := e) (y := y) h)
  have HY := Lib.hid (fun h => chg_in (e := e) (y := y) h)
  generalize changeB e y = R at HN HY ⊢
  obtain ⟨fr, v, ce, sx, st⟩ := y
  dsimp only at *
  obtain ⟨w1, hw1⟩ : ∃ u, u = w.alloc (.cells #[.int .i64 fr, .int .i64 v, .slice ca cn cc, .int .i64 sx, .string st] 106 (0, 0)) := ⟨_, rfl⟩
  have b1 : Below w.heap.size w w1 := by rw [hw1]; exact below_alloc _ _
  have k1 : w1.heap[w.heap.size]? = some (.cells #[.int .i64 fr, .int .i64 v, .slice ca cn cc, .int .i64 sx, .string st] 106 (0, 0)) := by rw [hw1]; exact blk_alloc _ _
  have HC1 := Lib.hid (hc.old b1)
  have B1 := Lib.hid b1; have K1 := Lib.hid k1
  have x0 : w1.cell? ⟨w.heap.size, 0, none⟩ = some (.int .i64 fr) := by rw [blk_cell k1]; rfl
  have x1 : w1.cell? ⟨w.heap.size, 1, none⟩ = some (.int .i64 v) := by rw [blk_cell k1]; rfl
  have x2 : w1.cell? ⟨w.heap.size, 2, none⟩ = some (.slice ca cn cc) := by rw [blk_cell k1]; rfl
  have x3 : w1.cell? ⟨w.heap.size, 3, none⟩ = some (.int .i64 sx) := by rw [blk_cell k1]; rfl
  have x4 : w1.cell? ⟨w.heap.size, 4, none⟩ = some (.string st) := by rw [blk_cell k1]; rfl
  clear b1 k1 hc
  go_enter Try.func148, Try.ntmps148
  go_upto_region 1 with (fail)
  rw [← hw1]
  clear hw1
  by_cases g1 : fr < 0
  · have hr := HN.out (by omega)
    have d1 : decide (fr < 0) = true := by simpa using g1
    subst hr; clear g1
    go_wp2_with fail
    go_ret
    exact ⟨rfl, B1.out⟩
  have d1 : decide (fr < 0) = false := by simpa using g1
  by_cases g2 : 16 ≤ fr
  · have hr := HN.out (by omega)
    have d2 : decide (16 ≤ fr) = true := by simpa using g2
    subst hr; clear g1 g2
    go_wp2_with fail
    go_ret
    exact ⟨rfl, B1.out⟩
  have d2 : decide (16 ≤ fr) = false := by simpa using g2
  by_cases g3 : v < 1
  · have hr := HN.out (by omega)
    have d3 : decide (v < 1) = true := by simpa using g3
    subst hr; clear g1 g2 g3
    go_wp2_with fail
    go_ret
    exact ⟨rfl, B1.out⟩
  have d3 : decide (v < 1) = false := by simpa using g3
  by_cases g4 : 15 < v
  · have hr := HN.out (by omega)
    have d4 : decide (15 < v) = true := by simpa using g4
    subst hr; clear g1 g2 g3 g4
    go_wp2_with fail
    go_ret
    exact ⟨rfl, B1.out⟩
  have d4 : decide (15 < v) = false := by simpa using g4
  by_cases g5 : (4 : Int) < (cn : Int)
  · have hr := HN.out (by omega)
    have d5 : decide ((4 : Int) < (cn : Int)) = true := by simpa using g5
    subst hr; clear g1 g2 g3 g4 g5
    go_wp2_with fail
    go_ret
    exact ⟨rfl, B1.out⟩
  have d5 : decide ((4 : Int) < (cn : Int)) = false := by simpa using g5
  have HG := Lib.hid (show 0 ≤ fr ∧ fr < 16 ∧ 1 ≤ v ∧ v ≤ 15 ∧ ce.length ≤ 4 by omega)
  obtain ⟨w2, hw2⟩ : ∃ u, u = w1.alloc (.cells #[.int .i64 sx, .string st] 49 (0, 0)) := ⟨_, rfl⟩
  have b2 : Below w1.heap.size w1 w2 := by rw [hw2]; exact below_alloc _ _
  have k2 : w2.heap[w1.heap.size]? = some (.cells #[.int .i64 sx, .string st] 49 (0, 0)) := by rw [hw2]; exact blk_alloc _ _
  have CS := Lib.hid (signed_any _ _ _ _ _ (sl_sig1 hs ht k2))
  rw [sigsB_one] at CS
  have B2 := Lib.hid (bthen B1.out b2)
  have KW := Lib.hid (fun w3 (hb : Below w2.heap.size w2 w3) => blk_below K1.out (bthen b2 hb))
  have HCW := Lib.hid (fun w3 (hb : Below w2.heap.size w2 w3) => HC1.out.old (bthen b2 hb))
  clear g1 g2 g3 g4 g5 b2 k2
  go_wp2_with fail
  rw [← hw2]
  clear hw2
  refine CS.out.mono ?_
  rintro r w3 ⟨rfl, b3⟩
  have B3 := Lib.hid (bthen B2.out b3)
  have HC3 := Lib.hid (HCW.out w3 b3)
  have k3 := KW.out w3 b3
  have K3 := Lib.hid k3
  have y2 : w3.cell? ⟨w.heap.size, 2, none⟩ = some (.slice ca cn cc) := by rw [blk_cell k3]; rfl
  clear x0 x1 x2 x3 x4 b3 k3 KW HCW B2 B1 HC1 K1 CS
  cases hb : byB (sx, st)
  · have hr := HN.out (by simp [hb])
    subst hr; clear hb
    go_wp2_with fail
    go_ret
    exact ⟨rfl, B3.out⟩
  have hR := HY.out ⟨HG.out.1, HG.out.2.1, HG.out.2.2.1, HG.out.2.2.2.1, HG.out.2.2.2.2, hb⟩
  clear hb HG HN HY d1 d2 d3 d4 d5
  go_wp2_with fail
  go_loopw [42, 5] (fun i z wr => ∃ k : Nat, ∃ x : Int, k ≤ cn ∧ i = .int .i64 k ∧ z = .int .i64 x ∧ i64 x ∧ Hid (R = certsB e x (ce.drop k)) ∧ Hid (Below w3.heap.size w3 wr)) (fun i _ _ => cn - (intOf i).toNat)
  case atStart => exact ⟨0, 0, by omega, rfl, rfl, ⟨by decide, by decide⟩, Lib.hid (by rw [hR]; rfl), Lib.hid (Below.refl _ _)⟩
  case round =>
    obtain ⟨k, z, hk, rfl, rfl, hz, HK, HW⟩ := hrel
    clear hR
    by_cases hlt : k < cn
    · have hd : decide ((k : Int) < (cn : Int)) = true := by simp; omega
      obtain ⟨bb, o, ⟨yv, ys, ⟨qc, qs, qk, qt, qb, qi⟩, sg⟩, sa, sn, sc, rfl, hy, z0, z1, z2, z3, z4, z5, z6, z7, z8, hyv, hys, hq, hsg⟩ := cert_cells (HC3.out.old HW.out) hlt
      dsimp only at z0 z1 z2 z3 z4 z5 z6 z7 z8 hyv hys hsg
      have HST := Lib.hid (certs_step (e := e) (z := z) hy)
      have HF := Lib.hid (show certB e z _ = false → R = false from fun h => by rw [HK.out, HST.out, h]; rfl)
      have HT := Lib.hid (show certB e z _ = true → R = certsB e ys (ce.drop (k + 1)) from fun h => by rw [HK.out, HST.out, h]; rfl)
      obtain ⟨w4, hw4⟩ : ∃ u, u = wr.alloc (.cells #[.int .i64 yv, .int .i64 ys, .int .i64 qc, .int .i64 qs, .int .i64 qk, .string qt, .float .f64 qb, .int .i64 qi, .slice sa sn sc] 118 (0, 0)) := ⟨_, rfl⟩
      have b4 : Below wr.heap.size wr w4 := by rw [hw4]; exact below_alloc _ _
      have k4 : w4.heap[wr.heap.size]? = some (.cells #[.int .i64 yv, .int .i64 ys, .int .i64 qc, .int .i64 qs, .int .i64 qk, .string qt, .float .f64 qb, .int .i64 qi, .slice sa sn sc] 118 (0, 0)) := by rw [hw4]; exact blk_alloc _ _
      have B4 := Lib.hid (bthen B3.out (bthen HW.out b4))
      have B4' := Lib.hid (bthen HW.out b4)
      have HSG := Lib.hid (hsg.old b4)
      have HQ := Lib.hid hq
      have y0 : w4.cell? ⟨wr.heap.size, 0, none⟩ = some (.int .i64 yv) := by rw [blk_cell k4]; rfl
      have y1 : w4.cell? ⟨wr.heap.size, 1, none⟩ = some (.int .i64 ys) := by rw [blk_cell k4]; rfl
      have K4 := Lib.hid k4
      clear k4 b4 hsg hq hy
      go_upto_region 7 with (fail)
      rw [← hw4]
      clear hw4 z0 z1 z2 z3 z4 z5 z6 z7 z8
      go_wp2_with fail
      refine (of_any e ys w4 he hys).mono ?_
      rintro r w5 ⟨rfl, rfl⟩
      cases hof : ofB e ys
      · have hr := HF.out (crt_no (fun h => by have h1 := h.1; dsimp only at h1; rw [hof] at h1; cases h1))
        clear hof HT HK
        go_wp2_with fail
        go_ret
        exact ⟨by rw [hr]; rfl, B4.out⟩
      by_cases c1 : ys ≤ z
      · have hr := HF.out (crt_no (fun h => absurd h.2.1 (by dsimp only; omega)))
        have dc1 : decide (ys ≤ z) = true := by simpa using c1
        clear c1 HT HK
        go_wp2_with fail
        go_ret
        exact ⟨by rw [hr]; rfl, B4.out⟩
      have dc1 : decide (ys ≤ z) = false := by simpa using c1
      by_cases c2 : yv < 0
      · have hr := HF.out (crt_no (fun h => absurd h.2.2.1 (by dsimp only; omega)))
        have dc2 : decide (yv < 0) = true := by simpa using c2
        clear c1 c2 HT HK
        go_wp2_with fail
        go_ret
        exact ⟨by rw [hr]; rfl, B4.out⟩
      have dc2 : decide (yv < 0) = false := by simpa using c2
      by_cases c3 : 15 < yv
      · have hr := HF.out (crt_no (fun h => absurd h.2.2.2.1 (by dsimp only; omega)))
        have dc3 : decide (15 < yv) = true := by simpa using c3
        clear c1 c2 c3 HT HK
        go_wp2_with fail
        go_ret
        exact ⟨by rw [hr]; rfl, B4.out⟩
      have dc3 : decide (15 < yv) = false := by simpa using c3
      have HP := Lib.hid (show z < ys ∧ 0 ≤ yv ∧ yv ≤ 15 from ⟨by omega, by omega, by omega⟩)
      have HO := Lib.hid hof
      clear c1 c2 c3 hof
      have y2 : w4.cell? ⟨wr.heap.size, 2, none⟩ = some (.int .i64 qc) := by rw [blk_cell K4.out]; rfl
      have y3 : w4.cell? ⟨wr.heap.size, 3, none⟩ = some (.int .i64 qs) := by rw [blk_cell K4.out]; rfl
      have y4 : w4.cell? ⟨wr.heap.size, 4, none⟩ = some (.int .i64 qk) := by rw [blk_cell K4.out]; rfl
      have y5 : w4.cell? ⟨wr.heap.size, 5, none⟩ = some (.string qt) := by rw [blk_cell K4.out]; rfl
      have y6 : w4.cell? ⟨wr.heap.size, 6, none⟩ = some (.float .f64 qb) := by rw [blk_cell K4.out]; rfl
      have y7 : w4.cell? ⟨wr.heap.size, 7, none⟩ = some (.int .i64 qi) := by rw [blk_cell K4.out]; rfl
      have CA := Lib.hid (asked_any ⟨qc, qs, qk, qt, qb, qi⟩ HQ.out w4)
      go_wp2_with fail
      refine CA.out.mono ?_
      rintro r w5 ⟨rfl, b5⟩
      have B5 := Lib.hid (bthen B4.out b5)
      have B5' := Lib.hid (bthen B4'.out b5)
      have k5 := blk_below K4.out b5
      have K5 := Lib.hid k5
      have v1 : w5.cell? ⟨wr.heap.size, 1, none⟩ = some (.int .i64 ys) := by rw [blk_cell k5]; rfl
      have v8 : w5.cell? ⟨wr.heap.size, 8, none⟩ = some (.slice sa sn sc) := by rw [blk_cell k5]; rfl
      have CS := Lib.hid (signed_any sa sn sc sg w5 (HSG.out.old b5))
      clear b5 k5 y0 y1 y2 y3 y4 y5 y6 y7 K4 B4 B4' CA HSG HQ
      cases hak : askB ⟨qc, qs, qk, qt, qb, qi⟩
      · have hr := HF.out (crt_no (fun h => by have h1 := h.2.2.2.2.1; dsimp only at h1; rw [hak] at h1; cases h1))
        clear hak HT HK
        go_wp2_with fail
        go_ret
        exact ⟨by rw [hr]; rfl, B5.out⟩
      go_wp2_with fail
      refine CS.out.mono ?_
      rintro r w6 ⟨rfl, b6⟩
      have B6 := Lib.hid (bthen B5.out b6)
      have B6' := Lib.hid (bthen B5'.out b6)
      have k6 := blk_below K5.out b6
      have v1 : w6.cell? ⟨wr.heap.size, 1, none⟩ = some (.int .i64 ys) := by rw [blk_cell k6]; rfl
      clear b6 k6 K5 B5 B5' CS v8
      cases hsb : sigsB sg
      · have hr := HF.out (crt_no (fun h => by have h1 := h.2.2.2.2.2; dsimp only at h1; rw [hsb] at h1; cases h1))
        clear hak hsb HT HK
        go_wp2_with fail
        go_ret
        exact ⟨by rw [hr]; rfl, B6.out⟩
      have HR := Lib.hid (HT.out (crt_yes ⟨HO.out, HP.out.1, HP.out.2.1, HP.out.2.2, hak, hsb⟩))
      clear hak hsb HT HK HF HST
      go_wp2_with fail
      go_roundw
      case rel => exact ⟨k + 1, ys, by omega, by go_num, rfl, hys, HR, B6'⟩
      case measure => simp [intOf]; omega
    · have hd : decide ((k : Int) < (cn : Int)) = false := by simp; omega
      have hr : R = true := by
        rw [HK.out, List.drop_of_length_le (by omega)]
        rfl
      go_wp2_with fail
      go_ret
      exact ⟨by rw [hr]; rfl, (bthen B3.out HW.out)⟩
end Go.Proofs.Ytijeieamodjgbaa
