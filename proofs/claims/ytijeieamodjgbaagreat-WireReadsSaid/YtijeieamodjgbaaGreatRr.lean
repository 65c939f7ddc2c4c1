
/- Wire: walks of the reference's getSigs, getAsk. -/
import Derived.Test.YtijeieamodjgbaaGreatDr3
import Derived.Test.YtijeieamodjgbaaGreatDh
import Derived.Test.YtijeieamodjgbaaGreatDv
import Derived.Test.YtijeieamodjgbaaGreatWr

namespace Go.Proofs.YtijeieamodjgbaaGreat
set_option maxRecDepth 100000
open Go.RowKit
set_option linter.unusedVariables false
set_option linter.unusedSimpArgs false
attribute [local go_sem] run_store_float

structure RSt (n : Nat) (w0 w : World) (q : Nat) (X : Array Value) (s : R) : Prop where
  rd : RRd w (n + 1) s
  res : w.heap[n]? = some (.cells #[.int .i64 0, .int .i64 0, .int .i64 0, .string ⟨#[]⟩, .float .f64 0, .int .i64 0] 27 (0, 0))
  box : w.heap[q]? = some (.cells X 27 (0, 0))
  lt : n + 1 < q
  n0 : n = w0.heap.size
  bl : Below n w0 w
theorem RSt.call {n : Nat} {w0 w w' : World} {q : Nat} {X : Array Value} {s s' : R} (h : RSt n w0 w q X s) (hr : RRd w' (n + 1) s') (o : Only (n + 1) none w w') : RSt n w0 w' q X s' := by
  have hn := h.n0
  subst hn
  exact ⟨hr, by rw [o.block _ (blk_lt h.res) (by omega) (by simp)]; exact h.res, by rw [o.block _ (blk_lt h.box) (by have := h.lt; omega) (by simp)]; exact h.box, h.lt, rfl, Only.below h.bl o (by omega) (fun k hk => by cases hk)⟩
theorem RSt.set {n : Nat} {w0 w : World} {q : Nat} {X : Array Value} {s : R} (h : RSt n w0 w q X s) (i : Nat) (v : Value) : RSt n w0 (w.setCell ⟨q, i, none⟩ v) q (X.setIfInBounds i v) s :=
  ⟨rrd_keeps _ _ _ _ (Below.heap_setCell _ _ _ _ (by show n + 1 ≠ q; have := h.lt; omega)) h.rd, blk_set_other h.res q i v (by have := h.lt; omega), blk_set h.box i v, h.lt, h.n0, h.bl.setCell (p := ⟨q, i, none⟩) (show n ≤ q by have := h.lt; omega) v⟩

set_option maxHeartbeats 2000000 in
theorem rread_any (text : ByteArray) (w : World) (hts : text.size ≤ 140737488351232) :
    Calls Tryz.prog 82 #[.string text] w fun e w' => e = .returned (.tuple #[(readRq text.data.toList).v, .int .i64 (readErr text.data.toList)]) ∧ Below w.heap.size w w' := by
  obtain ⟨t, ht⟩ : ∃ t, t = text.data.toList := ⟨_, rfl⟩
  rw [← ht]
  have Ht := Lib.hid ht
  obtain ⟨RV, hRV⟩ : ∃ z, z = (readRq t).v := ⟨_, rfl⟩
  obtain ⟨RE, hRE⟩ : ∃ z, z = readErr t := ⟨_, rfl⟩
  rw [← hRV, ← hRE]
  have HV := Lib.hid hRV; have HE := Lib.hid hRE
  have hsz : (w.alloc (.cells #[.int .i64 0, .int .i64 0, .int .i64 0, .string ⟨#[]⟩, .float .f64 0, .int .i64 0] 27 (0, 0))).heap.size = w.heap.size + 1 := by simp
  by_cases hz : t = [0]
  · have hno : rdOk t = false := by rw [hz]; exact rdOk_no (by rw [zero_bad]; omega)
    have HX := Lib.hid (show RV = zeroRq.v ∧ RE = 0 from ⟨by rw [HV.out, readRq_no hno], by rw [HE.out, readErr_nil hz]⟩)
    have hq : (text.toList == [0]) = true := by
      rw [ByteArray.toList_eq, ← ht, hz]; rfl
    have B1 := Lib.hid (below_alloc w (.cells #[.int .i64 0, .int .i64 0, .int .i64 0, .string ⟨#[]⟩, .float .f64 0, .int .i64 0] 27 (0, 0)))
    have k0 := blk_alloc w (.cells #[.int .i64 0, .int .i64 0, .int .i64 0, .string ⟨#[]⟩, .float .f64 0, .int .i64 0] 27 (0, 0))
    obtain ⟨x0, x1, x2, x3, x4, x5⟩ := rqAt_blk k0
    have f0 := blk_frozen k0 0; have f1 := blk_frozen k0 1; have f2 := blk_frozen k0 2; have f3 := blk_frozen k0 3; have f4 := blk_frozen k0 4; have f5 := blk_frozen k0 5
    clear hz hno hRV hRE HV HE ht Ht hsz hts k0
    go_enter Tryz.func82, Tryz.ntmps82
    go_upto_region 1 with (fail)
    generalize (w.alloc (.cells #[.int .i64 0, .int .i64 0, .int .i64 0, .string ⟨#[]⟩, .float .f64 0, .int .i64 0] 27 (0, 0))) = wa at *
    go_wp2_with fail
    refine bodyPost_ret (v := .tuple #[zeroRq.v, .int .i64 0]) (by simp [results, Tryz.results82, go_sem, x0, x1, x2, x3, x4, x5, zeroRq, Rq.v]) rfl ⟨by rw [HX.out.1, HX.out.2], ?_⟩
    exact (((((B1.out.setCell (Nat.le_refl _) _).setCell (Nat.le_refl _) _).setCell (Nat.le_refl _) _).setCell (Nat.le_refl _) _).setCell (Nat.le_refl _) _).setCell (Nat.le_refl _) _
  have hq : (text.toList == [0]) = false := by
    rw [ByteArray.toList_eq, ← ht]; simpa using hz
  have HOK := Lib.hid (show rdOk t = (decide (endE (q7 t) = 0) && decide (qHead t = 1) && fromOk (qReal t) && (rdRq t).right) from rfl)
  have HQ := Lib.hid (show rdRq t = ⟨rVal (q1 t) 1, rVal (q2 t) 4, rVal (q3 t) 1, ⟨(tVal (q4 t)).toArray⟩, fromV (qReal t), rVal (q6 t) 1⟩ from rfl)
  have HNO := Lib.hid (show rdOk t = false → RV = zeroRq.v ∧ RE = 5 from fun hno => ⟨by rw [HV.out, readRq_no hno], by rw [HE.out, readErr_no hno hz]⟩)
  have HYES := Lib.hid (show rdOk t = true → RV = (rdRq t).v ∧ RE = 0 from fun h => ⟨by rw [HV.out, readRq, if_pos h], by rw [HE.out, readErr, if_pos h]⟩)
  have CF := Lib.hid (fun w => from02_any (qReal t) (real_lt t) w)
  obtain ⟨rt, hrt⟩ : ∃ z, z = (rdRq t).right := ⟨_, rfl⟩
  have CR := fun w => rright_rq (rdRq t) (rdRq_ok t) w
  rw [← hrt] at CR HOK
  rw [HQ.out] at CR HYES
  unfold Rq.v at CR HYES
  dsimp only at CR HYES
  have CR := Lib.hid CR
  clear hrt hRV hRE HV HE hz HQ
  have Hr1 := Lib.hid (show RRd ((w.alloc (.cells #[.int .i64 0, .int .i64 0, .int .i64 0, .string ⟨#[]⟩, .float .f64 0, .int .i64 0] 27 (0, 0))).alloc (.cells #[.string text, .bool false] 75 (0, 0))) (w.heap.size + 1) ⟨t, false⟩ from
    ⟨text, by rw [← hsz]; exact blk_alloc _ _, Ht.out.symm, hts⟩)
  have Res1 := Lib.hid (blk_below (blk_alloc w (.cells #[.int .i64 0, .int .i64 0, .int .i64 0, .string ⟨#[]⟩, .float .f64 0, .int .i64 0] 27 (0, 0))) (below_alloc _ (.cells #[.string text, .bool false] 75 (0, 0))))
  have B1 := Lib.hid (balloc (below_alloc w (.cells #[.int .i64 0, .int .i64 0, .int .i64 0, .string ⟨#[]⟩, .float .f64 0, .int .i64 0] 27 (0, 0))) (.cells #[.string text, .bool false] 75 (0, 0)))
  clear hts hsz ht Ht
  go_enter Tryz.func82, Tryz.ntmps82
  go_wp2_with fail
  generalize hw1 : (w.alloc (.cells #[.int .i64 0, .int .i64 0, .int .i64 0, .string ⟨#[]⟩, .float .f64 0, .int .i64 0] 27 (0, 0))).alloc (.cells #[.string text, .bool false] 75 (0, 0)) = w1 at *
  clear hw1
  refine (rrnum_any _ _ 1 _ Hr1.out (by omega)).mono ?_
  rintro e' w2 ⟨rfl, hr2, o2⟩
  have hr2' : RRd w2 (w.heap.size + 1) (q1 t) := hr2
  have Res2 := Lib.hid (show w2.heap[w.heap.size]? = some (.cells #[.int .i64 0, .int .i64 0, .int .i64 0, .string ⟨#[]⟩, .float .f64 0, .int .i64 0] 27 (0, 0)) by
    rw [o2.block _ (blk_lt Res1.out) (by omega) (by simp)]; exact Res1.out)
  have B2 := Lib.hid (Only.below B1.out o2 (by omega) (fun k hk => by cases hk))
  have Hr2 := Lib.hid hr2'
  have hqh : rVal (⟨t, false⟩ : R) 1 = qHead t := rfl
  rw [hqh]
  generalize hhd : qHead t = hd at *
  clear hr2 hr2' o2 Hr1 Res1 B1 hqh hhd
  go_wp2_with fail
  refine (rrnum_any _ _ 1 _ Hr2.out (by omega)).mono ?_
  rintro e' w3 ⟨rfl, hr3, o3⟩
  have hr3' : RRd w3 (w.heap.size + 1) (q2 t) := hr3
  have l3 := rrd_lt hr3'
  have res3 : w3.heap[w.heap.size]? = some (.cells #[.int .i64 0, .int .i64 0, .int .i64 0, .string ⟨#[]⟩, .float .f64 0, .int .i64 0] 27 (0, 0)) := by
    rw [o3.block _ (blk_lt Res2.out) (by omega) (by simp)]; exact Res2.out
  have b3 := Only.below B2.out o3 (by omega) (fun k hk => by cases hk)
  have S4 := Lib.hid (show RSt w.heap.size w (w3.alloc (.cells #[.int .i64 (rVal (q1 t) 1), .int .i64 0, .int .i64 0, .string ⟨#[]⟩, .float .f64 0, .int .i64 0] 27 (0, 0))) w3.heap.size #[.int .i64 (rVal (q1 t) 1), .int .i64 0, .int .i64 0, .string ⟨#[]⟩, .float .f64 0, .int .i64 0] (q2 t) from
    ⟨rrd_keeps _ _ _ _ (Below.heap_alloc _ _ _ l3) hr3', blk_below res3 (below_alloc _ _), blk_alloc _ _, l3, rfl, balloc b3 _⟩)
  clear hr3 hr3' o3 l3 res3 b3 Hr2 Res2 B2
  generalize hn1 : rVal (q1 t) 1 = n1 at *
  clear hn1
  go_wp2_with fail
  generalize hq : w3.heap.size = q at *
  generalize hw4 : w3.alloc (.cells #[.int .i64 n1, .int .i64 0, .int .i64 0, .string ⟨#[]⟩, .float .f64 0, .int .i64 0] 27 (0, 0)) = w4 at *
  clear hw4 hq w3
  -- Stamp
  refine (rrnum_any _ _ 4 _ S4.out.rd (by omega)).mono ?_
  rintro e' w5 ⟨rfl, hr5, o5⟩
  have S5 := Lib.hid (show RSt w.heap.size w w5 q _ (q3 t) from S4.out.call hr5 o5)
  clear hr5 o5 S4
  generalize hn2 : rVal (q2 t) 4 = n2 at *
  clear hn2
  have z : w5.cell? ⟨q, 1, none⟩ = some (.int .i64 0) := by rw [blk_cell S5.out.box]; rfl
  have g : w5.frozen? ⟨q, 1, none⟩ = false := blk_frozen S5.out.box 1
  have S6 := Lib.hid (show RSt w.heap.size w (w5.setCell ⟨q, 1, none⟩ (.int .i64 n2)) q #[.int .i64 n1, .int .i64 n2, .int .i64 0, .string ⟨#[]⟩, .float .f64 0, .int .i64 0] (q3 t) from S5.out.set 1 (.int .i64 n2))
  clear S5
  go_wp2_with fail
  clear z g
  generalize hw6 : w5.setCell ⟨q, 1, none⟩ (.int .i64 n2) = w6 at *
  clear hw6 w5
  -- Kind
  refine (rrnum_any _ _ 1 _ S6.out.rd (by omega)).mono ?_
  rintro e' w7 ⟨rfl, hr7, o7⟩
  have S7 := Lib.hid (show RSt w.heap.size w w7 q _ (q4 t) from S6.out.call hr7 o7)
  clear hr7 o7 S6
  generalize hn3 : rVal (q3 t) 1 = n3 at *
  clear hn3
  have z : w7.cell? ⟨q, 2, none⟩ = some (.int .i64 0) := by rw [blk_cell S7.out.box]; rfl
  have g : w7.frozen? ⟨q, 2, none⟩ = false := blk_frozen S7.out.box 2
  have S8 := Lib.hid (show RSt w.heap.size w (w7.setCell ⟨q, 2, none⟩ (.int .i64 n3)) q #[.int .i64 n1, .int .i64 n2, .int .i64 n3, .string ⟨#[]⟩, .float .f64 0, .int .i64 0] (q4 t) from S7.out.set 2 (.int .i64 n3))
  clear S7
  go_wp2_with fail
  clear z g
  generalize hw8 : w7.setCell ⟨q, 2, none⟩ (.int .i64 n3) = w8 at *
  clear hw8 w7
  -- Key
  refine (rrtext_any _ _ _ S8.out.rd).mono ?_
  rintro e' w9 ⟨rfl, hr9, o9⟩
  have S9 := Lib.hid (show RSt w.heap.size w w9 q _ (q5 t) from S8.out.call hr9 o9)
  clear hr9 o9 S8
  generalize hs4 : tVal (q4 t) = s4 at *
  clear hs4
  have z : w9.cell? ⟨q, 3, none⟩ = some (.string ⟨#[]⟩) := by rw [blk_cell S9.out.box]; rfl
  have g : w9.frozen? ⟨q, 3, none⟩ = false := blk_frozen S9.out.box 3
  have S10 := Lib.hid (show RSt w.heap.size w (w9.setCell ⟨q, 3, none⟩ (.string ⟨s4.toArray⟩)) q #[.int .i64 n1, .int .i64 n2, .int .i64 n3, .string ⟨s4.toArray⟩, .float .f64 0, .int .i64 0] (q5 t) from S9.out.set 3 (.string ⟨s4.toArray⟩))
  clear S9
  go_wp2_with fail
  clear z g
  generalize hw10 : w9.setCell ⟨q, 3, none⟩ (.string ⟨s4.toArray⟩) = w10 at *
  clear hw10 w9
  -- Real
  refine (rbits_any _ _ 8 _ S10.out.rd (by omega)).mono ?_
  rintro e' w11 ⟨rfl, hr11, o11⟩
  have S11 := Lib.hid (show RSt w.heap.size w w11 q _ (q6 t) from S10.out.call hr11 o11)
  have hpr : rVal (q5 t) 8 = qReal t := rfl
  rw [hpr]
  clear hr11 o11 S10 hpr
  generalize hfv : fromV (qReal t) = fv at *
  generalize hfo : fromOk (qReal t) = fo at *
  generalize hbb : qReal t = bb at *
  clear hfv hfo hbb
  go_wp2_with fail
  refine (CF.out _).mono ?_
  rintro r w12 ⟨rfl, rfl⟩
  have z : w11.cell? ⟨q, 4, none⟩ = some (.float .f64 0) := by rw [blk_cell S11.out.box]; rfl
  have g : w11.frozen? ⟨q, 4, none⟩ = false := blk_frozen S11.out.box 4
  have S12 := Lib.hid (show RSt w.heap.size w (w11.setCell ⟨q, 4, none⟩ (.float .f64 fv)) q #[.int .i64 n1, .int .i64 n2, .int .i64 n3, .string ⟨s4.toArray⟩, .float .f64 fv, .int .i64 0] (q6 t) from S11.out.set 4 (.float .f64 fv))
  clear S11
  go_wp2_with fail
  clear z g
  generalize hw12 : w11.setCell ⟨q, 4, none⟩ (.float .f64 fv) = w12 at *
  clear hw12 w11
  -- ID
  refine (rrnum_any _ _ 1 _ S12.out.rd (by omega)).mono ?_
  rintro e' w13 ⟨rfl, hr13, o13⟩
  have S13 := Lib.hid (show RSt w.heap.size w w13 q _ (q7 t) from S12.out.call hr13 o13)
  clear hr13 o13 S12
  generalize hn6 : rVal (q6 t) 1 = n6 at *
  clear hn6
  have z : w13.cell? ⟨q, 5, none⟩ = some (.int .i64 0) := by rw [blk_cell S13.out.box]; rfl
  have g : w13.frozen? ⟨q, 5, none⟩ = false := blk_frozen S13.out.box 5
  have S14 := Lib.hid (show RSt w.heap.size w (w13.setCell ⟨q, 5, none⟩ (.int .i64 n6)) q #[.int .i64 n1, .int .i64 n2, .int .i64 n3, .string ⟨s4.toArray⟩, .float .f64 fv, .int .i64 n6] (q7 t) from S13.out.set 5 (.int .i64 n6))
  clear S13
  have CE := Lib.hid (rrend_any _ _ _ S14.out.rd)
  have hq1 : ¬ w.heap.size = q := by have := S14.out.lt; omega
  have hq2 : ¬ q = w.heap.size := by omega
  obtain ⟨x0, x1, x2, x3, x4, x5⟩ := rqAt_blk S14.out.res
  obtain ⟨z0, z1, z2, z3, z4, z5⟩ := rqAt_blk S14.out.box
  have f0 := blk_frozen S14.out.res 0; have f1 := blk_frozen S14.out.res 1; have f2 := blk_frozen S14.out.res 2; have f3 := blk_frozen S14.out.res 3; have f4 := blk_frozen S14.out.res 4; have f5 := blk_frozen S14.out.res 5
  by_cases hh : hd = 1
  · subst hh
    cases fo with
    | false =>
      have HX := Lib.hid (HNO.out (by rw [HOK.out]; simp))
      clear HYES HOK CE CR CF HNO
      have B := Lib.hid S14.out.bl
      clear S14 z0 z1 z2 z3 z4 z5
      go_upto_region 12 with (fail)
      generalize hw14 : w13.setCell ⟨q, 5, none⟩ (.int .i64 n6) = w14 at *
      clear hw14 z g
      go_wp2_with fail
      refine bodyPost_ret (v := .tuple #[zeroRq.v, .int .i64 5]) (by simp [results, Tryz.results82, go_sem, x0, x1, x2, x3, x4, x5, hq1, hq2, zeroRq, Rq.v]) rfl ⟨by rw [HX.out.1, HX.out.2], ?_⟩
      exact (((((B.out.setCell (Nat.le_refl _) _).setCell (Nat.le_refl _) _).setCell (Nat.le_refl _) _).setCell (Nat.le_refl _) _).setCell (Nat.le_refl _) _).setCell (Nat.le_refl _) _
    | true =>
      by_cases hE : endE (q7 t) = 0
      · rw [hE] at CE
        cases rt with
        | true =>
          have HX := Lib.hid (HYES.out (by rw [HOK.out, decide_eq_true hE]; rfl))
          clear HYES HOK CF HNO hE
          have B := Lib.hid S14.out.bl
          have Rs := Lib.hid S14.out.res
          have Bx := Lib.hid S14.out.box
          clear S14
          go_upto_region 12 with (fail)
          generalize hw14 : w13.setCell ⟨q, 5, none⟩ (.int .i64 n6) = w14 at *
          clear hw14 z g
          go_wp2_with fail
          refine CE.out.mono ?_
          rintro r w15 ⟨rfl, rfl⟩
          go_wp2_with fail
          refine (CR.out _).mono ?_
          rintro r w16 ⟨rfl, b16⟩
          have B2 := Lib.hid (bthen B.out b16)
          have Rs2 := blk_below Rs.out b16
          have Bx2 := blk_below Bx.out b16
          clear x0 x1 x2 x3 x4 x5 z0 z1 z2 z3 z4 z5 f0 f1 f2 f3 f4 f5 b16 B Rs Bx CE CR
          obtain ⟨x0, x1, x2, x3, x4, x5⟩ := rqAt_blk Rs2
          obtain ⟨z0, z1, z2, z3, z4, z5⟩ := rqAt_blk Bx2
          have f0 := blk_frozen Rs2 0; have f1 := blk_frozen Rs2 1; have f2 := blk_frozen Rs2 2; have f3 := blk_frozen Rs2 3; have f4 := blk_frozen Rs2 4; have f5 := blk_frozen Rs2 5
          clear Rs2 Bx2
          go_wp2_with fail
          refine bodyPost_ret (v := .tuple #[(⟨n1, n2, n3, ⟨s4.toArray⟩, fv, n6⟩ : Rq).v, .int .i64 0]) (by simp [results, Tryz.results82, go_sem, x0, x1, x2, x3, x4, x5, z0, z1, z2, z3, z4, z5, hq1, hq2, Rq.v]) rfl ⟨by rw [HX.out.1, HX.out.2]; rfl, ?_⟩
          exact (((((B2.out.setCell (Nat.le_refl _) _).setCell (Nat.le_refl _) _).setCell (Nat.le_refl _) _).setCell (Nat.le_refl _) _).setCell (Nat.le_refl _) _).setCell (Nat.le_refl _) _
        | false =>
          have HX := Lib.hid (HNO.out (by rw [HOK.out]; simp))
          clear HYES HOK CF HNO hE
          have B := Lib.hid S14.out.bl
          have Rs := Lib.hid S14.out.res
          have Bx := Lib.hid S14.out.box
          clear S14
          go_upto_region 12 with (fail)
          generalize hw14 : w13.setCell ⟨q, 5, none⟩ (.int .i64 n6) = w14 at *
          clear hw14 z g
          go_wp2_with fail
          refine CE.out.mono ?_
          rintro r w15 ⟨rfl, rfl⟩
          go_wp2_with fail
          refine (CR.out _).mono ?_
          rintro r w16 ⟨rfl, b16⟩
          have B2 := Lib.hid (bthen B.out b16)
          have Rs2 := blk_below Rs.out b16
          clear x0 x1 x2 x3 x4 x5 z0 z1 z2 z3 z4 z5 f0 f1 f2 f3 f4 f5 b16 B Rs Bx CE CR
          obtain ⟨x0, x1, x2, x3, x4, x5⟩ := rqAt_blk Rs2
          have f0 := blk_frozen Rs2 0; have f1 := blk_frozen Rs2 1; have f2 := blk_frozen Rs2 2; have f3 := blk_frozen Rs2 3; have f4 := blk_frozen Rs2 4; have f5 := blk_frozen Rs2 5
          clear Rs2
          go_wp2_with fail
          refine bodyPost_ret (v := .tuple #[zeroRq.v, .int .i64 5]) (by simp [results, Tryz.results82, go_sem, x0, x1, x2, x3, x4, x5, hq1, hq2, zeroRq, Rq.v]) rfl ⟨by rw [HX.out.1, HX.out.2], ?_⟩
          exact (((((B2.out.setCell (Nat.le_refl _) _).setCell (Nat.le_refl _) _).setCell (Nat.le_refl _) _).setCell (Nat.le_refl _) _).setCell (Nat.le_refl _) _).setCell (Nat.le_refl _) _
      · have hne : (endE (q7 t) != 0) = true := by simpa using hE
        have HX := Lib.hid (HNO.out (by rw [HOK.out, decide_eq_false hE]; rfl))
        have B := Lib.hid S14.out.bl
        clear HYES HOK CR CF HNO S14 z0 z1 z2 z3 z4 z5 hE
        generalize endE (q7 t) = E at *
        go_upto_region 12 with (fail)
        generalize hw14 : w13.setCell ⟨q, 5, none⟩ (.int .i64 n6) = w14 at *
        clear hw14 z g
        go_wp2_with fail
        refine CE.out.mono ?_
        rintro r w15 ⟨rfl, rfl⟩
        go_wp2_with fail
        refine bodyPost_ret (v := .tuple #[zeroRq.v, .int .i64 5]) (by simp [results, Tryz.results82, go_sem, x0, x1, x2, x3, x4, x5, hq1, hq2, zeroRq, Rq.v]) rfl ⟨by rw [HX.out.1, HX.out.2], ?_⟩
        exact (((((B.out.setCell (Nat.le_refl _) _).setCell (Nat.le_refl _) _).setCell (Nat.le_refl _) _).setCell (Nat.le_refl _) _).setCell (Nat.le_refl _) _).setCell (Nat.le_refl _) _
  · have hne : ((hd : Int) != 1) = true := by simp; omega
    have HX := Lib.hid (HNO.out (by rw [HOK.out, decide_eq_false hh]; simp))
    clear HYES HOK CE CR CF HNO
    have B := Lib.hid S14.out.bl
    clear S14 z0 z1 z2 z3 z4 z5 hh
    go_upto_region 12 with (fail)
    generalize hw14 : w13.setCell ⟨q, 5, none⟩ (.int .i64 n6) = w14 at *
    clear hw14 z g
    go_wp2_with fail
    refine bodyPost_ret (v := .tuple #[zeroRq.v, .int .i64 5]) (by simp [results, Tryz.results82, go_sem, x0, x1, x2, x3, x4, x5, hq1, hq2, zeroRq, Rq.v]) rfl ⟨by rw [HX.out.1, HX.out.2], ?_⟩
    exact (((((B.out.setCell (Nat.le_refl _) _).setCell (Nat.le_refl _) _).setCell (Nat.le_refl _) _).setCell (Nat.le_refl _) _).setCell (Nat.le_refl _) _).setCell (Nat.le_refl _) _
end Go.Proofs.YtijeieamodjgbaaGreat

namespace Go.Proofs.YtijeieamodjgbaaGreat
set_option maxRecDepth 100000
open Go.RowKit
set_option linter.unusedVariables false
set_option linter.unusedSimpArgs false
attribute [local go_sem] run_store_float

theorem pIf_true {α : Type} {b : Bool} {p : Ps α} (hb : b = true) : pIf b p = p := by funext t; unfold pIf; rw [if_pos hb]
theorem Pr.dead {α : Type} {P : Ps α} {s s' : R} {v : α} (h : No P s) (hb : s'.bad = true) : Pr P s v s' := by
  cases hs : s.bad with
  | true => exact .inl ⟨hs, hb⟩
  | false =>
    refine .inr ⟨hs, .inl ⟨?_, hb⟩⟩
    rcases h with h | h
    · rw [hs] at h; cases h
    · exact h
/-- What the reference's reading of a part leaves: a thing in new memory, good if the reader is. -/
def RGotP {α : Type} (P : Ps α) (S : Sh α) (F : List Value → Value) (w : World) (p : Nat) (s : R) (e : Ending) (w' : World) : Prop :=
  Keep (fun k => k = p) w w' ∧ ∃ v s' cs, e = .returned (F cs) ∧ Pr P s v s' ∧ RRd w' p s' ∧ Rob (fun k => k < w.heap.size) (fun u => S.E u v cs) w'
theorem rrd_old {p : Nat} {w w' : World} {s : R} (h : RRd w p s) (hb : Below w.heap.size w w') : RRd w' p s := by
  obtain ⟨S, hk, h1, h2⟩ := h
  exact ⟨S, blk_below hk hb, h1, h2⟩
theorem rrd_same {p : Nat} {w w' : World} {s : R} (h : RRd w p s) (hb : w'.heap[p]? = w.heap[p]?) : RRd w' p s := by
  obtain ⟨S, hk, h1, h2⟩ := h
  exact ⟨S, by rw [hb]; exact hk, h1, h2⟩
theorem rrd_in {p : Nat} {w : World} {s : R} (h : RRd w p s) : p < w.heap.size := by
  obtain ⟨S, hk, h1, h2⟩ := h
  exact blk_lt hk
theorem rrd_flag {p : Nat} {w : World} {s : R} (h : RRd w p s) : w.cell? ⟨p, 1, none⟩ = some (.bool s.bad) := by
  obtain ⟨S, hk, h1, h2⟩ := h
  rw [blk_cell hk]; rfl
theorem rrd_turn {p : Nat} {w : World} {s : R} (h : RRd w p s) : RRd (w.setCell ⟨p, 1, none⟩ (.bool true)) p ⟨s.rest, true⟩ := by
  obtain ⟨S, hk, h1, h2⟩ := h
  exact ⟨S, by rw [blk_set hk]; rfl, h1, h2⟩
theorem rrd_frozen {p : Nat} {w : World} {s : R} (h : RRd w p s) : w.frozen? ⟨p, 1, none⟩ = false := by
  obtain ⟨S, hk, h1, h2⟩ := h
  exact blk_frozen hk 1
theorem blk_else {w : World} {q p o : Nat} {v : Value} {x : Obj} (h : w.heap[q]? = some x) (hne : ¬ q = p) : (w.setCell ⟨p, o, none⟩ v).heap[q]? = some x := by
  rw [Below.heap_setCell _ _ _ _ (by exact hne)]; exact h
theorem rrd_put {p q : Nat} {w : World} {s : R} (h : RRd w p s) (o : Nat) (v : Value) (hne : ¬ q = p) : RRd (w.setCell ⟨q, o, none⟩ v) p s := by
  obtain ⟨S, hk, h1, h2⟩ := h
  exact ⟨S, blk_else hk (fun h => hne h.symm), h1, h2⟩
theorem rrnum_got (p : Nat) (s : R) (k : Nat) (w : World) (h : RRd w p s) (hk : k ≤ 4) :
    Calls Tryz.prog 30 #[.pointer (some ⟨p, 0, none⟩), .int .i64 k] w fun e w' => e = .returned (.int .i64 ((rVal s k : Nat) : Int)) ∧ RRd w' p (rNext s k) ∧ Keep (fun k => k = p) w w' := (rrnum_any p s k w h hk).mono fun e w' ⟨h1, h2, h3⟩ => ⟨h1, h2, keep_only h3⟩
theorem rrtext_got (p : Nat) (s : R) (w : World) (h : RRd w p s) :
    Calls Tryz.prog 33 #[.pointer (some ⟨p, 0, none⟩)] w fun e w' => e = .returned (.string ⟨(tVal s).toArray⟩) ∧ RRd w' p (tNext s) ∧ Keep (fun k => k = p) w w' := (rrtext_any p s w h).mono fun e w' ⟨h1, h2, h3⟩ => ⟨h1, h2, keep_only h3⟩
theorem pr_sigsR {s : R} {acc : List Sg} {s' : R} (h : Pr (pRep pSig (rVal s 1)) (rNext s 1) acc s') : Pr (pSigs false) s acc s' := by
  unfold pSigs
  exact (pr_num s 1).then ((show Pr (pRep pSig ((rVal s 1 : Nat) : Int).toNat) (rNext s 1) acc s' from h).if rfl)
theorem no_sigsR {s : R} (h : No (pRep pSig (rVal s 1)) (rNext s 1)) : No (pSigs false) s := by
  unfold pSigs
  refine No.step (pr_num s 1) ?_
  rw [pIf_true (show (!false || decide (((rVal s 1 : Nat) : Int) ≤ 16)) = true from rfl)]
  exact h
set_option maxHeartbeats 1000000 in
theorem rgetsigs_any (p : Nat) (s : R) (w : World) (h : RRd w p s) :
    Calls Tryz.prog 34 #[.pointer (some ⟨p, 0, none⟩)] w (RGotP (pSigs false) shSig.slice oneF w p s) := by
  obtain ⟨ii, hi, hz0, hz1, hz2⟩ := info_parts info_sig'
  have hp := rrd_in h
  have C1 := Lib.hid (rrnum_got p s 1 w h (by decide))
  have hlt := rVal_lt s 1
  have PS := Lib.hid (fun acc s' h => pr_sigsR (s := s) (acc := acc) (s' := s') h)
  have NS := Lib.hid (fun h => no_sigsR (s := s) h)
  generalize rVal s 1 = N at *
  generalize rNext s 1 = s1 at *
  clear h
  go_enter Tryz.func34, Tryz.ntmps34
  go_wp2_with fail
  refine C1.out.mono ?_
  rintro e w1 ⟨rfl, hr1, ho1⟩
  have R1 := Lib.hid hr1
  have O1 := Lib.hid ho1
  clear hr1 ho1 C1
  have hN : N ≤ 255 := by omega
  go_wp2_with fail
  go_loopw [3, 4] (fun v i wr => ∃ k : Nat, ∃ acc : List Sg, ∃ s' : R, k ≤ N ∧ i = .int .i64 ((N : Int) - k) ∧ acc.length = k ∧ Hid (Pr (pRep pSig k) s1 acc s') ∧ Hid (RRd wr p s') ∧ Hid (wr.ownsRow w.heap.size 84 2 v k (sigV acc)) ∧ Hid (∀ y ∈ acc, i64 y.1 ∧ y.2.size ≤ 1125899906842624) ∧ Hid (Keep (fun k => k = p) w wr)) (fun _ i _ => (intOf i).toNat)
  case atStart => exact ⟨0, [], s1, by omega, by simp, rfl, Lib.hid (Pr.ret _ _), R1, Lib.hid (World.ownsRow_nil _ _ _ _), Lib.hid (fun _ h => by cases h), O1⟩
  case round =>
    clear R1 O1
    obtain ⟨k, acc, s', hk, rfl, hacc, HP, HR, HO, HI, HK⟩ := hrel
    obtain ⟨va, vc, rfl⟩ := owns_form HO.out
    have hsz := HK.out.size
    by_cases hlk : k < N
    · have hd : decide ((0 : Int) < (N : Int) - (k : Int)) = true := by simp; omega
      have y0 := rrd_flag HR.out
      cases hb : s'.bad with
      | true =>
        rw [hb] at y0
        have HF := Lib.hid (show RGotP (pSigs false) shSig.slice oneF w p s (.returned (.slice va k vc)) wr from
          ⟨HK.out, acc, s', [.slice va k vc], rfl, Pr.dead (NS.out (No.rep HP.out (No.bad hb) hlk)) hb, HR.out, fun u hu => ⟨va, k, vc, rfl, sigs_row (owns_keep HO.out hu (fun g hg hc => by have := (HO.out.lt g hg).1; omega)) hacc HI.out (by omega)⟩⟩)
        go_wp2_with fail
        go_ret
        exact HF.out
      | false =>
        rw [hb] at y0
        have CB := Lib.hid (rrnum_got p s' 1 wr HR.out (by decide))
        have CT := Lib.hid (fun u h => rrtext_got p (rNext s' 1) u h)
        have HP' := Lib.hid (HP.out.snoc (pr_sig s'))
        have HI' := Lib.hid (show ∀ y ∈ acc ++ [sgV s'], i64 y.1 ∧ y.2.size ≤ 1125899906842624 from fun y hy => by
          rcases List.mem_append.1 hy with hy | hy
          · exact HI.out y hy
          · rw [List.mem_singleton] at hy; subst hy; exact ⟨sgV_i64 _, sgV_len _⟩)
        have HV := Lib.hid (show sgV s' = (((rVal s' 1 : Nat) : Int), (⟨(tVal (rNext s' 1)).toArray⟩ : ByteArray)) from rfl)
        have HN := Lib.hid (show sgN s' = tNext (rNext s' 1) from rfl)
        generalize sgV s' = V at *
        generalize sgN s' = s2 at *
        obtain ⟨x, t⟩ := V
        obtain ⟨hx, ht⟩ := Prod.mk.inj HV.out
        rw [← hx] at CB
        have HN' := HN.out
        simp only [← ht, ← HN'] at CT
        clear HV HN HN' hx ht
        go_wp2_with fail
        refine CB.out.mono ?_
        rintro e w3 ⟨rfl, hr3, ho3⟩
        have R3 := Lib.hid hr3
        have O3 := Lib.hid ho3
        clear hr3 ho3 CB y0
        go_wp2_with fail
        refine (CT.out w3 R3.out).mono ?_
        rintro e w4 ⟨rfl, hr4, ho4⟩
        have R4 := Lib.hid hr4
        have O4' := keep_then O3.out ho4
        have hz4 := O4'.size
        have O4 := Lib.hid (keep_then HK.out O4')
        have HO4 := owns_keep HO.out O4' (fun k hk hc => by have := (HO.out.lt k hk).1; omega)
        have hb5 := below_alloc w4 (.cells #[.int .i64 x, .string t] 84 (0, 0))
        have HO5 := Lib.hid (owns_old HO4 hb5)
        have k5 := blk_alloc w4 (.cells #[.int .i64 x, .string t] 84 (0, 0))
        have hnews : ∀ ad, some (⟨w4.heap.size, 0, none⟩ : Addr) = some ad → ∀ j u, [Value.int .i64 x, Value.string t][j]? = some u → (w4.alloc (.cells #[.int .i64 x, .string t] 84 (0, 0))).cell? (ad.add j) = some u := fun ad had j u hj => by
          injection had with had
          subst had
          rw [Addr.add_lit, blk_cell k5, ← hj]
          simp
        have HNW := Lib.hid hnews
        have hm1 : k + 1 ≤ maxLen := by unfold maxLen; omega
        have hm2 : (k + 1) * 24 ≤ 140737488355328 := by omega
        have hB5 : w.heap.size ≤ (w4.alloc (.cells #[.int .i64 x, .string t] 84 (0, 0))).heap.size := by simp; omega
        have hsub : IntKind.i64.wrap ((N : Int) - (k : Int) - 1) = (N : Int) - ((k + 1 : Nat) : Int) := by rw [IntWalk.i64_in _ (by omega)]; omega
        clear hr4 ho4 HO4 hnews CT k5 hb5 O4' R3 O3
        go_wp2_with (first | (at_builtin; refine wpList_append_any_at _ rfl (.tmp 21) (.tmp 26) 31 rfl w.heap.size 84 ii (.agg #[.int .i64 0, .string ⟨#[]⟩]) 2 24 Tryz.underlying31 hi hz0 hz1 hz2 rfl (by decide) (.slice va k vc) k (sigV acc) rfl HO5.out (some ⟨w4.heap.size, 0, none⟩) 1 1 [.int .i64 x, .string t] rfl rfl (by simp) HNW.out (by simp [Value.oneCell']) hm1 hm2 hB5 ?_) | fail)
        intro v' w8 ho8 hg8 hor8
        obtain ⟨a8, c8, rfl⟩ := owns_form ho8
        have K8 := Lib.hid (show Keep (fun k => k = p) w w8 from (O4.out.alloc _).grown hg8 (fun k hk => .inl (HO5.out.lt k hk).1))
        have R8 := Lib.hid (rrd_same (rrd_old R4.out (below_alloc w4 (.cells #[.int .i64 x, .string t] 84 (0, 0)))) (hg8.block p (by simp; omega) (fun hc => by have := (HO5.out.lt p hc.symm).1; omega)))
        have HO8 := Lib.hid (show w8.ownsRow w.heap.size 84 2 (.slice a8 (k + 1) c8) (k + 1) (sigV (acc ++ [(x, t)])) from by rw [show sigV (acc ++ [(x, t)]) = sigV acc ++ [.int .i64 x, .string t] by simp [sigV]]; exact ho8)
        clear ho8 hg8 hor8 O4 R4 HO5 HNW
        go_wp2_with fail
        go_roundw
        case rel => exact ⟨k + 1, acc ++ [(x, t)], s2, by omega, by first | rfl | go_num | omega, by simp [hacc], HP', R8, HO8, HI', K8⟩
        case measure => simp [intOf]; omega
    · have hd : decide ((0 : Int) < (N : Int) - (k : Int)) = false := by simp; omega
      obtain rfl : k = N := by omega
      have HF := Lib.hid (show RGotP (pSigs false) shSig.slice oneF w p s (.returned (.slice va k vc)) wr from
        ⟨HK.out, acc, s', [.slice va k vc], rfl, PS.out _ _ HP.out, HR.out, fun u hu => ⟨va, k, vc, rfl, sigs_row (owns_keep HO.out hu (fun g hg hc => by have := (HO.out.lt g hg).1; omega)) hacc HI.out (by omega)⟩⟩)
      go_wp2_with fail
      go_ret
      exact HF.out
set_option maxHeartbeats 1000000 in
theorem rgetask_any (p : Nat) (s : R) (w : World) (h : RRd w p s) :
    Calls Tryz.prog 31 #[.pointer (some ⟨p, 0, none⟩)] w (RGotP pReq shReq aggF w p s) := by
  obtain ⟨w1, hw1⟩ : ∃ u, u = w.alloc (.cells #[.int .i64 0, .int .i64 0, .int .i64 0, .string ⟨#[]⟩, .float .f64 0, .int .i64 0] 27 (0, 0)) := ⟨_, rfl⟩
  have b1 : Below w.heap.size w w1 := by rw [hw1]; exact below_alloc _ _
  have K1 := Lib.hid (show w1.heap[w.heap.size]? = some (.cells #[.int .i64 0, .int .i64 0, .int .i64 0, .string ⟨#[]⟩, .float .f64 0, .int .i64 0] 27 (0, 0)) by rw [hw1]; exact blk_alloc _ _)
  have B1 := Lib.hid b1
  have hp := rrd_in h
  have C1 := Lib.hid (rrtext_got p s w1 (rrd_old h b1))
  have CQ := Lib.hid (fun w => rread_any ⟨(tVal s).toArray⟩ w (by have := tValLen s; simp only [ByteArray.size, List.size_toArray]; omega))
  simp only [List.toList_toArray] at CQ
  have HO := Lib.hid (readRq_ok (tVal s))
  have PS := Lib.hid (fun h => pr_req (s := s) h)
  have NS := Lib.hid (fun h => no_req (s := s) h)
  generalize readRq (tVal s) = Q at *
  generalize readErr (tVal s) = E at *
  generalize (⟨(tVal s).toArray⟩ : ByteArray) = T at *
  generalize tNext s = s1 at *
  have HR := Lib.hid (fun X w => req_rob Q HO.out X w)
  obtain ⟨qc, qs, qk, qt, qb, qi⟩ := Q
  simp only [Rq.v] at CQ
  clear h b1 HO
  go_enter Tryz.func31, Tryz.ntmps31
  go_upto_region 1 with (fail)
  rw [← hw1]
  clear hw1
  go_wp2_with fail
  refine C1.out.mono ?_
  rintro e w3 ⟨rfl, hr3, ho3⟩
  have R3 := Lib.hid hr3
  have O3 := Lib.hid (keep_then (Keep.of_below B1.out) ho3)
  have K3 := Lib.hid ((ho3.block _ (blk_lt K1.out) (by omega)).trans K1.out)
  clear hr3 ho3 C1 K1
  go_wp2_with fail
  refine (CQ.out w3).mono ?_
  rintro e w4 ⟨rfl, b4⟩
  have R4 := Lib.hid (rrd_old R3.out b4)
  have O4 := Lib.hid (keep_then O3.out (Keep.of_below b4))
  have K4 := Lib.hid (blk_below K3.out b4)
  obtain ⟨w5, hw5⟩ : ∃ u, u = w4.alloc (.cells #[.int .i64 qc, .int .i64 qs, .int .i64 qk, .string qt, .float .f64 qb, .int .i64 qi] 27 (0, 0)) := ⟨_, rfl⟩
  have b5 : Below w4.heap.size w4 w5 := by rw [hw5]; exact below_alloc _ _
  have kq : w5.heap[w4.heap.size]? = some (.cells #[.int .i64 qc, .int .i64 qs, .int .i64 qk, .string qt, .float .f64 qb, .int .i64 qi] 27 (0, 0)) := by rw [hw5]; exact blk_alloc _ _
  have KQ := Lib.hid kq
  have K5 := Lib.hid (blk_below K4.out b5)
  have R5 := Lib.hid (rrd_old R4.out b5)
  have O5 := Lib.hid (keep_then O4.out (Keep.of_below b5))
  have hz4 := O4.out.size
  have hl5 := blk_lt K4.out
  clear K3 K4 R3 R4 b4 CQ b5 kq O3 O4
  go_upto_region 2 with (fail)
  rw [← hw5]
  clear hw5
  by_cases hE : E = 0
  · subst hE
    have HP := Lib.hid (PS.out rfl)
    have v0 : w5.cell? ⟨w4.heap.size, 0, none⟩ = some (.int .i64 qc) := by rw [blk_cell KQ.out]; rfl
    have v1 : w5.cell? ⟨w4.heap.size, 1, none⟩ = some (.int .i64 qs) := by rw [blk_cell KQ.out]; rfl
    have v2 : w5.cell? ⟨w4.heap.size, 2, none⟩ = some (.int .i64 qk) := by rw [blk_cell KQ.out]; rfl
    have v3 : w5.cell? ⟨w4.heap.size, 3, none⟩ = some (.string qt) := by rw [blk_cell KQ.out]; rfl
    have v4 : w5.cell? ⟨w4.heap.size, 4, none⟩ = some (.float .f64 qb) := by rw [blk_cell KQ.out]; rfl
    have v5 : w5.cell? ⟨w4.heap.size, 5, none⟩ = some (.int .i64 qi) := by rw [blk_cell KQ.out]; rfl
    have d0 : w5.cell? ⟨w.heap.size, 0, none⟩ = some (.int .i64 0) := by rw [blk_cell K5.out]; rfl
    have d1 : w5.cell? ⟨w.heap.size, 1, none⟩ = some (.int .i64 0) := by rw [blk_cell K5.out]; rfl
    have d2 : w5.cell? ⟨w.heap.size, 2, none⟩ = some (.int .i64 0) := by rw [blk_cell K5.out]; rfl
    have d3 : w5.cell? ⟨w.heap.size, 3, none⟩ = some (.string ⟨#[]⟩) := by rw [blk_cell K5.out]; rfl
    have d4 : w5.cell? ⟨w.heap.size, 4, none⟩ = some (.float .f64 0) := by rw [blk_cell K5.out]; rfl
    have d5 : w5.cell? ⟨w.heap.size, 5, none⟩ = some (.int .i64 0) := by rw [blk_cell K5.out]; rfl
    have z : ∀ o, w5.frozen? ⟨w.heap.size, o, none⟩ = false := fun o => blk_frozen K5.out o
    go_wp2_with fail
    have hne : ¬ w.heap.size = p := by omega
    have hle : w.heap.size ≤ w.heap.size ∨ w.heap.size = p := .inl (Nat.le_refl _)
    refine bodyPost_ret (v := .agg #[.int .i64 qc, .int .i64 qs, .int .i64 qk, .string qt, .float .f64 qb, .int .i64 qi]) (by simp [results, Tryz.results31, go_sem, d0, d1, d2, d3, d4, d5]) rfl ?_
    refine ⟨(((((O5.out.set hle _ _).set hle _ _).set hle _ _).set hle _ _).set hle _ _).set hle _ _, ⟨qc, qs, qk, qt, qb, qi⟩, s1, (⟨qc, qs, qk, qt, qb, qi⟩ : Rq).cs, rfl, HP.out, ?_, HR.out _ _⟩
    exact rrd_put (rrd_put (rrd_put (rrd_put (rrd_put (rrd_put R5.out _ _ hne) _ _ hne) _ _ hne) _ _ hne) _ _ hne) _ _ hne
  · have hEE : (E != 0) = true := by simpa using hE
    have HN := Lib.hid (NS.out (by simp [hE]))
    have y1 := rrd_flag R5.out
    have yf := rrd_frozen R5.out
    obtain ⟨w6, hw6⟩ : ∃ u, u = w5.setCell ⟨p, 1, none⟩ (.bool true) := ⟨_, rfl⟩
    have R6 := Lib.hid (show RRd w6 p ⟨s1.rest, true⟩ from by rw [hw6]; exact rrd_turn R5.out)
    have K6 := Lib.hid (show w6.heap[w.heap.size]? = some (.cells #[.int .i64 0, .int .i64 0, .int .i64 0, .string ⟨#[]⟩, .float .f64 0, .int .i64 0] 27 (0, 0)) from by rw [hw6]; exact blk_else K5.out (by omega))
    have KQ6 := Lib.hid (show w6.heap[w4.heap.size]? = some (.cells #[.int .i64 qc, .int .i64 qs, .int .i64 qk, .string qt, .float .f64 qb, .int .i64 qi] 27 (0, 0)) from by rw [hw6]; exact blk_else KQ.out (by omega))
    have O6 := Lib.hid (show Keep (fun k => k = p) w w6 from by rw [hw6]; exact O5.out.set (.inr rfl) _ _)
    go_upto_region 4 with (fail)
    rw [← hw6]
    clear hw6 y1 yf K5 KQ R5 O5
    have v0 : w6.cell? ⟨w4.heap.size, 0, none⟩ = some (.int .i64 qc) := by rw [blk_cell KQ6.out]; rfl
    have v1 : w6.cell? ⟨w4.heap.size, 1, none⟩ = some (.int .i64 qs) := by rw [blk_cell KQ6.out]; rfl
    have v2 : w6.cell? ⟨w4.heap.size, 2, none⟩ = some (.int .i64 qk) := by rw [blk_cell KQ6.out]; rfl
    have v3 : w6.cell? ⟨w4.heap.size, 3, none⟩ = some (.string qt) := by rw [blk_cell KQ6.out]; rfl
    have v4 : w6.cell? ⟨w4.heap.size, 4, none⟩ = some (.float .f64 qb) := by rw [blk_cell KQ6.out]; rfl
    have v5 : w6.cell? ⟨w4.heap.size, 5, none⟩ = some (.int .i64 qi) := by rw [blk_cell KQ6.out]; rfl
    have d0 : w6.cell? ⟨w.heap.size, 0, none⟩ = some (.int .i64 0) := by rw [blk_cell K6.out]; rfl
    have d1 : w6.cell? ⟨w.heap.size, 1, none⟩ = some (.int .i64 0) := by rw [blk_cell K6.out]; rfl
    have d2 : w6.cell? ⟨w.heap.size, 2, none⟩ = some (.int .i64 0) := by rw [blk_cell K6.out]; rfl
    have d3 : w6.cell? ⟨w.heap.size, 3, none⟩ = some (.string ⟨#[]⟩) := by rw [blk_cell K6.out]; rfl
    have d4 : w6.cell? ⟨w.heap.size, 4, none⟩ = some (.float .f64 0) := by rw [blk_cell K6.out]; rfl
    have d5 : w6.cell? ⟨w.heap.size, 5, none⟩ = some (.int .i64 0) := by rw [blk_cell K6.out]; rfl
    have z : ∀ o, w6.frozen? ⟨w.heap.size, o, none⟩ = false := fun o => blk_frozen K6.out o
    go_wp2_with fail
    have hne : ¬ w.heap.size = p := by omega
    have hle : w.heap.size ≤ w.heap.size ∨ w.heap.size = p := .inl (Nat.le_refl _)
    refine bodyPost_ret (v := .agg #[.int .i64 qc, .int .i64 qs, .int .i64 qk, .string qt, .float .f64 qb, .int .i64 qi]) (by simp [results, Tryz.results31, go_sem, d0, d1, d2, d3, d4, d5]) rfl ?_
    refine ⟨(((((O6.out.set hle _ _).set hle _ _).set hle _ _).set hle _ _).set hle _ _).set hle _ _, ⟨qc, qs, qk, qt, qb, qi⟩, ⟨s1.rest, true⟩, (⟨qc, qs, qk, qt, qb, qi⟩ : Rq).cs, rfl, Pr.dead HN.out rfl, ?_, HR.out _ _⟩
    exact rrd_put (rrd_put (rrd_put (rrd_put (rrd_put (rrd_put R6.out _ _ hne) _ _ hne) _ _ hne) _ _ hne) _ _ hne) _ _ hne
theorem pr_certR {s s3 s4 : R} {q : Rq} {sg : List Sg} (hq : Pr pReq (rNext (rNext s 1) 2) q s3) (hs : Pr (pSigs false) s3 sg s4) : Pr (pCert false) s ⟨(rVal s 1 : Nat), (rVal (rNext s 1) 2 : Nat), q, sg⟩ s4 := by
  unfold pCert
  exact (pr_num s 1).then ((pr_num _ 2).then (hq.then (hs.then (Pr.ret _ _))))
theorem pr_changeR {s s' : R} {ce : List Ce} (h : Pr (pRep (pCert false) (rVal (rNext (rNext s 1) 1) 1)) (rNext (rNext (rNext s 1) 1) 1) ce s') : Pr (pChange false) s ⟨(rVal s 1 : Nat), (rVal (rNext s 1) 1 : Nat), ce, sgV s'⟩ (sgN s') := by
  unfold pChange
  exact (pr_num s 1).then ((pr_num _ 1).then ((pr_num _ 1).then (((show Pr (pRep (pCert false) ((rVal (rNext (rNext s 1) 1) 1 : Nat) : Int).toNat) _ ce s' from h).then (Pr.map (f := fun sg => (⟨(rVal s 1 : Nat), (rVal (rNext s 1) 1 : Nat), ce, sg⟩ : Ch)) (pr_sig s'))).if rfl)))
theorem no_changeR {s : R} (h : No (pRep (pCert false) (rVal (rNext (rNext s 1) 1) 1)) (rNext (rNext (rNext s 1) 1) 1)) : No (pChange false) s := by
  unfold pChange
  exact No.step (pr_num s 1) (No.step (pr_num _ 1) (No.step (pr_num _ 1) (no_if (No.then (show No (pRep (pCert false) ((rVal (rNext (rNext s 1) 1) 1 : Nat) : Int).toNat) _ from h)))))
theorem sgN_bad {s : R} (h : s.bad = true) : (sgN s).bad = true := by
  unfold sgN
  rw [tNext_bad (.inl (by rw [rNext_bad (.inl (by rw [rNext_bad (.inl h)]))]))]
set_option maxHeartbeats 4000000 in
theorem rgetchange_any (p : Nat) (s : R) (w : World) (h : RRd w p s) :
    Calls Tryz.prog 35 #[.pointer (some ⟨p, 0, none⟩)] w (RGotP (pChange false) shChange aggF w p s) := by
  obtain ⟨ii, hi, hz0, hz1, hz2⟩ := info_parts info_cert
  obtain ⟨w2, hw2⟩ : ∃ u, u = w.alloc (.cells #[.int .i64 0, .int .i64 0, .slice none 0 0, .int .i64 0, .string ⟨#[]⟩] 86 (0, 0)) := ⟨_, rfl⟩
  have b2 : Below w.heap.size w w2 := by rw [hw2]; exact below_alloc _ _
  have K2 := Lib.hid (show w2.heap[w.heap.size]? = some (.cells #[.int .i64 0, .int .i64 0, .slice none 0 0, .int .i64 0, .string ⟨#[]⟩] 86 (0, 0)) by rw [hw2]; exact blk_alloc _ _)
  have B2 := Lib.hid b2
  have hp := rrd_in h
  have C1 := Lib.hid (rrnum_got p s 1 w2 (rrd_old h b2) (by decide))
  have PS := Lib.hid (fun ce s' h => pr_changeR (s := s) (s' := s') (ce := ce) h)
  have NS := Lib.hid (fun h => no_changeR (s := s) h)
  have I1 := Lib.hid (rVal_i64 s 1 (by decide))
  have I2 := Lib.hid (rVal_i64 (rNext s 1) 1 (by decide))
  have hlt := rVal_lt (rNext (rNext s 1) 1) 1
  have C2 := Lib.hid (fun w h => rrnum_got p (rNext s 1) 1 w h (by decide))
  have C3 := Lib.hid (fun w h => rrnum_got p (rNext (rNext s 1) 1) 1 w h (by decide))
  generalize rVal (rNext (rNext s 1) 1) 1 = N3 at *
  generalize rNext (rNext (rNext s 1) 1) 1 = s3 at *
  generalize rNext (rNext s 1) 1 = s2 at *
  generalize rVal (rNext s 1) 1 = N2 at *
  generalize rNext s 1 = s1 at *
  generalize rVal s 1 = N1 at *
  have hN3 : N3 ≤ 255 := by omega
  clear h b2 hlt
  go_enter Tryz.func35, Tryz.ntmps35
  go_upto_region 1 with (fail)
  rw [← hw2]
  clear hw2
  go_wp2_with fail
  refine C1.out.mono ?_
  rintro e w3 ⟨rfl, hr3, ho3⟩
  have hz3 := ho3.size
  have hsz2 := B2.out.size
  have hz20 := blk_lt K2.out
  have k2 := (ho3.block _ (blk_lt K2.out) (by omega)).trans K2.out
  obtain ⟨w4, hw4⟩ : ∃ u, u = w3.alloc (.cells #[.int .i64 (N1 : Int), .int .i64 0, .slice none 0 0, .int .i64 0, .string ⟨#[]⟩] 86 (0, 0)) := ⟨_, rfl⟩
  have b4 : Below w3.heap.size w3 w4 := by rw [hw4]; exact below_alloc _ _
  have hz4 : w4.heap.size = w3.heap.size + 1 := by rw [hw4]; simp
  have KC4 := Lib.hid (show w4.heap[w3.heap.size]? = some (.cells #[.int .i64 (N1 : Int), .int .i64 0, .slice none 0 0, .int .i64 0, .string ⟨#[]⟩] 86 (0, 0)) by rw [hw4]; exact blk_alloc _ _)
  have KS := Lib.hid (blk_below k2 b4)
  have R4 := Lib.hid (rrd_old hr3 b4)
  have O4 := Lib.hid (keep_then (keep_then (Keep.of_below B2.out) ho3) (Keep.of_below b4))
  have hpq : p < w3.heap.size := by omega
  have hHq : w.heap.size < w3.heap.size := by omega
  have CC2 := Lib.hid (C2.out w4 R4.out)
  clear hr3 ho3 k2 b4 C1 K2 C2
  go_upto_region 2 with (fail)
  rw [← hw4]
  clear hw4
  generalize w3.heap.size = q at *
  go_wp2_with fail
  refine CC2.out.mono ?_
  rintro e w5 ⟨rfl, hr5, ho5⟩
  have kc5 := (ho5.block _ (blk_lt KC4.out) (by omega)).trans KC4.out
  obtain ⟨w6, hw6⟩ : ∃ u, u = w5.setCell ⟨q, 1, none⟩ (.int .i64 (N2 : Int)) := ⟨_, rfl⟩
  have KC6 := Lib.hid (show w6.heap[q]? = some (.cells #[.int .i64 (N1 : Int), .int .i64 (N2 : Int), .slice none 0 0, .int .i64 0, .string ⟨#[]⟩] 86 (0, 0)) by rw [hw6, blk_set kc5 1 _]; rfl)
  have Q6 := Lib.hid (show Keep (fun k => k = p ∨ k = q) w4 w6 by rw [hw6]; exact (keep_mono14 ho5 (fun k h => .inl h)).set (.inr (.inr rfl)) _ _)
  have R6 := Lib.hid (show RRd w6 p s2 by rw [hw6]; exact rrd_put hr5 _ _ (by omega))
  have e1 : w5.cell? ⟨q, 1, none⟩ = some (.int .i64 0) := by rw [blk_cell kc5]; rfl
  have e2 : w5.frozen? ⟨q, 1, none⟩ = false := blk_frozen kc5 1
  have CC3 := Lib.hid (C3.out w6 R6.out)
  clear hr5 ho5 kc5 CC2 C3 KC4
  go_upto_region 3 with (fail)
  rw [← hw6]
  clear hw6 e1 e2
  go_wp2_with fail
  refine CC3.out.mono ?_
  rintro e w8 ⟨rfl, hr7, ho7⟩
  have Q8 := Lib.hid (Q6.out.trans (keep_mono14 (Y := fun k => k = p ∨ k = q) ho7 (fun k h => .inl h)) (fun _ _ h => h))
  have KC8 := Lib.hid ((ho7.block _ (blk_lt KC6.out) (by omega)).trans KC6.out)
  have R8 := Lib.hid hr7
  have HFN := Lib.hid (fun (u : World) (hu : Keep (fun k => k = p ∨ k = q) w4 u) => (O4.out.trans (X := fun k => k = p) hu (fun k hk h => h.elim id (fun h => by omega)) : Keep (fun k => k = p) w u))
  clear hr7 ho7 CC3 R6 Q6 KC6
  go_wp2_with fail
  go_loopw [4] (fun i wr => ∃ k : Nat, ∃ acc : List Ce, ∃ s' : R, ∃ v : Value, k ≤ N3 ∧ i = .int .i64 ((N3 : Int) - k) ∧ acc.length = k ∧ Hid (Pr (pRep (pCert false) k) s3 acc s') ∧ Hid (RRd wr p s') ∧ Hid (RowIn shCert 144 (q + 1) wr v acc) ∧ Hid (wr.heap[q]? = some (.cells #[.int .i64 (N1 : Int), .int .i64 (N2 : Int), v, .int .i64 0, .string ⟨#[]⟩] 86 (0, 0))) ∧ Hid (Keep (fun k => k = p ∨ k = q) w4 wr)) (fun i _ => (intOf i).toNat)
  case atStart => exact ⟨0, [], s3, _, by omega, by simp, rfl, Lib.hid (Pr.ret _ _), R8, Lib.hid RowIn.nil, KC8, Q8⟩
  case round =>
    clear R8 Q8 KC8
    obtain ⟨k, acc, s', v, hk, rfl, hacc, HP, HR, HO, HC, HK⟩ := hrel
    obtain ⟨va, vn, vc, rfl, hvn⟩ := HO.out.form
    have hsz := HK.out.size
    by_cases hlk : k < N3
    · have hd : decide ((0 : Int) < (N3 : Int) - (k : Int)) = true := by simp; omega
      have y0 := rrd_flag HR.out
      cases hb : s'.bad with
      | true =>
        rw [hb] at y0
        obtain rfl : vn = k := by omega
        clear hvn
        have D1 := Lib.hid (rrnum_got p s' 1 wr HR.out (by decide))
        have D2 := Lib.hid (fun u h => rrtext_got p (rNext s' 1) u h)
        have HSS := Lib.hid ((HK.out.block _ (blk_lt KS.out) (by omega)).trans KS.out)
        have G1 := Lib.hid (sgV_i64 s'); have G2 := Lib.hid (sgV_len s')
        have HV := Lib.hid (show sgV s' = (((rVal s' 1 : Nat) : Int), (⟨(tVal (rNext s' 1)).toArray⟩ : ByteArray)) from rfl)
        have HN5 := Lib.hid (show sgN s' = tNext (rNext s' 1) from rfl)
        have PY := Lib.hid (fun (V : Sg) => (Pr.dead (NS.out (No.rep HP.out (No.bad hb) hlk)) (sgN_bad hb) : Pr (pChange false) s ⟨N1, N2, acc, V⟩ (sgN s')))
        generalize sgV s' = V at *
        generalize sgN s' = s5 at *
        obtain ⟨sx, st⟩ := V
        obtain ⟨hx, ht⟩ := Prod.mk.inj HV.out
        rw [← hx] at D1
        have HN5' := HN5.out
        simp only [← ht, ← HN5'] at D2
        clear HV HN5 HN5' hx ht
        go_wp2_with fail
        refine D1.out.mono ?_
        rintro e u2 ⟨rfl, hr2, ho2⟩
        have hpw : q < wr.heap.size := blk_lt HC.out
        have kc2 := (ho2.block _ hpw (by omega)).trans HC.out
        have ks2 := (ho2.block _ (blk_lt HSS.out) (by omega)).trans HSS.out
        obtain ⟨u3, hw3⟩ : ∃ u, u = u2.setCell ⟨q, 3, none⟩ (.int .i64 sx) := ⟨_, rfl⟩
        have KC3 := Lib.hid (show u3.heap[q]? = some (.cells #[.int .i64 (N1 : Int), .int .i64 (N2 : Int), .slice va vn vc, .int .i64 sx, .string ⟨#[]⟩] 86 (0, 0)) by rw [hw3]; exact (blk_set kc2 3 (.int .i64 sx)).trans (by simp only [List.setIfInBounds_toArray, List.set_cons_succ, List.set_cons_zero]))
        have KS3 := Lib.hid (show u3.heap[w.heap.size]? = some (.cells #[.int .i64 0, .int .i64 0, .slice none 0 0, .int .i64 0, .string ⟨#[]⟩] 86 (0, 0)) by rw [hw3]; exact blk_set_other ks2 q 3 _ (by omega))
        have Q3 := Lib.hid (show Keep (fun k => k = p ∨ k = q) wr u3 by rw [hw3]; exact Keep.set (keep_mono14 (Y := fun k => k = p ∨ k = q) ho2 (fun k h => .inl h)) (.inr (.inr rfl)) 3 (.int .i64 sx))
        have R3' := Lib.hid (show RRd u3 p _ by rw [hw3]; exact rrd_put hr2 3 (.int .i64 sx) (by omega))
        have e3 : u2.cell? ⟨q, 3, none⟩ = some (.int .i64 0) := by rw [blk_cell kc2]; rfl
        have z3 : u2.frozen? ⟨q, 3, none⟩ = false := blk_frozen kc2 3
        have DD2 := Lib.hid (D2.out u3 R3'.out)
        clear hr2 ho2 kc2 ks2 D1 D2
        go_upto_region 12 with (fail)
        rw [← hw3]
        clear hw3 e3 z3
        go_wp2_with fail
        refine DD2.out.mono ?_
        rintro e u5 ⟨rfl, hr5, ho5⟩
        have kc3 := (ho5.block _ (blk_lt KC3.out) (by omega)).trans KC3.out
        have ks3 := (ho5.block _ (blk_lt KS3.out) (by omega)).trans KS3.out
        obtain ⟨u4, hw4⟩ : ∃ u, u = u5.setCell ⟨q, 4, none⟩ (.string st) := ⟨_, rfl⟩
        have KC4 := Lib.hid (show u4.heap[q]? = some (.cells #[.int .i64 (N1 : Int), .int .i64 (N2 : Int), .slice va vn vc, .int .i64 sx, .string st] 86 (0, 0)) by rw [hw4]; exact (blk_set kc3 4 (.string st)).trans (by simp only [List.setIfInBounds_toArray, List.set_cons_succ, List.set_cons_zero]))
        have KS4 := Lib.hid (show u4.heap[w.heap.size]? = some (.cells #[.int .i64 0, .int .i64 0, .slice none 0 0, .int .i64 0, .string ⟨#[]⟩] 86 (0, 0)) by rw [hw4]; exact blk_set_other ks3 q 4 _ (by omega))
        have Q4 := Lib.hid (show Keep (fun k => k = p ∨ k = q) wr u4 by rw [hw4]; exact Keep.set (Q3.out.trans (keep_mono14 (Y := fun k => k = p ∨ k = q) ho5 (fun k h => .inl h)) (fun _ _ h => h)) (.inr (.inr rfl)) 4 (.string st))
        have R4 := Lib.hid (show RRd u4 p s5 by rw [hw4]; exact rrd_put hr5 4 (.string st) (by omega))
        have e4 : u5.cell? ⟨q, 4, none⟩ = some (.string ⟨#[]⟩) := by rw [blk_cell kc3]; rfl
        have z4 : u5.frozen? ⟨q, 4, none⟩ = false := blk_frozen kc3 4
        clear hr5 ho5 kc3 ks3 DD2 KC3 KS3 Q3 R3'
        go_upto_region 13 with (fail)
        rw [← hw4]
        clear hw4 e4 z4
        have c0 : u4.cell? ⟨q, 0, none⟩ = some (.int .i64 (N1 : Int)) := by rw [blk_cell KC4.out]; rfl
        have c1 : u4.cell? ⟨q, 1, none⟩ = some (.int .i64 (N2 : Int)) := by rw [blk_cell KC4.out]; rfl
        have c2 : u4.cell? ⟨q, 2, none⟩ = some (.slice va vn vc) := by rw [blk_cell KC4.out]; rfl
        have c3 : u4.cell? ⟨q, 3, none⟩ = some (.int .i64 sx) := by rw [blk_cell KC4.out]; rfl
        have c4 : u4.cell? ⟨q, 4, none⟩ = some (.string st) := by rw [blk_cell KC4.out]; rfl
        have d0 : u4.cell? ⟨w.heap.size, 0, none⟩ = some (.int .i64 0) := by rw [blk_cell KS4.out]; rfl
        have d1 : u4.cell? ⟨w.heap.size, 1, none⟩ = some (.int .i64 0) := by rw [blk_cell KS4.out]; rfl
        have d2 : u4.cell? ⟨w.heap.size, 2, none⟩ = some (.slice none 0 0) := by rw [blk_cell KS4.out]; rfl
        have d3 : u4.cell? ⟨w.heap.size, 3, none⟩ = some (.int .i64 0) := by rw [blk_cell KS4.out]; rfl
        have d4 : u4.cell? ⟨w.heap.size, 4, none⟩ = some (.string ⟨#[]⟩) := by rw [blk_cell KS4.out]; rfl
        have zz : ∀ o, u4.frozen? ⟨w.heap.size, o, none⟩ = false := fun o => blk_frozen KS4.out o
        go_wp2_with fail
        refine bodyPost_ret (v := .agg #[.int .i64 (N1 : Int), .int .i64 (N2 : Int), .slice va vn vc, .int .i64 sx, .string st]) (by simp [results, Tryz.results35, go_sem, d0, d1, d2, d3, d4]) rfl ?_
        have Q5 := HFN.out _ (HK.out.trans Q4.out (fun _ _ h => h))
        have hne : ¬ w.heap.size = p := by omega
        have hle : w.heap.size ≤ w.heap.size ∨ w.heap.size = p := .inl (by omega)
        refine ⟨Keep.set (Keep.set (Keep.set (Keep.set (Keep.set Q5 hle _ _) hle _ _) hle _ _) hle _ _) hle _ _, ⟨N1, N2, acc, (sx, st)⟩, s5, [.int .i64 (N1 : Int), .int .i64 (N2 : Int), .slice va vn vc, .int .i64 sx, .string st], rfl, PY.out (sx, st), rrd_put (rrd_put (rrd_put (rrd_put (rrd_put R4.out _ _ hne) _ _ hne) _ _ hne) _ _ hne) _ _ hne, ?_⟩
        have RB := HO.out.rob (by omega) (show vn * 96 ≤ 140737488355328 by omega)
        have KK : Keep (fun k => k = p ∨ k = q ∨ k = w.heap.size) wr u4 := keep_mono14 Q4.out (fun k h => h.elim .inl (fun h => .inr (.inl h)))
        have hx : ∀ (X : Nat → Prop), wr.heap.size ≤ w.heap.size ∨ (fun k => k = p ∨ k = q ∨ k = w.heap.size) (w.heap.size) := fun _ => .inr (.inr (.inr rfl))
        refine (RB.step (Keep.set (Keep.set (Keep.set (Keep.set (Keep.set KK (hx (fun _ => True)) _ _) (hx (fun _ => True)) _ _) (hx (fun _ => True)) _ _) (hx (fun _ => True)) _ _) (hx (fun _ => True)) _ _) (fun k _ hk => .inl (by omega)) (fun k _ hk => .inl (by omega))).mono fun u hu => change_make I1.out I2.out hu G1.out G2.out
      | false =>
      rw [hb] at y0
      have PC := Lib.hid (fun q sg s3 s4 h1 h2 => pr_certR (s := s') (s3 := s3) (s4 := s4) (q := q) (sg := sg) h1 h2)
      have J1 := Lib.hid (rVal_i64 s' 1 (by decide))
      have J2 := Lib.hid (rVal_i64 (rNext s' 1) 2 (by decide))
      have D1 := Lib.hid (rrnum_got p s' 1 wr HR.out (by decide))
      have D2 := Lib.hid (fun w h => rrnum_got p (rNext s' 1) 2 w h (by decide))
      have D3 := Lib.hid (fun w h => rgetask_any p (rNext (rNext s' 1) 2) w h)
      generalize rNext (rNext s' 1) 2 = t2 at *
      generalize rVal (rNext s' 1) 2 = M2 at *
      generalize rNext s' 1 = t1 at *
      generalize rVal s' 1 = M1 at *
      go_wp2_with fail
      refine D1.out.mono ?_
      rintro e u3 ⟨rfl, hr3, ho3⟩
      have hu3 := ho3.size
      obtain ⟨u4, hw4⟩ : ∃ u, u = u3.alloc (.cells #[.int .i64 (M1 : Int), .int .i64 0, .int .i64 0, .int .i64 0, .int .i64 0, .string ⟨#[]⟩, .float .f64 0, .int .i64 0, .slice none 0 0] 144 (0, 0)) := ⟨_, rfl⟩
      have b4 : Below u3.heap.size u3 u4 := by rw [hw4]; exact below_alloc _ _
      have hu4 : u4.heap.size = u3.heap.size + 1 := by rw [hw4]; simp
      have X4 := Lib.hid (show u4.heap[u3.heap.size]? = some (.cells #[.int .i64 (M1 : Int), .int .i64 0, .int .i64 0, .int .i64 0, .int .i64 0, .string ⟨#[]⟩, .float .f64 0, .int .i64 0, .slice none 0 0] 144 (0, 0)) by rw [hw4]; exact blk_alloc _ _)
      have V4 := Lib.hid (keep_then ho3 (Keep.of_below b4))
      have R4' := Lib.hid (rrd_old hr3 b4)
      have hqc : q < wr.heap.size := blk_lt HC.out
      have DD2 := Lib.hid (D2.out u4 R4'.out)
      clear hr3 ho3 b4 y0 D1 D2
      go_upto_region 7 with (fail)
      rw [← hw4]
      clear hw4
      generalize u3.heap.size = cb at *
      go_wp2_with fail
      refine DD2.out.mono ?_
      rintro e u5 ⟨rfl, hr5, ho5⟩
      have hu5 := ho5.size
      have x5 := (ho5.block _ (blk_lt X4.out) (by omega)).trans X4.out
      obtain ⟨u6, hw6⟩ : ∃ u, u = u5.setCell ⟨cb, 1, none⟩ (.int .i64 (M2 : Int)) := ⟨_, rfl⟩
      have hu6 : u6.heap.size = u5.heap.size := by rw [hw6]; simp [World.setCell]
      have X6 := Lib.hid (show u6.heap[cb]? = some (.cells #[.int .i64 (M1 : Int), .int .i64 (M2 : Int), .int .i64 0, .int .i64 0, .int .i64 0, .string ⟨#[]⟩, .float .f64 0, .int .i64 0, .slice none 0 0] 144 (0, 0)) by rw [hw6, blk_set x5 1 _]; rfl)
      have V6 := Lib.hid (show Keep (fun k => k = p) wr u6 by rw [hw6]; exact (keep_then V4.out ho5).set (.inl (by omega)) _ _)
      have R6 := Lib.hid (show RRd u6 p t2 by rw [hw6]; exact rrd_put hr5 _ _ (by omega))
      have e1 : u5.cell? ⟨cb, 1, none⟩ = some (.int .i64 0) := by rw [blk_cell x5]; rfl
      have e2 : u5.frozen? ⟨cb, 1, none⟩ = false := blk_frozen x5 1
      have DD3 := Lib.hid (D3.out u6 R6.out)
      clear hr5 ho5 x5 DD2 D3 X4 V4
      go_upto_region 8 with (fail)
      rw [← hw6]
      clear hw6 e1 e2
      go_wp2_with fail
      refine DD3.out.mono ?_
      rintro e u7 ⟨ho7, ⟨qc, qs, qk, qt, qb, qi⟩, t3, cs, rfl, hpr, hr7, hE7⟩
      obtain ⟨rfl, hqok⟩ := req_open hE7.self
      have hu7 := ho7.size
      have x7 := (ho7.block _ (blk_lt X6.out) (by omega)).trans X6.out
      obtain ⟨u8, hw8⟩ : ∃ u, u = ((((((u7.setCell ⟨cb, 2, none⟩ (.int .i64 qc)).setCell ⟨cb, 3, none⟩ (.int .i64 qs)).setCell ⟨cb, 4, none⟩ (.int .i64 qk)).setCell ⟨cb, 5, none⟩ (.string qt)).setCell ⟨cb, 6, none⟩ (.float .f64 qb)).setCell ⟨cb, 7, none⟩ (.int .i64 qi)) := ⟨_, rfl⟩
      have hu8 : u8.heap.size = u7.heap.size := by rw [hw8]; simp [World.setCell]
      have X8 := Lib.hid (show u8.heap[cb]? = some (.cells #[.int .i64 (M1 : Int), .int .i64 (M2 : Int), .int .i64 qc, .int .i64 qs, .int .i64 qk, .string qt, .float .f64 qb, .int .i64 qi, .slice none 0 0] 144 (0, 0)) by rw [hw8]; exact (blk_set (blk_set (blk_set (blk_set (blk_set (blk_set x7 2 (.int .i64 qc)) 3 (.int .i64 qs)) 4 (.int .i64 qk)) 5 (.string qt)) 6 (.float .f64 qb)) 7 (.int .i64 qi)).trans (by simp only [List.setIfInBounds_toArray, List.set_cons_succ, List.set_cons_zero]))
      have V8 := Lib.hid (show Keep (fun k => k = p) wr u8 by rw [hw8]; exact (Keep.set (Keep.set (Keep.set (Keep.set (Keep.set (Keep.set (keep_then V6.out ho7) (.inl (by omega)) 2 (.int .i64 qc)) (.inl (by omega)) 3 (.int .i64 qs)) (.inl (by omega)) 4 (.int .i64 qk)) (.inl (by omega)) 5 (.string qt)) (.inl (by omega)) 6 (.float .f64 qb)) (.inl (by omega)) 7 (.int .i64 qi)))
      have R8 := Lib.hid (show RRd u8 p t3 by rw [hw8]; exact (rrd_put (rrd_put (rrd_put (rrd_put (rrd_put (rrd_put hr7 2 (.int .i64 qc) (by omega)) 3 (.int .i64 qs) (by omega)) 4 (.int .i64 qk) (by omega)) 5 (.string qt) (by omega)) 6 (.float .f64 qb) (by omega)) 7 (.int .i64 qi) (by omega)))
      have e2 : u7.cell? ⟨cb, 2, none⟩ = some (.int .i64 0) := by rw [blk_cell x7]; rfl
      have f2 : u7.frozen? ⟨cb, 2, none⟩ = false := blk_frozen x7 2
      have e3 : u7.cell? ⟨cb, 3, none⟩ = some (.int .i64 0) := by rw [blk_cell x7]; rfl
      have f3 : u7.frozen? ⟨cb, 3, none⟩ = false := blk_frozen x7 3
      have e4 : u7.cell? ⟨cb, 4, none⟩ = some (.int .i64 0) := by rw [blk_cell x7]; rfl
      have f4 : u7.frozen? ⟨cb, 4, none⟩ = false := blk_frozen x7 4
      have e5 : u7.cell? ⟨cb, 5, none⟩ = some (.string ⟨#[]⟩) := by rw [blk_cell x7]; rfl
      have f5 : u7.frozen? ⟨cb, 5, none⟩ = false := blk_frozen x7 5
      have e6 : u7.cell? ⟨cb, 6, none⟩ = some (.float .f64 0) := by rw [blk_cell x7]; rfl
      have f6 : u7.frozen? ⟨cb, 6, none⟩ = false := blk_frozen x7 6
      have e7 : u7.cell? ⟨cb, 7, none⟩ = some (.int .i64 0) := by rw [blk_cell x7]; rfl
      have f7 : u7.frozen? ⟨cb, 7, none⟩ = false := blk_frozen x7 7
      have HQOK := Lib.hid hqok
      have HPR := Lib.hid hpr
      have DD4 := Lib.hid (rgetsigs_any p t3 u8 R8.out)
      clear hr7 ho7 x7 hE7 hqok hpr DD3 X6 V6
      simp only [Rq.cs, aggF]
      go_upto_region 9 with (fail)
      rw [← hw8]
      clear hw8 e2 e3 e4 e5 e6 e7 f2 f3 f4 f5 f6 f7
      go_wp2_with fail
      refine DD4.out.mono ?_
      rintro e u9 ⟨ho9, sg, t4, cs, rfl, hps, hr9, hE9⟩
      obtain ⟨sa, sn, sc, rfl, hS9⟩ := rob_slice hE9
      have hu9 := ho9.size
      have x9 := (ho9.block _ (blk_lt X8.out) (by omega)).trans X8.out
      obtain ⟨u10, hw10⟩ : ∃ u, u = u9.setCell ⟨cb, 8, none⟩ (.slice sa sn sc) := ⟨_, rfl⟩
      have hu10 : u10.heap.size = u9.heap.size := by rw [hw10]; simp [World.setCell]
      have X10 := Lib.hid (show u10.heap[cb]? = some (.cells #[.int .i64 (M1 : Int), .int .i64 (M2 : Int), .int .i64 qc, .int .i64 qs, .int .i64 qk, .string qt, .float .f64 qb, .int .i64 qi, .slice sa sn sc] 144 (0, 0)) by rw [hw10]; exact (blk_set x9 8 _).trans (by simp only [List.setIfInBounds_toArray, List.set_cons_succ, List.set_cons_zero]))
      have V10 := Lib.hid (show Keep (fun k => k = p) wr u10 by rw [hw10]; exact Keep.set (keep_then V8.out ho9) (.inl (by omega)) _ _)
      have R10 := Lib.hid (show RRd u10 p t4 by rw [hw10]; exact rrd_put hr9 _ _ (by omega))
      have S10 := Lib.hid (show Rob (fun k => k < u8.heap.size ∨ u9.heap.size ≤ k) (fun u => SlAt shSig u sa sn sc sg) u10 by rw [hw10]; exact hS9.step (Keep.set (Keep.refl (fun k => k = cb) u9) (.inr rfl) 8 (.slice sa sn sc)) (fun k _ hk => by omega) (fun k _ hk => by omega))
      have g1 : u9.cell? ⟨cb, 8, none⟩ = some (.slice none 0 0) := by rw [blk_cell x9]; rfl
      have g2 : u9.frozen? ⟨cb, 8, none⟩ = false := blk_frozen x9 8
      have HPY := Lib.hid (PC.out _ _ _ _ HPR.out hps)
      clear hr9 ho9 x9 hE9 hps hS9 DD4 X8 V8 R8 HPR
      simp only [oneF, List.headD_cons]
      go_upto_region 10 with (fail)
      rw [← hw10]
      clear hw10 g1 g2
      obtain ⟨xs, M, o1, o2, o3, o4⟩ := HO.out
      obtain rfl : vn = k := by omega
      clear hvn
      rw [hacc] at o1
      have HO10 := Lib.hid (owns_keep o1 V10.out (fun k hk hc => by have := (o1.lt k hk).1; omega))
      have HR10 := Lib.hid (o2.step (X' := fun k => ¬ M k) V10.out (fun k _ hc hm => by have := (o3 k hm).1; omega) (fun _ _ h => h))
      have kc10 := (V10.out.block _ hqc (by omega)).trans HC.out
      have z2 : u10.cell? ⟨q, 2, none⟩ = some (.slice va vn vc) := by rw [blk_cell kc10]; rfl
      have x0 : u10.cell? ⟨cb, 0, none⟩ = some (.int .i64 (M1 : Int)) := by rw [blk_cell X10.out]; rfl
      have x1 : u10.cell? ⟨cb, 1, none⟩ = some (.int .i64 (M2 : Int)) := by rw [blk_cell X10.out]; rfl
      have x2 : u10.cell? ⟨cb, 2, none⟩ = some (.int .i64 qc) := by rw [blk_cell X10.out]; rfl
      have x3 : u10.cell? ⟨cb, 3, none⟩ = some (.int .i64 qs) := by rw [blk_cell X10.out]; rfl
      have x4 : u10.cell? ⟨cb, 4, none⟩ = some (.int .i64 qk) := by rw [blk_cell X10.out]; rfl
      have x5 : u10.cell? ⟨cb, 5, none⟩ = some (.string qt) := by rw [blk_cell X10.out]; rfl
      have x6 : u10.cell? ⟨cb, 6, none⟩ = some (.float .f64 qb) := by rw [blk_cell X10.out]; rfl
      have x7 : u10.cell? ⟨cb, 7, none⟩ = some (.int .i64 qi) := by rw [blk_cell X10.out]; rfl
      have x8 : u10.cell? ⟨cb, 8, none⟩ = some (.slice sa sn sc) := by rw [blk_cell X10.out]; rfl
      obtain ⟨u11, hw11⟩ : ∃ u, u = u10.alloc (.cells #[.int .i64 (M1 : Int), .int .i64 (M2 : Int), .int .i64 qc, .int .i64 qs, .int .i64 qk, .string qt, .float .f64 qb, .int .i64 qi, .slice sa sn sc] 144 (0, 0)) := ⟨_, rfl⟩
      have b11 : Below u10.heap.size u10 u11 := by rw [hw11]; exact below_alloc _ _
      have hu11 : u11.heap.size = u10.heap.size + 1 := by rw [hw11]; simp
      have k11 : u11.heap[u9.heap.size]? = some (.cells #[.int .i64 (M1 : Int), .int .i64 (M2 : Int), .int .i64 qc, .int .i64 qs, .int .i64 qk, .string qt, .float .f64 qb, .int .i64 qi, .slice sa sn sc] 144 (0, 0)) := by rw [hw11, ← hu10]; exact blk_alloc _ _
      have HO11 := Lib.hid (owns_old HO10.out b11)
      have HR11 := Lib.hid (HR10.out.step (X' := fun k => ¬ M k) (Keep.of_below (X := fun _ => False) b11) (fun _ _ h => h.elim) (fun _ _ h => h))
      have R11 := Lib.hid (rrd_old R10.out b11)
      have S11 := Lib.hid (S10.out.step (X' := fun k => k < u8.heap.size ∨ u9.heap.size ≤ k) (Keep.of_below (X := fun _ => False) b11) (fun _ _ h => h.elim) (fun _ _ h => h))
      have KC11 := Lib.hid (blk_below kc10 b11)
      have V11 := Lib.hid (keep_then V10.out (Keep.of_below b11))
      have hnews : ∀ ad, some (⟨u9.heap.size, 0, none⟩ : Addr) = some ad → ∀ j u, ([.int .i64 (M1 : Int), .int .i64 (M2 : Int), .int .i64 qc, .int .i64 qs, .int .i64 qk, .string qt, .float .f64 qb, .int .i64 qi, .slice sa sn sc] : List Value)[j]? = some u → u11.cell? (ad.add j) = some u := fun ad had j u hj => by
        injection had with had
        subst had
        rw [Addr.add_lit, blk_cell k11, ← hj]
        simp
      have HNW := Lib.hid hnews
      have hm1 : vn + 1 ≤ maxLen := by unfold maxLen; omega
      have hm2 : (vn + 1) * 96 ≤ 140737488355328 := by omega
      have hB11 : q + 1 ≤ u11.heap.size := by omega
      have HO3 := Lib.hid o3; have HO4 := Lib.hid o4
      have HOL := Lib.hid (fun k hk => (o1.lt k hk))
      have hsub : IntKind.i64.wrap ((N3 : Int) - (vn : Int) - 1) = (N3 : Int) - ((vn + 1 : Nat) : Int) := by rw [IntWalk.i64_in _ (by omega)]; omega
      clear b11 k11 kc10 hnews o1 o2 o3 o4 HO HO10 HR10 S10 R10 V10
      go_wp2_with (first | (at_builtin; rw [← hw11]; clear hw11; refine wpList_append_any_at _ rfl (.tmp 38) (.tmp 40) 82 rfl (q + 1) 144 ii (.agg #[.int .i64 0, .int .i64 0, .int .i64 0, .int .i64 0, .int .i64 0, .string ⟨#[]⟩, .float .f64 0, .int .i64 0, .slice none 0 0]) 9 96 Tryz.underlying82 hi hz0 hz1 hz2 rfl (by decide) (.slice va vn vc) vn xs rfl HO11.out (some ⟨u9.heap.size, 0, none⟩) 1 1 [.int .i64 (M1 : Int), .int .i64 (M2 : Int), .int .i64 qc, .int .i64 qs, .int .i64 qk, .string qt, .float .f64 qb, .int .i64 qi, .slice sa sn sc] rfl rfl (by simp) HNW.out (by simp [Value.oneCell']) hm1 hm2 hB11 ?_) | fail)
      intro v' w8 ho8 hg8 hor8
      obtain ⟨a8, c8, rfl⟩ := owns_form ho8
      have hqo : (Value.slice va vn vc).ownBlock ≠ some q := fun hc => by have := (HOL.out q hc).1; omega
      have hpo : (Value.slice va vn vc).ownBlock ≠ some p := fun hc => by have := (HOL.out p hc).1; omega
      have kc12 := (hg8.block q (blk_lt KC11.out) (fun hc => hqo hc.symm)).trans KC11.out
      have R12 := rrd_same R11.out (hg8.block p (by omega) (fun hc => hpo hc.symm))
      have RI := RowIn.snoc (S := shCert) (B := q + 1) (E0 := u8.heap.size) (E1 := u9.heap.size) (y := (⟨M1, M2, ⟨qc, qs, qk, qt, qb, qi⟩, sg⟩ : Ce)) (cs := [.int .i64 (M1 : Int), .int .i64 (M2 : Int), .int .i64 qc, .int .i64 qs, .int .i64 qk, .string qt, .float .f64 qb, .int .i64 qi, .slice sa sn sc]) (by rw [hacc]; exact HO11.out) HR11.out (fun k hk => ⟨(HO3.out k hk).1, by have := (HO3.out k hk).2; omega⟩) (fun k hk => ⟨HO4.out k hk, by have := (HOL.out k hk).2; omega⟩) rfl (S11.out.mono fun u hu => cert_make J1.out J2.out HQOK.out hu) (by omega) (by omega) (by rw [hacc]; exact ho8) hg8 (by rw [hu11, hu10]; exact hor8)
      have V12 : Keep (fun k => k = p ∨ k = q) w4 w8 := HK.out.trans (Keep.grown (keep_mono14 (Y := fun k => k = p ∨ (Value.slice va vn vc).ownBlock = some k) V11.out (fun k h => .inl h)) hg8 (fun k hk => .inr (.inr hk))) (fun k hk h => h.elim .inl (fun h => by have := (HOL.out k h).1; omega))
      have m8 : w8.cell? ⟨q, 2, none⟩ = some (.slice va vn vc) := by rw [blk_cell kc12]; rfl
      have m9 : w8.frozen? ⟨q, 2, none⟩ = false := blk_frozen kc12 2
      have FC := Lib.hid (show (w8.setCell ⟨q, 2, none⟩ (.slice a8 (vn + 1) c8)).heap[q]? = some (.cells #[.int .i64 (N1 : Int), .int .i64 (N2 : Int), .slice a8 (vn + 1) c8, .int .i64 0, .string ⟨#[]⟩] 86 (0, 0)) by rw [blk_set kc12 2 _]; rfl)
      have FK := Lib.hid (V12.set (.inr (.inr rfl)) 2 (.slice a8 (vn + 1) c8))
      have FR := Lib.hid (rrd_put R12 2 (.slice a8 (vn + 1) c8) (q := q) (by omega))
      have FI := Lib.hid (RI.keep (Keep.set (Keep.refl (fun k => k = q) w8) (.inr rfl) 2 (.slice a8 (vn + 1) c8)) (fun k hk => by omega))
      have FP := Lib.hid (HP.out.snoc HPY.out)
      have lq8 := blk_lt kc12
      clear kc12 R12 RI V12 ho8 hg8 hor8 HO11 HR11 R11 S11 KC11 V11 HNW hqo hpo HOL HO3 HO4 x0 x1 x2 x3 x4 x5 x6 x7 x8 z2 X10 HPY HP HK HC
      go_wp2_with fail
      go_roundw
      case rel => exact ⟨vn + 1, _, t4, _, by omega, by first | rfl | go_num | omega, by simp [hacc], FP, FR, FI, FC, FK⟩
      case measure => simp [intOf]; omega
    · have hd : decide ((0 : Int) < (N3 : Int) - (k : Int)) = false := by simp; omega
      obtain rfl : k = N3 := by omega
      obtain rfl : vn = k := by omega
      clear hvn
      have D1 := Lib.hid (rrnum_got p s' 1 wr HR.out (by decide))
      have D2 := Lib.hid (fun u h => rrtext_got p (rNext s' 1) u h)
      have HSS := Lib.hid ((HK.out.block _ (blk_lt KS.out) (by omega)).trans KS.out)
      have G1 := Lib.hid (sgV_i64 s'); have G2 := Lib.hid (sgV_len s')
      have HV := Lib.hid (show sgV s' = (((rVal s' 1 : Nat) : Int), (⟨(tVal (rNext s' 1)).toArray⟩ : ByteArray)) from rfl)
      have HN5 := Lib.hid (show sgN s' = tNext (rNext s' 1) from rfl)
      have PY := Lib.hid (PS.out acc s' HP.out)
      generalize sgV s' = V at *
      generalize sgN s' = s5 at *
      obtain ⟨sx, st⟩ := V
      obtain ⟨hx, ht⟩ := Prod.mk.inj HV.out
      rw [← hx] at D1
      have HN5' := HN5.out
      simp only [← ht, ← HN5'] at D2
      clear HV HN5 HN5' hx ht
      go_wp2_with fail
      refine D1.out.mono ?_
      rintro e u2 ⟨rfl, hr2, ho2⟩
      have hpw : q < wr.heap.size := blk_lt HC.out
      have kc2 := (ho2.block _ hpw (by omega)).trans HC.out
      have ks2 := (ho2.block _ (blk_lt HSS.out) (by omega)).trans HSS.out
      obtain ⟨u3, hw3⟩ : ∃ u, u = u2.setCell ⟨q, 3, none⟩ (.int .i64 sx) := ⟨_, rfl⟩
      have KC3 := Lib.hid (show u3.heap[q]? = some (.cells #[.int .i64 (N1 : Int), .int .i64 (N2 : Int), .slice va vn vc, .int .i64 sx, .string ⟨#[]⟩] 86 (0, 0)) by rw [hw3]; exact (blk_set kc2 3 (.int .i64 sx)).trans (by simp only [List.setIfInBounds_toArray, List.set_cons_succ, List.set_cons_zero]))
      have KS3 := Lib.hid (show u3.heap[w.heap.size]? = some (.cells #[.int .i64 0, .int .i64 0, .slice none 0 0, .int .i64 0, .string ⟨#[]⟩] 86 (0, 0)) by rw [hw3]; exact blk_set_other ks2 q 3 _ (by omega))
      have Q3 := Lib.hid (show Keep (fun k => k = p ∨ k = q) wr u3 by rw [hw3]; exact Keep.set (keep_mono14 (Y := fun k => k = p ∨ k = q) ho2 (fun k h => .inl h)) (.inr (.inr rfl)) 3 (.int .i64 sx))
      have R3' := Lib.hid (show RRd u3 p _ by rw [hw3]; exact rrd_put hr2 3 (.int .i64 sx) (by omega))
      have e3 : u2.cell? ⟨q, 3, none⟩ = some (.int .i64 0) := by rw [blk_cell kc2]; rfl
      have z3 : u2.frozen? ⟨q, 3, none⟩ = false := blk_frozen kc2 3
      have DD2 := Lib.hid (D2.out u3 R3'.out)
      clear hr2 ho2 kc2 ks2 D1 D2
      go_upto_region 12 with (fail)
      rw [← hw3]
      clear hw3 e3 z3
      go_wp2_with fail
      refine DD2.out.mono ?_
      rintro e u5 ⟨rfl, hr5, ho5⟩
      have kc3 := (ho5.block _ (blk_lt KC3.out) (by omega)).trans KC3.out
      have ks3 := (ho5.block _ (blk_lt KS3.out) (by omega)).trans KS3.out
      obtain ⟨u4, hw4⟩ : ∃ u, u = u5.setCell ⟨q, 4, none⟩ (.string st) := ⟨_, rfl⟩
      have KC4 := Lib.hid (show u4.heap[q]? = some (.cells #[.int .i64 (N1 : Int), .int .i64 (N2 : Int), .slice va vn vc, .int .i64 sx, .string st] 86 (0, 0)) by rw [hw4]; exact (blk_set kc3 4 (.string st)).trans (by simp only [List.setIfInBounds_toArray, List.set_cons_succ, List.set_cons_zero]))
      have KS4 := Lib.hid (show u4.heap[w.heap.size]? = some (.cells #[.int .i64 0, .int .i64 0, .slice none 0 0, .int .i64 0, .string ⟨#[]⟩] 86 (0, 0)) by rw [hw4]; exact blk_set_other ks3 q 4 _ (by omega))
      have Q4 := Lib.hid (show Keep (fun k => k = p ∨ k = q) wr u4 by rw [hw4]; exact Keep.set (Q3.out.trans (keep_mono14 (Y := fun k => k = p ∨ k = q) ho5 (fun k h => .inl h)) (fun _ _ h => h)) (.inr (.inr rfl)) 4 (.string st))
      have R4 := Lib.hid (show RRd u4 p s5 by rw [hw4]; exact rrd_put hr5 4 (.string st) (by omega))
      have e4 : u5.cell? ⟨q, 4, none⟩ = some (.string ⟨#[]⟩) := by rw [blk_cell kc3]; rfl
      have z4 : u5.frozen? ⟨q, 4, none⟩ = false := blk_frozen kc3 4
      clear hr5 ho5 kc3 ks3 DD2 KC3 KS3 Q3 R3'
      go_upto_region 13 with (fail)
      rw [← hw4]
      clear hw4 e4 z4
      have c0 : u4.cell? ⟨q, 0, none⟩ = some (.int .i64 (N1 : Int)) := by rw [blk_cell KC4.out]; rfl
      have c1 : u4.cell? ⟨q, 1, none⟩ = some (.int .i64 (N2 : Int)) := by rw [blk_cell KC4.out]; rfl
      have c2 : u4.cell? ⟨q, 2, none⟩ = some (.slice va vn vc) := by rw [blk_cell KC4.out]; rfl
      have c3 : u4.cell? ⟨q, 3, none⟩ = some (.int .i64 sx) := by rw [blk_cell KC4.out]; rfl
      have c4 : u4.cell? ⟨q, 4, none⟩ = some (.string st) := by rw [blk_cell KC4.out]; rfl
      have d0 : u4.cell? ⟨w.heap.size, 0, none⟩ = some (.int .i64 0) := by rw [blk_cell KS4.out]; rfl
      have d1 : u4.cell? ⟨w.heap.size, 1, none⟩ = some (.int .i64 0) := by rw [blk_cell KS4.out]; rfl
      have d2 : u4.cell? ⟨w.heap.size, 2, none⟩ = some (.slice none 0 0) := by rw [blk_cell KS4.out]; rfl
      have d3 : u4.cell? ⟨w.heap.size, 3, none⟩ = some (.int .i64 0) := by rw [blk_cell KS4.out]; rfl
      have d4 : u4.cell? ⟨w.heap.size, 4, none⟩ = some (.string ⟨#[]⟩) := by rw [blk_cell KS4.out]; rfl
      have zz : ∀ o, u4.frozen? ⟨w.heap.size, o, none⟩ = false := fun o => blk_frozen KS4.out o
      go_wp2_with fail
      refine bodyPost_ret (v := .agg #[.int .i64 (N1 : Int), .int .i64 (N2 : Int), .slice va vn vc, .int .i64 sx, .string st]) (by simp [results, Tryz.results35, go_sem, d0, d1, d2, d3, d4]) rfl ?_
      have Q5 := HFN.out _ (HK.out.trans Q4.out (fun _ _ h => h))
      have hne : ¬ w.heap.size = p := by omega
      have hle : w.heap.size ≤ w.heap.size ∨ w.heap.size = p := .inl (by omega)
      refine ⟨Keep.set (Keep.set (Keep.set (Keep.set (Keep.set Q5 hle _ _) hle _ _) hle _ _) hle _ _) hle _ _, ⟨N1, N2, acc, (sx, st)⟩, s5, [.int .i64 (N1 : Int), .int .i64 (N2 : Int), .slice va vn vc, .int .i64 sx, .string st], rfl, PY.out, rrd_put (rrd_put (rrd_put (rrd_put (rrd_put R4.out _ _ hne) _ _ hne) _ _ hne) _ _ hne) _ _ hne, ?_⟩
      have RB := HO.out.rob (by omega) (show vn * 96 ≤ 140737488355328 by omega)
      have KK : Keep (fun k => k = p ∨ k = q ∨ k = w.heap.size) wr u4 := keep_mono14 Q4.out (fun k h => h.elim .inl (fun h => .inr (.inl h)))
      have hx : ∀ (X : Nat → Prop), wr.heap.size ≤ w.heap.size ∨ (fun k => k = p ∨ k = q ∨ k = w.heap.size) (w.heap.size) := fun _ => .inr (.inr (.inr rfl))
      refine (RB.step (Keep.set (Keep.set (Keep.set (Keep.set (Keep.set KK (hx (fun _ => True)) _ _) (hx (fun _ => True)) _ _) (hx (fun _ => True)) _ _) (hx (fun _ => True)) _ _) (hx (fun _ => True)) _ _) (fun k _ hk => .inl (by omega)) (fun k _ hk => .inl (by omega))).mono fun u hu => change_make I1.out I2.out hu G1.out G2.out
end Go.Proofs.YtijeieamodjgbaaGreat
