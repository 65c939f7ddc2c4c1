
/- The reference's Read: the same spec as the program's. -/
import Derived.Test.YtnmhmbfhaiaaoaaDr3
import Derived.Test.YtnmhmbfhaiaaoaaDq
import Derived.Test.YtnmhmbfhaiaaoaaDv
namespace Go.Proofs.Ytnmhmbfhaiaaoaa
set_option maxRecDepth 100000
open Go.RowKit
set_option linter.unusedVariables false
set_option linter.unusedSimpArgs false
attribute [local go_sem] run_store_float

structure RSt (n : Nat) (w0 w : World) (q : Nat) (X : Array Value) (s : R) : Prop where
  rd : RRd w (n + 1) s
  res : w.heap[n]? = some (.cells #[.int .i64 0, .int .i64 0, .int .i64 0, .string ⟨#[]⟩, .float .f64 0, .int .i64 0] 30 (0, 0))
  box : w.heap[q]? = some (.cells X 30 (0, 0))
  lt : n + 1 < q
  n0 : n = w0.heap.size
  bl : Below n w0 w
theorem RSt.call {n : Nat} {w0 w w' : World} {q : Nat} {X : Array Value} {s s' : R} (h : RSt n w0 w q X s) (hr : RRd w' (n + 1) s') (o : Only (n + 1) none w w') : RSt n w0 w' q X s' := by
  have hn := h.n0
  subst hn
  exact ⟨hr, by rw [o.block _ (blk_lt h.res) (by omega) (by simp)]; exact h.res, by rw [o.block _ (blk_lt h.box) (by have := h.lt; omega) (by simp)]; exact h.box, h.lt, rfl, Only.below h.bl o (by omega) (fun k hk => by cases hk)⟩
theorem RSt.set {n : Nat} {w0 w : World} {q : Nat} {X : Array Value} {s : R} (h : RSt n w0 w q X s) (i : Nat) (v : Value) : RSt n w0 (w.setCell ⟨q, i, none⟩ v) q (X.setIfInBounds i v) s :=
  ⟨rrd_keeps _ _ _ _ (Below.heap_setCell _ _ _ _ (by show n + 1 ≠ q; have := h.lt; omega)) h.rd, blk_set_other h.res q i v (by have := h.lt; omega), blk_set h.box i v, h.lt, h.n0, h.bl.setCell (p := ⟨q, i, none⟩) (show n ≤ q by have := h.lt; omega) v⟩

set_option maxHeartbeats 2000000 in
theorem rread_any (text : ByteArray) (w : World) (hts : text.size ≤ 140737488351232) :
    Calls Try.prog 22 #[.string text] w fun e w' => e = .returned (.tuple #[(readRq text.data.toList).v, .int .i64 (readErr text.data.toList)]) ∧ Below w.heap.size w w' := by
  obtain ⟨t, ht⟩ : ∃ t, t = text.data.toList := ⟨_, rfl⟩
  rw [← ht]
  have Ht := Lib.hid ht
  obtain ⟨RV, hRV⟩ : ∃ z, z = (readRq t).v := ⟨_, rfl⟩
  obtain ⟨RE, hRE⟩ : ∃ z, z = readErr t := ⟨_, rfl⟩
  rw [← hRV, ← hRE]
  have HV := Lib.hid hRV; have HE := Lib.hid hRE
  have hsz : (w.alloc (.cells #[.int .i64 0, .int .i64 0, .int .i64 0, .string ⟨#[]⟩, .float .f64 0, .int .i64 0] 30 (0, 0))).heap.size = w.heap.size + 1 := by simp
  by_cases hz : t = [0]
  · have hno : rdOk t = false := by rw [hz]; exact rdOk_no (by rw [zero_bad]; omega)
    have HX := Lib.hid (show RV = zeroRq.v ∧ RE = 0 from ⟨by rw [HV.out, readRq_no hno], by rw [HE.out, readErr_nil hz]⟩)
    have hq : (text.toList == [0]) = true := by
      rw [ByteArray.toList_eq, ← ht, hz]; rfl
    have B1 := Lib.hid (below_alloc w (.cells #[.int .i64 0, .int .i64 0, .int .i64 0, .string ⟨#[]⟩, .float .f64 0, .int .i64 0] 30 (0, 0)))
    have k0 := blk_alloc w (.cells #[.int .i64 0, .int .i64 0, .int .i64 0, .string ⟨#[]⟩, .float .f64 0, .int .i64 0] 30 (0, 0))
    obtain ⟨x0, x1, x2, x3, x4, x5⟩ := rqAt_blk k0
    have f0 := blk_frozen k0 0; have f1 := blk_frozen k0 1; have f2 := blk_frozen k0 2; have f3 := blk_frozen k0 3; have f4 := blk_frozen k0 4; have f5 := blk_frozen k0 5
    clear hz hno hRV hRE HV HE ht Ht hsz hts k0
    go_enter Try.func22, Try.ntmps22
    go_upto_region 1 with (fail)
    generalize (w.alloc (.cells #[.int .i64 0, .int .i64 0, .int .i64 0, .string ⟨#[]⟩, .float .f64 0, .int .i64 0] 30 (0, 0))) = wa at *
    go_wp2_with fail
    refine bodyPost_ret (v := .tuple #[zeroRq.v, .int .i64 0]) (by simp [results, Try.results22, go_sem, x0, x1, x2, x3, x4, x5, zeroRq, Rq.v]) rfl ⟨by rw [HX.out.1, HX.out.2], ?_⟩
    exact (((((B1.out.setCell (Nat.le_refl _) _).setCell (Nat.le_refl _) _).setCell (Nat.le_refl _) _).setCell (Nat.le_refl _) _).setCell (Nat.le_refl _) _).setCell (Nat.le_refl _) _
  have hq : (text.toList == [0]) = false := by
    rw [ByteArray.toList_eq, ← ht]; simpa using hz
  have HOK := Lib.hid (show rdOk t = (decide (endE (q7 t) = 0) && decide (qHead t = 1) && fromOk (qReal t) && (rdRq t).right) from rfl)
  have HQ := Lib.hid (show rdRq t = ⟨rVal (q1 t) 1, rVal (q2 t) 4, rVal (q3 t) 1, ⟨(tVal (q4 t)).toArray⟩, fromV (qReal t), rVal (q6 t) 1⟩ from rfl)
  have HNO := Lib.hid (show rdOk t = false → RV = zeroRq.v ∧ RE = 5 from fun hno => ⟨by rw [HV.out, readRq_no hno], by rw [HE.out, readErr_no hno hz]⟩)
  have HYES := Lib.hid (show rdOk t = true → RV = (rdRq t).v ∧ RE = 0 from fun h => ⟨by rw [HV.out, readRq, if_pos h], by rw [HE.out, readErr, if_pos h]⟩)
  have CF := Lib.hid (fun w => from02_any (qReal t) (real_lt t) w)
  obtain ⟨rt, hrt⟩ : ∃ z, z = (rdRq t).right := ⟨_, rfl⟩
  have CR := fun w => rright_rq (rdRq t) (rdRq_ok t) w
  rw [← hrt] at CR HOK
  rw [HQ.out] at CR HYES
  unfold Rq.v at CR HYES
  dsimp only at CR HYES
  have CR := Lib.hid CR
  clear hrt hRV hRE HV HE hz HQ
  have Hr1 := Lib.hid (show RRd ((w.alloc (.cells #[.int .i64 0, .int .i64 0, .int .i64 0, .string ⟨#[]⟩, .float .f64 0, .int .i64 0] 30 (0, 0))).alloc (.cells #[.string text, .bool false] 84 (0, 0))) (w.heap.size + 1) ⟨t, false⟩ from
    ⟨text, by rw [← hsz]; exact blk_alloc _ _, Ht.out.symm, hts⟩)
  have Res1 := Lib.hid (blk_below (blk_alloc w (.cells #[.int .i64 0, .int .i64 0, .int .i64 0, .string ⟨#[]⟩, .float .f64 0, .int .i64 0] 30 (0, 0))) (below_alloc _ (.cells #[.string text, .bool false] 84 (0, 0))))
  have B1 := Lib.hid (balloc (below_alloc w (.cells #[.int .i64 0, .int .i64 0, .int .i64 0, .string ⟨#[]⟩, .float .f64 0, .int .i64 0] 30 (0, 0))) (.cells #[.string text, .bool false] 84 (0, 0)))
  clear hts hsz ht Ht
  go_enter Try.func22, Try.ntmps22
  go_wp2_with fail
  generalize hw1 : (w.alloc (.cells #[.int .i64 0, .int .i64 0, .int .i64 0, .string ⟨#[]⟩, .float .f64 0, .int .i64 0] 30 (0, 0))).alloc (.cells #[.string text, .bool false] 84 (0, 0)) = w1 at *
  clear hw1
  refine (rrnum_any _ _ 1 _ Hr1.out (by omega)).mono ?_
  rintro e' w2 ⟨rfl, hr2, o2⟩
  have hr2' : RRd w2 (w.heap.size + 1) (q1 t) := hr2
  have Res2 := Lib.hid (show w2.heap[w.heap.size]? = some (.cells #[.int .i64 0, .int .i64 0, .int .i64 0, .string ⟨#[]⟩, .float .f64 0, .int .i64 0] 30 (0, 0)) by
    rw [o2.block _ (blk_lt Res1.out) (by omega) (by simp)]; exact Res1.out)
  have B2 := Lib.hid (Only.below B1.out o2 (by omega) (fun k hk => by cases hk))
  have Hr2 := Lib.hid hr2'
  have hqh : rVal (⟨t, false⟩ : R) 1 = qHead t := rfl
  rw [hqh]
  generalize hhd : qHead t = hd at *
  clear hr2 hr2' o2 Hr1 Res1 B1 hqh hhd
  go_wp2_with fail
  refine (rrnum_any _ _ 1 _ Hr2.out (by omega)).mono ?_
  rintro e' w3 ⟨rfl, hr3, o3⟩
  have hr3' : RRd w3 (w.heap.size + 1) (q2 t) := hr3
  have l3 := rrd_lt hr3'
  have res3 : w3.heap[w.heap.size]? = some (.cells #[.int .i64 0, .int .i64 0, .int .i64 0, .string ⟨#[]⟩, .float .f64 0, .int .i64 0] 30 (0, 0)) := by
    rw [o3.block _ (blk_lt Res2.out) (by omega) (by simp)]; exact Res2.out
  have b3 := Only.below B2.out o3 (by omega) (fun k hk => by cases hk)
  have S4 := Lib.hid (show RSt w.heap.size w (w3.alloc (.cells #[.int .i64 (rVal (q1 t) 1), .int .i64 0, .int .i64 0, .string ⟨#[]⟩, .float .f64 0, .int .i64 0] 30 (0, 0))) w3.heap.size #[.int .i64 (rVal (q1 t) 1), .int .i64 0, .int .i64 0, .string ⟨#[]⟩, .float .f64 0, .int .i64 0] (q2 t) from
    ⟨rrd_keeps _ _ _ _ (Below.heap_alloc _ _ _ l3) hr3', blk_below res3 (below_alloc _ _), blk_alloc _ _, l3, rfl, balloc b3 _⟩)
  clear hr3 hr3' o3 l3 res3 b3 Hr2 Res2 B2
  generalize hn1 : rVal (q1 t) 1 = n1 at *
  clear hn1
  go_wp2_with fail
  generalize hq : w3.heap.size = q at *
  generalize hw4 : w3.alloc (.cells #[.int .i64 n1, .int .i64 0, .int .i64 0, .string ⟨#[]⟩, .float .f64 0, .int .i64 0] 30 (0, 0)) = w4 at *
  clear hw4 hq w3
  -- Stamp
  refine (rrnum_any _ _ 4 _ S4.out.rd (by omega)).mono ?_
  rintro e' w5 ⟨rfl, hr5, o5⟩
  have S5 := Lib.hid (show RSt w.heap.size w w5 q _ (q3 t) from S4.out.call hr5 o5)
  clear hr5 o5 S4
  generalize hn2 : rVal (q2 t) 4 = n2 at *
  clear hn2
  have z : w5.cell? ⟨q, 1, none⟩ = some (.int .i64 0) := by rw [blk_cell S5.out.box]; rfl
  have g : w5.frozen? ⟨q, 1, none⟩ = false := blk_frozen S5.out.box 1
  have S6 := Lib.hid (show RSt w.heap.size w (w5.setCell ⟨q, 1, none⟩ (.int .i64 n2)) q #[.int .i64 n1, .int .i64 n2, .int .i64 0, .string ⟨#[]⟩, .float .f64 0, .int .i64 0] (q3 t) from S5.out.set 1 (.int .i64 n2))
  clear S5
  go_wp2_with fail
  clear z g
  generalize hw6 : w5.setCell ⟨q, 1, none⟩ (.int .i64 n2) = w6 at *
  clear hw6 w5
  -- Kind
  refine (rrnum_any _ _ 1 _ S6.out.rd (by omega)).mono ?_
  rintro e' w7 ⟨rfl, hr7, o7⟩
  have S7 := Lib.hid (show RSt w.heap.size w w7 q _ (q4 t) from S6.out.call hr7 o7)
  clear hr7 o7 S6
  generalize hn3 : rVal (q3 t) 1 = n3 at *
  clear hn3
  have z : w7.cell? ⟨q, 2, none⟩ = some (.int .i64 0) := by rw [blk_cell S7.out.box]; rfl
  have g : w7.frozen? ⟨q, 2, none⟩ = false := blk_frozen S7.out.box 2
  have S8 := Lib.hid (show RSt w.heap.size w (w7.setCell ⟨q, 2, none⟩ (.int .i64 n3)) q #[.int .i64 n1, .int .i64 n2, .int .i64 n3, .string ⟨#[]⟩, .float .f64 0, .int .i64 0] (q4 t) from S7.out.set 2 (.int .i64 n3))
  clear S7
  go_wp2_with fail
  clear z g
  generalize hw8 : w7.setCell ⟨q, 2, none⟩ (.int .i64 n3) = w8 at *
  clear hw8 w7
  -- Key
  refine (rrtext_any _ _ _ S8.out.rd).mono ?_
  rintro e' w9 ⟨rfl, hr9, o9⟩
  have S9 := Lib.hid (show RSt w.heap.size w w9 q _ (q5 t) from S8.out.call hr9 o9)
  clear hr9 o9 S8
  generalize hs4 : tVal (q4 t) = s4 at *
  clear hs4
  have z : w9.cell? ⟨q, 3, none⟩ = some (.string ⟨#[]⟩) := by rw [blk_cell S9.out.box]; rfl
  have g : w9.frozen? ⟨q, 3, none⟩ = false := blk_frozen S9.out.box 3
  have S10 := Lib.hid (show RSt w.heap.size w (w9.setCell ⟨q, 3, none⟩ (.string ⟨s4.toArray⟩)) q #[.int .i64 n1, .int .i64 n2, .int .i64 n3, .string ⟨s4.toArray⟩, .float .f64 0, .int .i64 0] (q5 t) from S9.out.set 3 (.string ⟨s4.toArray⟩))
  clear S9
  go_wp2_with fail
  clear z g
  generalize hw10 : w9.setCell ⟨q, 3, none⟩ (.string ⟨s4.toArray⟩) = w10 at *
  clear hw10 w9
  -- Real
  refine (rbits_any _ _ 8 _ S10.out.rd (by omega)).mono ?_
  rintro e' w11 ⟨rfl, hr11, o11⟩
  have S11 := Lib.hid (show RSt w.heap.size w w11 q _ (q6 t) from S10.out.call hr11 o11)
  have hpr : rVal (q5 t) 8 = qReal t := rfl
  rw [hpr]
  clear hr11 o11 S10 hpr
  generalize hfv : fromV (qReal t) = fv at *
  generalize hfo : fromOk (qReal t) = fo at *
  generalize hbb : qReal t = bb at *
  clear hfv hfo hbb
  go_wp2_with fail
  refine (CF.out _).mono ?_
  rintro r w12 ⟨rfl, rfl⟩
  have z : w11.cell? ⟨q, 4, none⟩ = some (.float .f64 0) := by rw [blk_cell S11.out.box]; rfl
  have g : w11.frozen? ⟨q, 4, none⟩ = false := blk_frozen S11.out.box 4
  have S12 := Lib.hid (show RSt w.heap.size w (w11.setCell ⟨q, 4, none⟩ (.float .f64 fv)) q #[.int .i64 n1, .int .i64 n2, .int .i64 n3, .string ⟨s4.toArray⟩, .float .f64 fv, .int .i64 0] (q6 t) from S11.out.set 4 (.float .f64 fv))
  clear S11
  go_wp2_with fail
  clear z g
  generalize hw12 : w11.setCell ⟨q, 4, none⟩ (.float .f64 fv) = w12 at *
  clear hw12 w11
  -- ID
  refine (rrnum_any _ _ 1 _ S12.out.rd (by omega)).mono ?_
  rintro e' w13 ⟨rfl, hr13, o13⟩
  have S13 := Lib.hid (show RSt w.heap.size w w13 q _ (q7 t) from S12.out.call hr13 o13)
  clear hr13 o13 S12
  generalize hn6 : rVal (q6 t) 1 = n6 at *
  clear hn6
  have z : w13.cell? ⟨q, 5, none⟩ = some (.int .i64 0) := by rw [blk_cell S13.out.box]; rfl
  have g : w13.frozen? ⟨q, 5, none⟩ = false := blk_frozen S13.out.box 5
  have S14 := Lib.hid (show RSt w.heap.size w (w13.setCell ⟨q, 5, none⟩ (.int .i64 n6)) q #[.int .i64 n1, .int .i64 n2, .int .i64 n3, .string ⟨s4.toArray⟩, .float .f64 fv, .int .i64 n6] (q7 t) from S13.out.set 5 (.int .i64 n6))
  clear S13
  have CE := Lib.hid (rrend_any _ _ _ S14.out.rd)
  have hq1 : ¬ w.heap.size = q := by have := S14.out.lt; omega
  have hq2 : ¬ q = w.heap.size := by omega
  obtain ⟨x0, x1, x2, x3, x4, x5⟩ := rqAt_blk S14.out.res
  obtain ⟨z0, z1, z2, z3, z4, z5⟩ := rqAt_blk S14.out.box
  have f0 := blk_frozen S14.out.res 0; have f1 := blk_frozen S14.out.res 1; have f2 := blk_frozen S14.out.res 2; have f3 := blk_frozen S14.out.res 3; have f4 := blk_frozen S14.out.res 4; have f5 := blk_frozen S14.out.res 5
  by_cases hh : hd = 1
  · subst hh
    cases fo with
    | false =>
      have HX := Lib.hid (HNO.out (by rw [HOK.out]; simp))
      clear HYES HOK CE CR CF HNO
      have B := Lib.hid S14.out.bl
      clear S14 z0 z1 z2 z3 z4 z5
      go_upto_region 12 with (fail)
      generalize hw14 : w13.setCell ⟨q, 5, none⟩ (.int .i64 n6) = w14 at *
      clear hw14 z g
      go_wp2_with fail
      refine bodyPost_ret (v := .tuple #[zeroRq.v, .int .i64 5]) (by simp [results, Try.results22, go_sem, x0, x1, x2, x3, x4, x5, hq1, hq2, zeroRq, Rq.v]) rfl ⟨by rw [HX.out.1, HX.out.2], ?_⟩
      exact (((((B.out.setCell (Nat.le_refl _) _).setCell (Nat.le_refl _) _).setCell (Nat.le_refl _) _).setCell (Nat.le_refl _) _).setCell (Nat.le_refl _) _).setCell (Nat.le_refl _) _
    | true =>
      by_cases hE : endE (q7 t) = 0
      · rw [hE] at CE
        cases rt with
        | true =>
          have HX := Lib.hid (HYES.out (by rw [HOK.out, decide_eq_true hE]; rfl))
          clear HYES HOK CF HNO hE
          have B := Lib.hid S14.out.bl
          have Rs := Lib.hid S14.out.res
          have Bx := Lib.hid S14.out.box
          clear S14
          go_upto_region 12 with (fail)
          generalize hw14 : w13.setCell ⟨q, 5, none⟩ (.int .i64 n6) = w14 at *
          clear hw14 z g
          go_wp2_with fail
          refine CE.out.mono ?_
          rintro r w15 ⟨rfl, rfl⟩
          go_wp2_with fail
          refine (CR.out _).mono ?_
          rintro r w16 ⟨rfl, b16⟩
          have B2 := Lib.hid (bthen B.out b16)
          have Rs2 := blk_below Rs.out b16
          have Bx2 := blk_below Bx.out b16
          clear x0 x1 x2 x3 x4 x5 z0 z1 z2 z3 z4 z5 f0 f1 f2 f3 f4 f5 b16 B Rs Bx CE CR
          obtain ⟨x0, x1, x2, x3, x4, x5⟩ := rqAt_blk Rs2
          obtain ⟨z0, z1, z2, z3, z4, z5⟩ := rqAt_blk Bx2
          have f0 := blk_frozen Rs2 0; have f1 := blk_frozen Rs2 1; have f2 := blk_frozen Rs2 2; have f3 := blk_frozen Rs2 3; have f4 := blk_frozen Rs2 4; have f5 := blk_frozen Rs2 5
          clear Rs2 Bx2
          go_wp2_with fail
          refine bodyPost_ret (v := .tuple #[(⟨n1, n2, n3, ⟨s4.toArray⟩, fv, n6⟩ : Rq).v, .int .i64 0]) (by simp [results, Try.results22, go_sem, x0, x1, x2, x3, x4, x5, z0, z1, z2, z3, z4, z5, hq1, hq2, Rq.v]) rfl ⟨by rw [HX.out.1, HX.out.2]; rfl, ?_⟩
          exact (((((B2.out.setCell (Nat.le_refl _) _).setCell (Nat.le_refl _) _).setCell (Nat.le_refl _) _).setCell (Nat.le_refl _) _).setCell (Nat.le_refl _) _).setCell (Nat.le_refl _) _
        | false =>
          have HX := Lib.hid (HNO.out (by rw [HOK.out]; simp))
          clear HYES HOK CF HNO hE
          have B := Lib.hid S14.out.bl
          have Rs := Lib.hid S14.out.res
          have Bx := Lib.hid S14.out.box
          clear S14
          go_upto_region 12 with (fail)
          generalize hw14 : w13.setCell ⟨q, 5, none⟩ (.int .i64 n6) = w14 at *
          clear hw14 z g
          go_wp2_with fail
          refine CE.out.mono ?_
          rintro r w15 ⟨rfl, rfl⟩
          go_wp2_with fail
          refine (CR.out _).mono ?_
          rintro r w16 ⟨rfl, b16⟩
          have B2 := Lib.hid (bthen B.out b16)
          have Rs2 := blk_below Rs.out b16
          clear x0 x1 x2 x3 x4 x5 z0 z1 z2 z3 z4 z5 f0 f1 f2 f3 f4 f5 b16 B Rs Bx CE CR
          obtain ⟨x0, x1, x2, x3, x4, x5⟩ := rqAt_blk Rs2
          have f0 := blk_frozen Rs2 0; have f1 := blk_frozen Rs2 1; have f2 := blk_frozen Rs2 2; have f3 := blk_frozen Rs2 3; have f4 := blk_frozen Rs2 4; have f5 := blk_frozen Rs2 5
          clear Rs2
          go_wp2_with fail
          refine bodyPost_ret (v := .tuple #[zeroRq.v, .int .i64 5]) (by simp [results, Try.results22, go_sem, x0, x1, x2, x3, x4, x5, hq1, hq2, zeroRq, Rq.v]) rfl ⟨by rw [HX.out.1, HX.out.2], ?_⟩
          exact (((((B2.out.setCell (Nat.le_refl _) _).setCell (Nat.le_refl _) _).setCell (Nat.le_refl _) _).setCell (Nat.le_refl _) _).setCell (Nat.le_refl _) _).setCell (Nat.le_refl _) _
      · have hne : (endE (q7 t) != 0) = true := by simpa using hE
        have HX := Lib.hid (HNO.out (by rw [HOK.out, decide_eq_false hE]; rfl))
        have B := Lib.hid S14.out.bl
        clear HYES HOK CR CF HNO S14 z0 z1 z2 z3 z4 z5 hE
        generalize endE (q7 t) = E at *
        go_upto_region 12 with (fail)
        generalize hw14 : w13.setCell ⟨q, 5, none⟩ (.int .i64 n6) = w14 at *
        clear hw14 z g
        go_wp2_with fail
        refine CE.out.mono ?_
        rintro r w15 ⟨rfl, rfl⟩
        go_wp2_with fail
        refine bodyPost_ret (v := .tuple #[zeroRq.v, .int .i64 5]) (by simp [results, Try.results22, go_sem, x0, x1, x2, x3, x4, x5, hq1, hq2, zeroRq, Rq.v]) rfl ⟨by rw [HX.out.1, HX.out.2], ?_⟩
        exact (((((B.out.setCell (Nat.le_refl _) _).setCell (Nat.le_refl _) _).setCell (Nat.le_refl _) _).setCell (Nat.le_refl _) _).setCell (Nat.le_refl _) _).setCell (Nat.le_refl _) _
  · have hne : ((hd : Int) != 1) = true := by simp; omega
    have HX := Lib.hid (HNO.out (by rw [HOK.out, decide_eq_false hh]; simp))
    clear HYES HOK CE CR CF HNO
    have B := Lib.hid S14.out.bl
    clear S14 z0 z1 z2 z3 z4 z5 hh
    go_upto_region 12 with (fail)
    generalize hw14 : w13.setCell ⟨q, 5, none⟩ (.int .i64 n6) = w14 at *
    clear hw14 z g
    go_wp2_with fail
    refine bodyPost_ret (v := .tuple #[zeroRq.v, .int .i64 5]) (by simp [results, Try.results22, go_sem, x0, x1, x2, x3, x4, x5, hq1, hq2, zeroRq, Rq.v]) rfl ⟨by rw [HX.out.1, HX.out.2], ?_⟩
    exact (((((B.out.setCell (Nat.le_refl _) _).setCell (Nat.le_refl _) _).setCell (Nat.le_refl _) _).setCell (Nat.le_refl _) _).setCell (Nat.le_refl _) _).setCell (Nat.le_refl _) _
end Go.Proofs.Ytnmhmbfhaiaaoaa
