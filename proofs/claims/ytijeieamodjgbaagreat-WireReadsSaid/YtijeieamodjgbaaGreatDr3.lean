
/- Results: the reference's ReadResult. -/
import Derived.Test.YtijeieamodjgbaaGreatDr2

namespace Go.Proofs.YtijeieamodjgbaaGreat
set_option maxRecDepth 100000
open Go.RowKit
set_option linter.unusedVariables false
set_option linter.unusedSimpArgs false
attribute [local go_sem] run_store_float

theorem rrd_keeps (p : Nat) (w w' : World) (s : R) (h : w'.heap[p]? = w.heap[p]?) (hr : RRd w p s) : RRd w' p s := by
  obtain ⟨S, hb, hrest, hts⟩ := hr
  exact ⟨S, by rw [h]; exact hb, hrest, hts⟩
set_option maxHeartbeats 2000000 in
theorem rreadres_any (text : ByteArray) (w : World) (hts : text.size ≤ 140737488351232) :
    Calls Tryz.prog 32 #[.string text] w fun e w' => e = .returned (.tuple #[.agg #[.int .i64 (rsC text.data.toList), .float .f64 (rsB text.data.toList)], .int .i64 (rsE text.data.toList)]) ∧ Below w.heap.size w w' := by
  obtain ⟨t, ht⟩ : ∃ t, t = text.data.toList := ⟨_, rfl⟩
  rw [← ht]
  have Ht := Lib.hid ht
  obtain ⟨RC, hRC⟩ : ∃ z, z = rsC t := ⟨_, rfl⟩
  obtain ⟨RB, hRB⟩ : ∃ z, z = rsB t := ⟨_, rfl⟩
  obtain ⟨RE, hRE⟩ : ∃ z, z = rsE t := ⟨_, rfl⟩
  rw [← hRC, ← hRB, ← hRE]
  have HV := Lib.hid (show RC = rsC t ∧ RB = rsB t ∧ RE = rsE t from ⟨hRC, hRB, hRE⟩)
  have HNO := Lib.hid (show rsOk t = false → RC = 0 ∧ RB = 0 ∧ RE = 5 from fun h => by rw [HV.out.1, HV.out.2.1, HV.out.2.2]; exact rs_no h)
  have HYES := Lib.hid (show rsOk t = true → RC = qHead t ∧ RB = fromV (pReal t) ∧ RE = 0 from fun h => by rw [HV.out.1, HV.out.2.1, HV.out.2.2]; exact rs_yes h)
  have HOK := Lib.hid (show rsOk t = (decide (endE (p2 t) = 0) && decide (qHead t ≤ 8) && fromOk (pReal t)) from rfl)
  have CF := Lib.hid (fun w => from02_any (pReal t) (pReal_lt t) w)
  have hsz : (w.alloc (.cells #[.int .i64 0, .float .f64 0] 29 (0, 0))).heap.size = w.heap.size + 1 := by simp
  have Hr1 := Lib.hid (show RRd ((w.alloc (.cells #[.int .i64 0, .float .f64 0] 29 (0, 0))).alloc (.cells #[.string text, .bool false] 75 (0, 0))) (w.heap.size + 1) ⟨t, false⟩ from
    ⟨text, by rw [← hsz]; exact blk_alloc _ _, Ht.out.symm, hts⟩)
  have Res1 := Lib.hid (blk_below (blk_alloc w (.cells #[.int .i64 0, .float .f64 0] 29 (0, 0))) (below_alloc _ (.cells #[.string text, .bool false] 75 (0, 0))))
  have B1 := Lib.hid (balloc (below_alloc w (.cells #[.int .i64 0, .float .f64 0] 29 (0, 0))) (.cells #[.string text, .bool false] 75 (0, 0)))
  clear hts hsz ht hRC hRB hRE HV
  go_enter Tryz.func32, Tryz.ntmps32
  go_wp2_with fail
  generalize hw1 : (w.alloc (.cells #[.int .i64 0, .float .f64 0] 29 (0, 0))).alloc (.cells #[.string text, .bool false] 75 (0, 0)) = w1 at *
  clear hw1
  refine (rrnum_any _ _ 1 _ Hr1.out (by omega)).mono ?_
  rintro e' w2 ⟨rfl, hr2, o2⟩
  have hr2' : RRd w2 (w.heap.size + 1) (p1 t) := hr2
  have res2 : w2.heap[w.heap.size]? = some (.cells #[.int .i64 0, .float .f64 0] 29 (0, 0)) := by
    rw [o2.block _ (blk_lt Res1.out) (by omega) (by simp)]; exact Res1.out
  have B2 := Lib.hid (Only.below B1.out o2 (by omega) (fun k hk => by cases hk))
  have l2 := rrd_lt hr2'
  have hba := below_alloc w2 (.cells #[.int .i64 (qHead t), .float .f64 0] 29 (0, 0))
  have HR3 := Lib.hid (rrd_keeps _ _ _ _ (Below.heap_alloc w2 (.cells #[.int .i64 (qHead t), .float .f64 0] 29 (0, 0)) _ l2) hr2')
  have Res3 := Lib.hid (blk_below res2 hba)
  have Box3 := Lib.hid (blk_alloc w2 (.cells #[.int .i64 (qHead t), .float .f64 0] 29 (0, 0)))
  have B3 := Lib.hid (balloc B2.out (.cells #[.int .i64 (qHead t), .float .f64 0] 29 (0, 0)))
  have L2 := Lib.hid l2
  have hqh : rVal (⟨t, false⟩ : R) 1 = qHead t := rfl
  rw [hqh]
  generalize qHead t = hd at *
  clear hr2 hr2' o2 res2 Hr1 Res1 B1 hba l2 B2
  go_wp2_with fail
  generalize hq : w2.heap.size = q at *
  generalize hw3 : w2.alloc (.cells #[.int .i64 hd, .float .f64 0] 29 (0, 0)) = w3 at *
  clear hw3 hq
  refine (rbits_any _ _ 8 _ HR3.out (by omega)).mono ?_
  rintro e' w4 ⟨rfl, hr4, o4⟩
  have hr4' : RRd w4 (w.heap.size + 1) (p2 t) := hr4
  have CE := rrend_any _ _ w4 hr4'
  have res4 : w4.heap[w.heap.size]? = some (.cells #[.int .i64 0, .float .f64 0] 29 (0, 0)) := by
    rw [o4.block _ (blk_lt Res3.out) (by omega) (by simp)]; exact Res3.out
  have box4 : w4.heap[q]? = some (.cells #[.int .i64 hd, .float .f64 0] 29 (0, 0)) := by
    rw [o4.block _ (blk_lt Box3.out) (by have := L2.out; omega) (by simp)]; exact Box3.out
  have B4 := Lib.hid (Only.below B3.out o4 (by omega) (fun k hk => by cases hk))
  have hql := L2.out
  have hpr : rVal (p1 t) 8 = pReal t := rfl
  rw [hpr]
  have x0 : w4.cell? ⟨w.heap.size, 0, none⟩ = some (.int .i64 0) := by rw [blk_cell res4]; rfl
  have x1 : w4.cell? ⟨w.heap.size, 1, none⟩ = some (.float .f64 0) := by rw [blk_cell res4]; rfl
  have f0 : w4.frozen? ⟨w.heap.size, 0, none⟩ = false := blk_frozen res4 _
  have f1 : w4.frozen? ⟨w.heap.size, 1, none⟩ = false := blk_frozen res4 _
  have z0 : w4.cell? ⟨q, 0, none⟩ = some (.int .i64 hd) := by rw [blk_cell box4]; rfl
  have z1 : w4.cell? ⟨q, 1, none⟩ = some (.float .f64 0) := by rw [blk_cell box4]; rfl
  have g1 : w4.frozen? ⟨q, 1, none⟩ = false := blk_frozen box4 _
  generalize hfv : fromV (pReal t) = fv at *
  generalize hfo : fromOk (pReal t) = fo at *
  generalize pReal t = bb at *
  have R5 := Lib.hid (blk_set_other res4 q 1 (.float .f64 fv) (by omega))
  have X5 := Lib.hid (blk_set box4 1 (.float .f64 fv))
  have B5 := Lib.hid (B4.out.setCell (p := ⟨q, 1, none⟩) (show w.heap.size ≤ q by omega) (.float .f64 fv))
  have HR5 := Lib.hid (rrd_keeps (w.heap.size + 1) w4 (w4.setCell ⟨q, 1, none⟩ (.float .f64 fv)) _ (Below.heap_setCell _ _ _ _ (by show w.heap.size + 1 ≠ q; omega)) hr4')
  clear hr4 hr4' o4 res4 box4 HR3 Res3 Box3 B3 B4 CE hfv hfo L2
  go_wp2_with fail
  refine (CF.out _).mono ?_
  rintro r w5 ⟨rfl, rfl⟩
  have CE := Lib.hid (rrend_any _ _ _ HR5.out)
  have hq1 : ¬ w.heap.size = q := by omega
  have hq2 : ¬ q = w.heap.size := by omega
  cases fo with
  | false =>
    have HX := Lib.hid (HNO.out (by rw [HOK.out]; simp))
    clear HYES HOK CE
    go_wp2_with fail
    refine bodyPost_ret (v := .tuple #[.agg #[.int .i64 0, .float .f64 0], .int .i64 5]) (by simp [results, Tryz.results32, go_sem, x0, x1, hq1, hq2]) rfl ⟨by rw [HX.out.1, HX.out.2.1, HX.out.2.2], ?_⟩
    exact (B5.out.setCell (Nat.le_refl _) _).setCell (Nat.le_refl _) _
  | true =>
    by_cases hE : endE (p2 t) = 0
    · by_cases hh : hd ≤ 8
      · have hc : decide (8 < (hd : Int)) = false := by simp; omega
        have HX := Lib.hid (HYES.out (by rw [HOK.out, decide_eq_true hE, decide_eq_true hh]; rfl))
        rw [hE] at CE
        clear HYES HOK HNO hE hh
        go_wp2_with fail
        refine CE.out.mono ?_
        rintro r w6 ⟨rfl, rfl⟩
        go_wp2_with fail
        refine bodyPost_ret (v := .tuple #[.agg #[.int .i64 hd, .float .f64 fv], .int .i64 0]) (by simp [results, Tryz.results32, go_sem, x0, x1, z0, z1, hq1, hq2]) rfl ⟨by rw [HX.out.1, HX.out.2.1, HX.out.2.2], ?_⟩
        exact (B5.out.setCell (Nat.le_refl _) _).setCell (Nat.le_refl _) _
      · have hc : decide (8 < (hd : Int)) = true := by simp; omega
        have HX := Lib.hid (HNO.out (by rw [HOK.out, decide_eq_false hh]; simp))
        rw [hE] at CE
        clear HYES HOK HNO hE hh
        go_wp2_with fail
        refine CE.out.mono ?_
        rintro r w6 ⟨rfl, rfl⟩
        go_wp2_with fail
        refine bodyPost_ret (v := .tuple #[.agg #[.int .i64 0, .float .f64 0], .int .i64 5]) (by simp [results, Tryz.results32, go_sem, x0, x1, hq1, hq2]) rfl ⟨by rw [HX.out.1, HX.out.2.1, HX.out.2.2], ?_⟩
        exact (B5.out.setCell (Nat.le_refl _) _).setCell (Nat.le_refl _) _
    · have hne : (endE (p2 t) != 0) = true := by simpa using hE
      have HX := Lib.hid (HNO.out (by rw [HOK.out, decide_eq_false hE]; rfl))
      generalize endE (p2 t) = E at *
      clear HYES HOK HNO hE
      go_wp2_with fail
      refine CE.out.mono ?_
      rintro r w6 ⟨rfl, rfl⟩
      go_wp2_with fail
      refine bodyPost_ret (v := .tuple #[.agg #[.int .i64 0, .float .f64 0], .int .i64 5]) (by simp [results, Tryz.results32, go_sem, x0, x1, hq1, hq2]) rfl ⟨by rw [HX.out.1, HX.out.2.1, HX.out.2.2], ?_⟩
      exact (B5.out.setCell (Nat.le_refl _) _).setCell (Nat.le_refl _) _
end Go.Proofs.YtijeieamodjgbaaGreat
