
/- Results: SameResult; ReadResult of both layers. -/
import Derived.Test.YtijeieamodjgbaaGreatDh

namespace Go.Proofs.YtijeieamodjgbaaGreat
set_option maxRecDepth 100000
open Go.RowKit
set_option linter.unusedVariables false
set_option linter.unusedSimpArgs false
attribute [local go_sem] run_store_float

def sameResB (c : Int) (b : Nat) (c' : Int) (b' : Nat) : Bool := decide (c = c') && decide (canonB b = canonB b')
set_option maxHeartbeats 1000000 in
theorem sameres_any (c : Int) (b : Nat) (c' : Int) (b' : Nat) (w : World) (hb : b < 18446744073709551616) (hb' : b' < 18446744073709551616) :
    Calls Tryz.prog 42 #[.agg #[.int .i64 c, .float .f64 b], .agg #[.int .i64 c', .float .f64 b']] w fun e w' => e = .returned (.bool (sameResB c b c' b')) ∧ Below w.heap.size w w' := by
  have C1 := Lib.hid (fun w => bits02_q b hb w)
  have C2 := Lib.hid (fun w => bits02_q b' hb' w)
  by_cases h : c = c'
  · subst h
    have HX := Lib.hid (show sameResB c b c b' = ((canonB b : Int) == (canonB b' : Int)) by rw [sameResB, decide_eq_true rfl, Bool.true_and, Bool.eq_iff_iff]; simp only [beq_iff_eq, decide_eq_true_eq]; omega)
    rw [HX.out]
    generalize canonB b = cb at *
    generalize canonB b' = cb' at *
    clear HX hb hb'
    go_enter Tryz.func42, Tryz.ntmps42
    go_wp2_with fail
    go_quiet (first | (go_at_call 95; exact Calls.quiet_of_same (C1.out _)) | (go_at_call 95; exact Calls.quiet_of_same (C2.out _)))
    go_wp2_with fail
    go_ret
    exact ⟨rfl, below_drewN (balloc (below_alloc _ _) _) _⟩
  · have hc : (c == c') = false := by simpa using h
    have HX := Lib.hid (show sameResB c b c' b' = false by rw [sameResB, decide_eq_false h]; rfl)
    rw [HX.out]
    clear HX hb hb' h
    go_enter Tryz.func42, Tryz.ntmps42
    go_wp2_with fail
    go_quiet (fail)
    go_wp2_with fail
    go_ret
    exact ⟨rfl, below_drewN (balloc (below_alloc _ _) _) _⟩

/-- What a text is read as, as a result. -/
def p1 (t : List UInt8) : R := rNext ⟨t, false⟩ 1
def p2 (t : List UInt8) : R := rNext (p1 t) 8
def pReal (t : List UInt8) : Nat := rVal (p1 t) 8
def rsOk (t : List UInt8) : Bool := decide (endE (p2 t) = 0) && decide (qHead t ≤ 8) && fromOk (pReal t)
def rsC (t : List UInt8) : Int := if rsOk t = true then qHead t else 0
def rsB (t : List UInt8) : Nat := if rsOk t = true then fromV (pReal t) else 0
def rsE (t : List UInt8) : Int := if rsOk t = true then 0 else 5
theorem rs_scE (t : List UInt8) : scE [98, 113] t = endE (p2 t) := by
  rw [scE, if_pos (by decide)]
  simp only [scN, vn_b, vn_q, p1, p2]
theorem rs_scV (t : List UInt8) : scV [98, 113] ⟨t, false⟩ = [⟨qHead t, 0, []⟩, ⟨0, pReal t, []⟩] := by
  simp only [scV, vv_b, vv_q, vn_b, vn_q, p1, qHead, pReal]
theorem pReal_lt (t : List UInt8) : pReal t < 18446744073709551616 := rVal_lt _ 8
theorem rs_no {t : List UInt8} (h : rsOk t = false) : rsC t = 0 ∧ rsB t = 0 ∧ rsE t = 5 := by rw [rsC, rsB, rsE, h]; exact ⟨rfl, rfl, rfl⟩
theorem rs_yes {t : List UInt8} (h : rsOk t = true) : rsC t = qHead t ∧ rsB t = fromV (pReal t) ∧ rsE t = 0 := by rw [rsC, rsB, rsE, h]; exact ⟨rfl, rfl, rfl⟩
theorem rsB_lt (t : List UInt8) : rsB t < 18446744073709551616 := by
  unfold rsB
  split
  · exact fromV_lt (pReal_lt t)
  · omega

set_option maxHeartbeats 2000000 in
theorem readres_any (text : ByteArray) (w : World) (hts : text.size ≤ 140737488351232) :
    Calls Tryz.prog 74 #[.string text] w fun e w' => e = .returned (.tuple #[.agg #[.int .i64 (rsC text.data.toList), .float .f64 (rsB text.data.toList)], .int .i64 (rsE text.data.toList)]) ∧ Below w.heap.size w w' := by
  have CS := Lib.hid (fun w => scan_any ⟨#[98, 113]⟩ text w (by decide) hts)
  have hr0 := blk_alloc w (.cells #[.int .i64 0, .float .f64 0] 29 (0, 0))
  have HR0 := Lib.hid hr0
  obtain ⟨t, ht⟩ : ∃ t, t = text.data.toList := ⟨_, rfl⟩
  rw [← ht]
  have Ht := Lib.hid ht
  obtain ⟨RC, hRC⟩ : ∃ z, z = rsC t := ⟨_, rfl⟩
  obtain ⟨RB, hRB⟩ : ∃ z, z = rsB t := ⟨_, rfl⟩
  obtain ⟨RE, hRE⟩ : ∃ z, z = rsE t := ⟨_, rfl⟩
  rw [← hRC, ← hRB, ← hRE]
  have HV := Lib.hid (show RC = rsC t ∧ RB = rsB t ∧ RE = rsE t from ⟨hRC, hRB, hRE⟩)
  clear hr0 ht hts hRC hRB hRE
  have HNO := Lib.hid (show rsOk t = false → RC = 0 ∧ RB = 0 ∧ RE = 5 from fun h => by rw [HV.out.1, HV.out.2.1, HV.out.2.2]; exact rs_no h)
  go_enter Tryz.func74, Tryz.ntmps74
  go_wp2_with fail
  refine (CS.out _).mono ?_
  rintro r w1 ⟨v, rfl, ho, b1⟩
  rw [← Ht.out] at ho
  rw [← Ht.out]
  have HR := Lib.hid (blk_below HR0.out b1)
  have B1 := Lib.hid (bthen (below_alloc _ _) b1)
  clear HR0 b1
  have hsc : scE (ByteArray.mk #[98, 113]).data.toList t = endE (p2 t) := rs_scE t
  rw [hsc]
  have x0 : w1.cell? ⟨w.heap.size, 0, none⟩ = some (.int .i64 0) := by rw [blk_cell HR.out]; rfl
  have x1 : w1.cell? ⟨w.heap.size, 1, none⟩ = some (.float .f64 0) := by rw [blk_cell HR.out]; rfl
  have f0 : w1.frozen? ⟨w.heap.size, 0, none⟩ = false := blk_frozen HR.out _
  have f1 : w1.frozen? ⟨w.heap.size, 1, none⟩ = false := blk_frozen HR.out _
  by_cases hE : endE (p2 t) = 0
  · have hL : scL (ByteArray.mk #[98, 113]).data.toList t = [⟨qHead t, 0, []⟩, ⟨0, pReal t, []⟩] := by
      rw [scL, hsc, if_pos hE]; exact rs_scV t
    rw [hL] at ho
    have HOK := Lib.hid (show rsOk t = (decide (qHead t ≤ 8) && fromOk (pReal t)) by rw [rsOk, decide_eq_true hE]; simp)
    have CF := Lib.hid (fun w => from_any (pReal t) (pReal_lt t) w)
    have CW := within_any (qHead t) 0 8
    obtain ⟨a, c, rfl⟩ := owns_slice3 ho
    obtain ⟨_, hc⟩ := vs_cells ho
    obtain ⟨g, rfl, hg0, y0, _, _⟩ := hc 0 _ rfl
    obtain ⟨g', hg, _, _, y1, _⟩ := hc 1 _ rfl
    obtain rfl : g = g' := by simpa using hg
    replace y0 : w1.cell? ⟨g, 0, none⟩ = some (.int .i64 (qHead t)) := y0
    replace y1 : w1.cell? ⟨g, 4, none⟩ = some (.int .u64 (pReal t)) := y1
    rw [hE]
    simp only [List.length_cons, List.length_nil, Nat.reduceAdd]
    by_cases hh : qHead t ≤ 8
    · rw [show decide ((0 : Int) ≤ (qHead t : Int) ∧ (qHead t : Int) ≤ 8) = true by simp; omega] at CW
      have CW := Lib.hid CW
      cases hfo : fromOk (pReal t) with
      | true =>
        have hok : rsOk t = true := by rw [HOK.out, decide_eq_true hh, hfo]; rfl
        have HX := Lib.hid (show RC = qHead t ∧ RB = fromV (pReal t) ∧ RE = 0 by rw [HV.out.1, HV.out.2.1, HV.out.2.2]; exact rs_yes hok)
        rw [hfo] at CF
        generalize fromV (pReal t) = fv at *
        generalize qHead t = hd at *
        generalize pReal t = bb at *
        clear hg hg0 ho hc hL hE hsc CS HNO hfo hok HOK hh
        go_wp2_with fail
        refine (CW.out _).mono ?_
        rintro r w2 ⟨rfl, rfl⟩
        go_wp2_with fail
        refine (CF.out _).mono ?_
        rintro r w2 ⟨rfl, rfl⟩
        go_wp2_with fail
        refine bodyPost_ret (v := .tuple #[.agg #[.int .i64 hd, .float .f64 fv], .int .i64 0]) (by simp [results, Tryz.results74, go_sem, x0, x1]) rfl ⟨by rw [HX.out.1, HX.out.2.1, HX.out.2.2], ?_⟩
        exact (B1.out.setCell (Nat.le_refl _) _).setCell (Nat.le_refl _) _
      | false =>
        have HX := Lib.hid (HNO.out (by rw [HOK.out, decide_eq_true hh, hfo]; rfl))
        rw [hfo] at CF
        generalize fromV (pReal t) = fv at *
        generalize qHead t = hd at *
        generalize pReal t = bb at *
        clear hg hg0 ho hc hL hE hsc CS HNO hfo HOK hh
        go_wp2_with fail
        refine (CW.out _).mono ?_
        rintro r w2 ⟨rfl, rfl⟩
        go_wp2_with fail
        refine (CF.out _).mono ?_
        rintro r w2 ⟨rfl, rfl⟩
        go_wp2_with fail
        refine bodyPost_ret (v := .tuple #[.agg #[.int .i64 0, .float .f64 0], .int .i64 5]) (by simp [results, Tryz.results74, go_sem, x0, x1]) rfl ⟨by rw [HX.out.1, HX.out.2.1, HX.out.2.2], ?_⟩
        exact (B1.out.setCell (Nat.le_refl _) _).setCell (Nat.le_refl _) _
    · rw [show decide ((0 : Int) ≤ (qHead t : Int) ∧ (qHead t : Int) ≤ 8) = false by simp; omega] at CW
      have CW := Lib.hid CW
      have HX := Lib.hid (HNO.out (by rw [HOK.out, decide_eq_false hh]; rfl))
      generalize qHead t = hd at *
      generalize pReal t = bb at *
      clear hg hg0 ho hc hL hE hsc CS HNO HOK hh CF
      go_wp2_with fail
      refine (CW.out _).mono ?_
      rintro r w2 ⟨rfl, rfl⟩
      go_wp2_with fail
      refine bodyPost_ret (v := .tuple #[.agg #[.int .i64 0, .float .f64 0], .int .i64 5]) (by simp [results, Tryz.results74, go_sem, x0, x1]) rfl ⟨by rw [HX.out.1, HX.out.2.1, HX.out.2.2], ?_⟩
      exact (B1.out.setCell (Nat.le_refl _) _).setCell (Nat.le_refl _) _
  · have HX := Lib.hid (HNO.out (by rw [rsOk, decide_eq_false hE]; rfl))
    obtain ⟨a, c, rfl⟩ := owns_slice3 ho
    have hne : (endE (p2 t) != 0) = true := by simpa using hE
    generalize endE (p2 t) = E at *
    clear ho hE hsc CS HNO
    go_wp2_with fail
    refine bodyPost_ret (v := .tuple #[.agg #[.int .i64 0, .float .f64 0], .int .i64 5]) (by simp [results, Tryz.results74, go_sem, x0, x1]) rfl ⟨by rw [HX.out.1, HX.out.2.1, HX.out.2.2], ?_⟩
    exact (B1.out.setCell (Nat.le_refl _) _).setCell (Nat.le_refl _) _
end Go.Proofs.YtijeieamodjgbaaGreat
