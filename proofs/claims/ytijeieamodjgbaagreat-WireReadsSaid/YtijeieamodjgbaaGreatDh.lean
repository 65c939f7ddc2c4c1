
/- Texts behind a sign and numbers: plain, and walks of both layers' Prepared and State; ResultText, SameResult. -/
import Derived.Test.YtijeieamodjgbaaGreatDt
import Derived.Test.YtijeieamodjgbaaGreatDh0
import Derived.Laws.Concat
import Derived.Test.YtijeieamodjgbaaGreatSca
import Derived.Deep.RegionHeld3

namespace Go.Proofs.YtijeieamodjgbaaGreat
set_option maxRecDepth 100000
open Go.RowKit
set_option linter.unusedVariables false
set_option linter.unusedSimpArgs false

theorem textQ_len (c s kind : Int) (key : ByteArray) (b : Nat) (id : Int) : (textQ c s kind key b id).length = 18 + key.size := by
  simp only [textQ, List.length_append, beN_len, ByteArray.size, Array.length_toList]
  omega
theorem Rq.text_size (r : Rq) : r.text.size ≤ 100 := by
  unfold Rq.text rqText
  split
  · simp [ByteArray.size]
  · split
    · rename_i h
      have h1 := (rightQ_parts h).2.2.2.2.2.2.1
      have h2 := textQ_len r.c r.s r.kind r.key r.b r.id
      simp only [ByteArray.size, List.size_toArray]
      simp only [ByteArray.size] at h1 h2
      omega
    · simp [ByteArray.size]

end Go.Proofs.YtijeieamodjgbaaGreat

/- What a text is read as, as a request: plain, and walk of the program's Read; Request of an Ask. -/
namespace Go.Proofs.YtijeieamodjgbaaGreat
set_option maxRecDepth 100000
open Go.RowKit
set_option linter.unusedVariables false
set_option linter.unusedSimpArgs false

def rqShape : List UInt8 := [98, 98, 108, 98, 116, 113, 98]
def q1 (t : List UInt8) : R := rNext ⟨t, false⟩ 1
def q2 (t : List UInt8) : R := rNext (q1 t) 1
def q3 (t : List UInt8) : R := rNext (q2 t) 4
def q4 (t : List UInt8) : R := rNext (q3 t) 1
def q5 (t : List UInt8) : R := tNext (q4 t)
def q6 (t : List UInt8) : R := rNext (q5 t) 8
def q7 (t : List UInt8) : R := rNext (q6 t) 1
def qHead (t : List UInt8) : Nat := rVal ⟨t, false⟩ 1
def qReal (t : List UInt8) : Nat := rVal (q5 t) 8
def rdRq (t : List UInt8) : Rq := ⟨rVal (q1 t) 1, rVal (q2 t) 4, rVal (q3 t) 1, ⟨(tVal (q4 t)).toArray⟩, fromV (qReal t), rVal (q6 t) 1⟩
def Rq.right (r : Rq) : Bool := rightQ r.c r.s r.kind r.key r.b r.id
def rdOk (t : List UInt8) : Bool := decide (endE (q7 t) = 0) && decide (qHead t = 1) && fromOk (qReal t) && (rdRq t).right
def zeroRq : Rq := ⟨0, 0, 0, ⟨#[]⟩, 0, 0⟩
def readRq (t : List UInt8) : Rq := if rdOk t = true then rdRq t else zeroRq
def readErr (t : List UInt8) : Int := if rdOk t = true then 0 else if t = [0] then 0 else 5
theorem vv_b (s : R) : vVal s ((98 : UInt8).toNat : Int) = ⟨rVal s 1, 0, []⟩ := by rw [show ((98 : UInt8).toNat : Int) = 98 from rfl, vVal, if_pos rfl]
theorem vn_b (s : R) : vNext s ((98 : UInt8).toNat : Int) = rNext s 1 := by rw [show ((98 : UInt8).toNat : Int) = 98 from rfl, vNext, if_pos rfl]
theorem vv_l (s : R) : vVal s ((108 : UInt8).toNat : Int) = ⟨rVal s 4, 0, []⟩ := by rw [show ((108 : UInt8).toNat : Int) = 108 from rfl, vVal, if_neg (by omega), if_neg (by omega), if_pos rfl]
theorem vn_l (s : R) : vNext s ((108 : UInt8).toNat : Int) = rNext s 4 := by rw [show ((108 : UInt8).toNat : Int) = 108 from rfl, vNext, if_neg (by omega), if_neg (by omega), if_pos rfl]
theorem vv_q (s : R) : vVal s ((113 : UInt8).toNat : Int) = ⟨0, rVal s 8, []⟩ := by rw [show ((113 : UInt8).toNat : Int) = 113 from rfl, vVal, if_neg (by omega), if_neg (by omega), if_neg (by omega), if_pos rfl]
theorem vn_q (s : R) : vNext s ((113 : UInt8).toNat : Int) = rNext s 8 := by rw [show ((113 : UInt8).toNat : Int) = 113 from rfl, vNext, if_neg (by omega), if_neg (by omega), if_neg (by omega), if_pos rfl]
theorem vv_t (s : R) : vVal s ((116 : UInt8).toNat : Int) = ⟨0, 0, tVal s⟩ := by rw [show ((116 : UInt8).toNat : Int) = 116 from rfl, vVal, if_neg (by omega), if_neg (by omega), if_neg (by omega), if_neg (by omega), if_pos rfl]
theorem vn_t (s : R) : vNext s ((116 : UInt8).toNat : Int) = tNext s := by rw [show ((116 : UInt8).toNat : Int) = 116 from rfl, vNext, if_neg (by omega), if_neg (by omega), if_neg (by omega), if_neg (by omega), if_pos rfl]
theorem rq_scE (t : List UInt8) : scE rqShape t = endE (q7 t) := by
  rw [scE, if_pos (by decide)]
  simp only [rqShape, scN, vn_b, vn_l, vn_q, vn_t, q1, q2, q3, q4, q5, q6, q7]
theorem rq_scV (t : List UInt8) : scV rqShape ⟨t, false⟩ = [⟨qHead t, 0, []⟩, ⟨rVal (q1 t) 1, 0, []⟩, ⟨rVal (q2 t) 4, 0, []⟩, ⟨rVal (q3 t) 1, 0, []⟩, ⟨0, 0, tVal (q4 t)⟩, ⟨0, qReal t, []⟩, ⟨rVal (q6 t) 1, 0, []⟩] := by
  simp only [rqShape, scV, vv_b, vv_l, vv_q, vv_t, vn_b, vn_l, vn_q, vn_t, q1, q2, q3, q4, q5, q6, qHead, qReal]
theorem tValLen (s : R) : (tVal s).length ≤ 65535 := by
  unfold tVal
  split
  · simp
  · have := rVal_lt s 2
    rw [List.length_take]
    omega
theorem real_lt (t : List UInt8) : qReal t < 18446744073709551616 := rVal_lt _ 8
theorem fromV_lt {n : Nat} (h : n < 18446744073709551616) : fromV n < 18446744073709551616 := by
  unfold fromV; split <;> omega
theorem zero_bad : endE (q7 [0]) = 2 := by decide
theorem rdOk_no {t : List UInt8} (h : ¬ endE (q7 t) = 0) : rdOk t = false := by rw [rdOk, decide_eq_false h]; rfl
theorem readRq_no {t : List UInt8} (h : rdOk t = false) : readRq t = zeroRq := by rw [readRq, if_neg (by simp [h])]
theorem readErr_no {t : List UInt8} (h : rdOk t = false) (h2 : ¬ t = [0]) : readErr t = 5 := by rw [readErr, if_neg (by simp [h]), if_neg h2]
theorem readErr_nil {t : List UInt8} (h : t = [0]) : readErr t = 0 := by subst h; rw [readErr]; split <;> first | rfl | (rw [if_pos rfl])
theorem rdRq_ok (t : List UInt8) : (rdRq t).Ok := by
  have h1 := rVal_lt (q1 t) 1; have h2 := rVal_lt (q2 t) 4; have h3 := rVal_lt (q3 t) 1; have h6 := rVal_lt (q6 t) 1
  refine ⟨?_, ?_, ?_, ?_, fromV_lt (real_lt t), ?_⟩
  · show i64 ((rVal (q1 t) 1 : Nat) : Int); unfold i64; omega
  · show i64 ((rVal (q2 t) 4 : Nat) : Int); unfold i64; omega
  · show i64 ((rVal (q3 t) 1 : Nat) : Int); unfold i64; omega
  · show i64 ((rVal (q6 t) 1 : Nat) : Int); unfold i64; omega
  · have := tValLen (q4 t)
    show (⟨(tVal (q4 t)).toArray⟩ : ByteArray).size ≤ _
    simp only [ByteArray.size, List.size_toArray]; omega
theorem right_rq (r : Rq) (h : r.Ok) (w : World) : Calls Tryz.prog 109 #[r.v] w fun e w' => e = .returned (.bool r.right) ∧ Below w.heap.size w w' := qright_any _ _ _ _ _ _ w h.key
theorem rright_rq (r : Rq) (h : r.Ok) (w : World) : Calls Tryz.prog 86 #[r.v] w fun e w' => e = .returned (.bool r.right) ∧ Below w.heap.size w w' := qrright_any _ _ _ _ _ h.b _ w h.key

theorem run_store_float {P : Program} {w : World} {a : Addr} {m : Mode} (k : FloatKind) (b : Nat) : (store a (.float k b) m).run P w = stored P w a (.float k b) m := run_store P w a _ m rfl
attribute [local go_sem] run_store_float
structure ResAt (w : World) (p : Nat) : Prop where
  blk : w.heap[p]? = some (.cells #[.int .i64 0, .int .i64 0, .int .i64 0, .string ⟨#[]⟩, .float .f64 0, .int .i64 0] 27 (0, 0))
theorem ResAt.cells {w : World} {p : Nat} (h : ResAt w p) : RqAt w p 0 0 0 ⟨#[]⟩ 0 0 := rqAt_blk h.blk
theorem ResAt.frozen {w : World} {p : Nat} (h : ResAt w p) (i : Nat) : w.frozen? ⟨p, i, none⟩ = false := blk_frozen h.blk _
theorem ResAt.below {w w' : World} {p : Nat} (h : ResAt w p) (hb : Below w.heap.size w w') : ResAt w' p := ⟨blk_below h.blk hb⟩

set_option maxHeartbeats 2000000 in
theorem qread_any (text : ByteArray) (w : World) (hts : text.size ≤ 140737488351232) :
    Calls Tryz.prog 123 #[.string text] w fun e w' => e = .returned (.tuple #[(readRq text.data.toList).v, .int .i64 (readErr text.data.toList)]) ∧ Below w.heap.size w w' := by
  have CS := Lib.hid (fun w => scan_any ⟨#[98, 98, 108, 98, 116, 113, 98]⟩ text w (by decide) hts)
  have hr0 : ResAt (w.alloc (.cells #[.int .i64 0, .int .i64 0, .int .i64 0, .string ⟨#[]⟩, .float .f64 0, .int .i64 0] 27)) w.heap.size := ⟨blk_alloc _ _⟩
  have HR0 := Lib.hid hr0
  clear hr0
  obtain ⟨t, ht⟩ : ∃ t, t = text.data.toList := ⟨_, rfl⟩
  rw [← ht]
  have Ht := Lib.hid ht; clear ht
  obtain ⟨RV, hRV⟩ : ∃ z, z = (readRq t).v := ⟨_, rfl⟩
  obtain ⟨RE, hRE⟩ : ∃ z, z = readErr t := ⟨_, rfl⟩
  rw [← hRV, ← hRE]
  have HV := Lib.hid hRV; have HE := Lib.hid hRE
  clear hts hRV hRE
  go_enter Tryz.func123, Tryz.ntmps123
  go_wp2_with fail
  refine (CS.out _).mono ?_
  rintro r w1 ⟨v, rfl, ho, b1⟩
  rw [← Ht.out] at ho
  rw [← Ht.out]
  have HR := Lib.hid (HR0.out.below b1)
  have B1 := Lib.hid (bthen (below_alloc _ _) b1)
  clear HR0 b1
  have hsc : scE (ByteArray.mk #[98, 98, 108, 98, 116, 113, 98]).data.toList t = endE (q7 t) := rq_scE t
  rw [hsc]
  by_cases hE : endE (q7 t) = 0
  · have hL : scL (ByteArray.mk #[98, 98, 108, 98, 116, 113, 98]).data.toList t = [⟨qHead t, 0, []⟩, ⟨rVal (q1 t) 1, 0, []⟩, ⟨rVal (q2 t) 4, 0, []⟩, ⟨rVal (q3 t) 1, 0, []⟩, ⟨0, 0, tVal (q4 t)⟩, ⟨0, qReal t, []⟩, ⟨rVal (q6 t) 1, 0, []⟩] := by
      rw [scL, hsc, if_pos hE]; exact rq_scV t
    rw [hL] at ho
    have HOK := Lib.hid (show rdOk t = (decide (qHead t = 1) && fromOk (qReal t) && (rdRq t).right) by rw [rdOk, decide_eq_true hE]; simp)
    have HQ := Lib.hid (show rdRq t = ⟨rVal (q1 t) 1, rVal (q2 t) 4, rVal (q3 t) 1, ⟨(tVal (q4 t)).toArray⟩, fromV (qReal t), rVal (q6 t) 1⟩ from rfl)
    obtain ⟨rt, hrt⟩ : ∃ z, z = (rdRq t).right := ⟨_, rfl⟩
    have CR := fun w => right_rq (rdRq t) (rdRq_ok t) w
    rw [← hrt] at CR HOK
    rw [HQ.out] at CR
    unfold Rq.v at CR
    dsimp only at CR
    have CR := Lib.hid CR
    clear hrt
    have HZ := Lib.hid (show t = [0] → False from fun h => by rw [h, zero_bad] at hE; cases hE)
    have CF := Lib.hid (fun w => from_any (qReal t) (real_lt t) w)
    obtain ⟨a, c, rfl⟩ := owns_slice3 ho
    obtain ⟨_, hc⟩ := vs_cells ho
    obtain ⟨g, rfl, hg0, y0, _, _⟩ := hc 0 _ rfl
    obtain ⟨g', hg, _, y1, _, _⟩ := hc 1 _ rfl
    obtain rfl : g = g' := by simpa using hg
    obtain ⟨g', hg, _, y2, _, _⟩ := hc 2 _ rfl
    obtain rfl : g = g' := by simpa using hg
    obtain ⟨g', hg, _, y3, _, _⟩ := hc 3 _ rfl
    obtain rfl : g = g' := by simpa using hg
    obtain ⟨g', hg, _, _, _, y4⟩ := hc 4 _ rfl
    obtain rfl : g = g' := by simpa using hg
    obtain ⟨g', hg, _, _, y5, _⟩ := hc 5 _ rfl
    obtain rfl : g = g' := by simpa using hg
    obtain ⟨g', hg, _, y6, _, _⟩ := hc 6 _ rfl
    obtain rfl : g = g' := by simpa using hg
    replace y0 : w1.cell? ⟨g, 0, none⟩ = some (.int .i64 (qHead t)) := y0
    replace y1 : w1.cell? ⟨g, 3, none⟩ = some (.int .i64 (rVal (q1 t) 1)) := y1
    replace y2 : w1.cell? ⟨g, 6, none⟩ = some (.int .i64 (rVal (q2 t) 4)) := y2
    replace y3 : w1.cell? ⟨g, 9, none⟩ = some (.int .i64 (rVal (q3 t) 1)) := y3
    replace y4 : w1.cell? ⟨g, 14, none⟩ = some (.string ⟨(tVal (q4 t)).toArray⟩) := y4
    replace y5 : w1.cell? ⟨g, 16, none⟩ = some (.int .u64 (qReal t)) := y5
    replace y6 : w1.cell? ⟨g, 18, none⟩ = some (.int .i64 (rVal (q6 t) 1)) := y6
    rw [hE]
    simp only [List.length_cons, List.length_nil, Nat.reduceAdd]
    generalize rVal (q1 t) 1 = n1 at *
    generalize rVal (q2 t) 4 = n2 at *
    generalize rVal (q3 t) 1 = n3 at *
    generalize rVal (q6 t) 1 = n6 at *
    generalize tVal (q4 t) = s4 at *
    generalize qHead t = hd at *
    generalize qReal t = bb at *
    generalize fromV bb = fv at *
    generalize fromOk bb = fo at *
    have HG := Lib.hid hg0
    clear hg hg0 ho hc hL hE hsc CS
    go_wp2_with fail
    refine (CF.out _).mono ?_
    rintro r w2 ⟨rfl, rfl⟩
    go_wp2_with fail
    go_region_held3 (fun w' => w'.cell? ⟨g, 3, none⟩ = some (.int .i64 n1) ∧ w'.cell? ⟨g, 6, none⟩ = some (.int .i64 n2) ∧ w'.cell? ⟨g, 9, none⟩ = some (.int .i64 n3) ∧ w'.cell? ⟨g, 14, none⟩ = some (.string ⟨s4.toArray⟩) ∧ w'.cell? ⟨g, 18, none⟩ = some (.int .i64 n6)) (first | exact ⟨by assumption, by assumption, by assumption, by assumption, by assumption⟩ | go_keep)
      (first | (fail))
    clear y1 y2 y3 y4 y5 y6 CF
    have b2 : Below w1.heap.size w1 (w1.alloc (.cells #[.int .i64 n1, .int .i64 n2, .int .i64 n3, .string ⟨s4.toArray⟩, .float .f64 fv, .int .i64 n6] 27)).drew := below_drewN (below_alloc _ _) 1
    have hbx : (w1.alloc (.cells #[.int .i64 n1, .int .i64 n2, .int .i64 n3, .string ⟨s4.toArray⟩, .float .f64 fv, .int .i64 n6] 27)).drew.heap[w1.heap.size]? = some (.cells #[.int .i64 n1, .int .i64 n2, .int .i64 n3, .string ⟨s4.toArray⟩, .float .f64 fv, .int .i64 n6] 27 (0, 0)) := blk_alloc w1 _
    replace y0 := below_cell b2 y0
    have HR2 := Lib.hid (HR.out.below b2)
    have B2 := Lib.hid (bthen B1.out b2)
    have HBX := Lib.hid hbx
    clear b2 hbx HR B1
    generalize (w1.alloc (.cells #[.int .i64 n1, .int .i64 n2, .int .i64 n3, .string ⟨s4.toArray⟩, .float .f64 fv, .int .i64 n6] 27)).drew = w2 at *
    generalize w1.heap.size = p1 at *
    obtain ⟨z0, z1, z2, z3, z4, z5⟩ := rqAt_blk HBX.out
    have f0 := HR2.out.frozen 0; have f1 := HR2.out.frozen 1; have f2 := HR2.out.frozen 2; have f3 := HR2.out.frozen 3; have f4 := HR2.out.frozen 4; have f5 := HR2.out.frozen 5
    obtain ⟨x0, x1, x2, x3, x4, x5⟩ := HR2.out.cells
    have HNZ := Lib.hid (show rdOk t = false → RV = zeroRq.v ∧ RE = 5 from fun hno => ⟨by rw [HV.out, readRq_no hno], by rw [HE.out, readErr_no hno HZ.out]⟩)
    by_cases hh : hd = 1
    · subst hh
      cases fo with
      | true =>
        cases rt with
        | true =>
          have HX := Lib.hid (show RV = (⟨n1, n2, n3, ⟨s4.toArray⟩, fv, n6⟩ : Rq).v ∧ RE = 0 from ⟨by rw [HV.out, readRq, if_pos (by rw [HOK.out]; rfl), HQ.out], by rw [HE.out, readErr, if_pos (by rw [HOK.out]; rfl)]⟩)
          clear HOK HNZ
          go_wp2_with fail
          refine (CR.out _).mono ?_
          rintro r w3 ⟨rfl, b3⟩
          clear z0 z1 z2 z3 z4 z5 f0 f1 f2 f3 f4 f5 x0 x1 x2 x3 x4 x5 y0
          have HR3 := Lib.hid (HR2.out.below b3)
          have HB3 := Lib.hid (blk_below HBX.out b3)
          have B3 := Lib.hid (bthen B2.out b3)
          clear b3
          obtain ⟨z0, z1, z2, z3, z4, z5⟩ := rqAt_blk HB3.out
          have f0 := HR3.out.frozen 0; have f1 := HR3.out.frozen 1; have f2 := HR3.out.frozen 2; have f3 := HR3.out.frozen 3; have f4 := HR3.out.frozen 4; have f5 := HR3.out.frozen 5
          obtain ⟨x0, x1, x2, x3, x4, x5⟩ := HR3.out.cells
          go_wp2_with fail
          refine bodyPost_ret (v := .tuple #[(⟨n1, n2, n3, ⟨s4.toArray⟩, fv, n6⟩ : Rq).v, .int .i64 0]) (by simp [results, Tryz.results123, go_sem, x0, x1, x2, x3, x4, x5, Rq.v]) rfl ⟨by rw [HX.out.1, HX.out.2], ?_⟩
          exact (((((B3.out.setCell (Nat.le_refl _) _).setCell (Nat.le_refl _) _).setCell (Nat.le_refl _) _).setCell (Nat.le_refl _) _).setCell (Nat.le_refl _) _).setCell (Nat.le_refl _) _
        | false =>
          have HX := Lib.hid (HNZ.out (by rw [HOK.out]; rfl))
          clear HOK HNZ
          go_wp2_with fail
          refine (CR.out _).mono ?_
          rintro r w3 ⟨rfl, b3⟩
          clear z0 z1 z2 z3 z4 z5 f0 f1 f2 f3 f4 f5 x0 x1 x2 x3 x4 x5 y0
          have HR3 := Lib.hid (HR2.out.below b3)
          have B3 := Lib.hid (bthen B2.out b3)
          clear b3
          have f0 := HR3.out.frozen 0; have f1 := HR3.out.frozen 1; have f2 := HR3.out.frozen 2; have f3 := HR3.out.frozen 3; have f4 := HR3.out.frozen 4; have f5 := HR3.out.frozen 5
          obtain ⟨x0, x1, x2, x3, x4, x5⟩ := HR3.out.cells
          go_wp2_with fail
          refine bodyPost_ret (v := .tuple #[zeroRq.v, .int .i64 5]) (by simp [results, Tryz.results123, go_sem, x0, x1, x2, x3, x4, x5, zeroRq, Rq.v]) rfl ⟨by rw [HX.out.1, HX.out.2], ?_⟩
          exact (((((B3.out.setCell (Nat.le_refl _) _).setCell (Nat.le_refl _) _).setCell (Nat.le_refl _) _).setCell (Nat.le_refl _) _).setCell (Nat.le_refl _) _).setCell (Nat.le_refl _) _
      | false =>
        have HX := Lib.hid (HNZ.out (by rw [HOK.out]; simp))
        clear HOK HNZ CR
        go_wp2_with fail
        refine bodyPost_ret (v := .tuple #[zeroRq.v, .int .i64 5]) (by simp [results, Tryz.results123, go_sem, x0, x1, x2, x3, x4, x5, zeroRq, Rq.v]) rfl ⟨by rw [HX.out.1, HX.out.2], ?_⟩
        exact (((((B2.out.setCell (Nat.le_refl _) _).setCell (Nat.le_refl _) _).setCell (Nat.le_refl _) _).setCell (Nat.le_refl _) _).setCell (Nat.le_refl _) _).setCell (Nat.le_refl _) _
    · have hne : ((hd : Int) != 1) = true := by simp; omega
      have HX := Lib.hid (HNZ.out (by rw [HOK.out, decide_eq_false hh]; rfl))
      clear HOK HNZ CR hh
      go_wp2_with fail
      refine bodyPost_ret (v := .tuple #[zeroRq.v, .int .i64 5]) (by simp [results, Tryz.results123, go_sem, x0, x1, x2, x3, x4, x5, zeroRq, Rq.v]) rfl ⟨by rw [HX.out.1, HX.out.2], ?_⟩
      exact (((((B2.out.setCell (Nat.le_refl _) _).setCell (Nat.le_refl _) _).setCell (Nat.le_refl _) _).setCell (Nat.le_refl _) _).setCell (Nat.le_refl _) _).setCell (Nat.le_refl _) _
  · have hno := rdOk_no hE
    obtain ⟨a, c, rfl⟩ := owns_slice3 ho
    have hne : (endE (q7 t) != 0) = true := by simpa using hE
    generalize endE (q7 t) = E at *
    clear ho hE hsc CS
    have hcv := byte0 w1
    have B2 := Lib.hid (balloc B1.out (.cells #[.int .u8 0] 5))
    have HR2 := Lib.hid (HR.out.below (below_alloc w1 (.cells #[.int .u8 0] 5)))
    have f0 := HR2.out.frozen 0; have f1 := HR2.out.frozen 1; have f2 := HR2.out.frozen 2; have f3 := HR2.out.frozen 3; have f4 := HR2.out.frozen 4; have f5 := HR2.out.frozen 5
    obtain ⟨x0, x1, x2, x3, x4, x5⟩ := HR2.out.cells
    by_cases hz : t = [0]
    · have HX := Lib.hid (show RV = zeroRq.v ∧ RE = 0 from ⟨by rw [HV.out, readRq_no hno], by rw [HE.out, readErr_nil hz]⟩)
      have hq : (text.toList == [0]) = true := by
        rw [ByteArray.toList_eq, ← Ht.out, hz]; rfl
      clear hz hno
      go_wp2_with fail
      refine bodyPost_ret (v := .tuple #[zeroRq.v, .int .i64 0]) (by simp [results, Tryz.results123, go_sem, x0, x1, x2, x3, x4, x5, zeroRq, Rq.v]) rfl ⟨by rw [HX.out.1, HX.out.2], ?_⟩
      exact (((((B2.out.setCell (Nat.le_refl _) _).setCell (Nat.le_refl _) _).setCell (Nat.le_refl _) _).setCell (Nat.le_refl _) _).setCell (Nat.le_refl _) _).setCell (Nat.le_refl _) _
    · have HX := Lib.hid (show RV = zeroRq.v ∧ RE = 5 from ⟨by rw [HV.out, readRq_no hno], by rw [HE.out, readErr_no hno hz]⟩)
      have hq : (text.toList == [0]) = false := by
        rw [ByteArray.toList_eq, ← Ht.out]; simpa using hz
      clear hz hno
      go_wp2_with fail
      refine bodyPost_ret (v := .tuple #[zeroRq.v, .int .i64 5]) (by simp [results, Tryz.results123, go_sem, x0, x1, x2, x3, x4, x5, zeroRq, Rq.v]) rfl ⟨by rw [HX.out.1, HX.out.2], ?_⟩
      exact (((((B2.out.setCell (Nat.le_refl _) _).setCell (Nat.le_refl _) _).setCell (Nat.le_refl _) _).setCell (Nat.le_refl _) _).setCell (Nat.le_refl _) _).setCell (Nat.le_refl _) _
end Go.Proofs.YtijeieamodjgbaaGreat

/- Results: ResultText, SameResult of both layers. -/
namespace Go.Proofs.YtijeieamodjgbaaGreat
set_option maxRecDepth 100000
open Go.RowKit
set_option linter.unusedVariables false
set_option linter.unusedSimpArgs false
attribute [local go_sem] run_store_float

def resQ (c : Int) (b : Nat) : List UInt8 := beN c.toNat 1 ++ beN (canonB b) 8
def resText (c : Int) (b : Nat) : ByteArray := if 0 ≤ c ∧ c ≤ 8 then ⟨(resQ c b).toArray⟩ else ⟨#[]⟩
def resErr (c : Int) : Int := if 0 ≤ c ∧ c ≤ 8 then 0 else 1
theorem res_box (w : World) (c : Int) (b : Nat) : ∀ w', Below (w.alloc (.cells #[.int .i64 c, .float .f64 b] 29)).heap.size (w.alloc (.cells #[.int .i64 c, .float .f64 b] 29)) w' → (w'.cell? ⟨w.heap.size, 0, none⟩ = some (.int .i64 c) ∧ w'.cell? ⟨w.heap.size, 1, none⟩ = some (.float .f64 b)) ∧ Below w.heap.size w w' := fun w' hb => by
  have := blk_below (blk_alloc _ _) hb
  exact ⟨⟨by rw [blk_cell this]; rfl, by rw [blk_cell this]; rfl⟩, bthen (below_alloc _ _) hb⟩

set_option maxHeartbeats 1000000 in
theorem restext_any (c : Int) (b : Nat) (w : World) (hb : b < 18446744073709551616) :
    Calls Tryz.prog 65 #[.agg #[.int .i64 c, .float .f64 b]] w fun e w' => e = .returned (.tuple #[.string (resText c b), .int .i64 (resErr c)]) ∧ Below w.heap.size w w' := by
  have HC := Lib.hid (res_box w c b)
  have CW := within_any c 0 8
  by_cases h : 0 ≤ c ∧ c ≤ 8
  · rw [decide_eq_true h] at CW
    have CW := Lib.hid CW
    have HX := Lib.hid (show resText c b = ⟨(resQ c b).toArray⟩ ∧ resErr c = 0 by rw [resText, resErr, if_pos h, if_pos h]; exact ⟨rfl, rfl⟩)
    rw [HX.out.1, HX.out.2]
    have CB := Lib.hid (fun (w : World) => rbits2_any b w)
    have hcb := canonB_lt hb
    have HT := Lib.hid (show resQ c b = beN c.toNat 1 ++ beN (canonB b) 8 from rfl)
    generalize resQ c b = TQ at *
    generalize canonB b = cb at *
    clear HX hb
    go_enter Tryz.func65, Tryz.ntmps65
    go_wp2_with fail
    refine (CW.out _).mono ?_
    rintro r w1 ⟨rfl, rfl⟩
    go_wp2_with fail
    generalize hw2 : w.alloc (.cells #[.int .i64 c, .float .f64 b] 29) = w2 at *
    clear hw2
    refine (wnew_any 64 w2).mono ?_
    rintro r w3 ⟨rfl, h3, b3⟩
    have H3 := Lib.hid (show PWr w3 w2.heap.size w2.heap.size none ⟨[], 64, 0⟩ from h3)
    have B3 := Lib.hid b3
    obtain ⟨⟨x0, x1⟩, -⟩ := HC.out _ b3
    clear h3 b3
    go_wp2_with fail
    refine (wbyte_to w2 _ _ _ _ c _ H3.out B3.out (by omega) (by omega) (by omega) (by omega) (by simp)).mono ?_
    rintro r w4 ⟨rfl, ⟨ob4, h4⟩, b4⟩
    have H4 := Lib.hid h4; have B4 := Lib.hid b4
    clear x0 x1
    obtain ⟨⟨x0, x1⟩, -⟩ := HC.out _ b4
    clear h4 b4 H3 B3
    go_wp2_with fail
    refine (CB.out _).mono ?_
    rintro r w5 ⟨rfl, rfl⟩
    go_wp2_with fail
    refine (wbits_to w2 _ _ _ _ cb _ H4.out B4.out hcb (by omega) (by omega) (by simp [beN_len])).mono ?_
    rintro r w5 ⟨rfl, ⟨ob5, h5⟩, b5⟩
    have CD := wdone_any _ _ _ _ w5 h5
    rw [show doneS _ = ⟨TQ.toArray⟩ from by rw [doneS, if_pos rfl, HT.out]; rfl] at CD
    have CD := Lib.hid CD
    have B5 := Lib.hid b5
    clear h5 b5 H4 B4
    go_wp2_with fail
    refine CD.out.mono ?_
    rintro r w6 ⟨rfl, b6⟩
    have HB := Lib.hid (HC.out _ (bthen B5.out b6)).2
    clear b6 CD
    go_wp2_with fail
    go_ret2
    exact ⟨rfl, HB.out⟩
  · rw [decide_eq_false h] at CW
    have CW := Lib.hid CW
    have HX := Lib.hid (show resText c b = ⟨#[]⟩ ∧ resErr c = 1 by rw [resText, resErr, if_neg h, if_neg h]; exact ⟨rfl, rfl⟩)
    rw [HX.out.1, HX.out.2]
    clear HX hb h
    go_enter Tryz.func65, Tryz.ntmps65
    go_wp2_with fail
    refine (CW.out _).mono ?_
    rintro r w1 ⟨rfl, rfl⟩
    go_wp2_with fail
    go_ret2
    exact ⟨rfl, below_alloc _ _⟩

set_option maxHeartbeats 1000000 in
theorem rrestext_any (c : Int) (b : Nat) (w : World) (hb : b < 18446744073709551616) :
    Calls Tryz.prog 92 #[.agg #[.int .i64 c, .float .f64 b]] w fun e w' => e = .returned (.tuple #[.string (resText c b), .int .i64 (resErr c)]) ∧ Below w.heap.size w w' := by
  have HC := Lib.hid (res_box w c b)
  by_cases h : 0 ≤ c ∧ c ≤ 8
  · have HX := Lib.hid (show resText c b = ⟨(resQ c b).toArray⟩ ∧ resErr c = 0 by rw [resText, resErr, if_pos h, if_pos h]; exact ⟨rfl, rfl⟩)
    rw [HX.out.1, HX.out.2]
    have CB := Lib.hid (fun (w : World) => bits02_any b hb w)
    have hcb := canonB_lt hb
    have HT := Lib.hid (show resQ c b = beN c.toNat 1 ++ beN (canonB b) 8 from rfl)
    generalize resQ c b = TQ at *
    generalize canonB b = cb at *
    have t1 : decide (c < 0) = false := by simp; omega
    have t2 : decide (c > 8) = false := by simp; omega
    have t3 : decide (8 < c) = false := by simp; omega
    clear HX hb
    go_enter Tryz.func92, Tryz.ntmps92
    go_wp2_with fail
    generalize hw2 : w.alloc (.cells #[.int .i64 c, .float .f64 b] 29) = w2 at *
    clear hw2
    refine (rnew_any 9 w2).mono ?_
    rintro r w3 ⟨rfl, h3, b3⟩
    have H3 := Lib.hid (show RWr w3 w2.heap.size w2.heap.size none ⟨[], 9, 0⟩ from h3)
    have B3 := Lib.hid b3
    obtain ⟨⟨x0, x1⟩, -⟩ := HC.out _ b3
    clear h3 b3
    go_wp2_with fail
    refine (rnum_to w2 _ _ _ _ c 1 _ H3.out B3.out (by omega) (by omega) (by omega) (by omega) (by omega) (by simp)).mono ?_
    rintro r w4 ⟨rfl, ⟨ob4, h4⟩, b4⟩
    have H4 := Lib.hid h4; have B4 := Lib.hid b4
    clear x0 x1
    obtain ⟨⟨x0, x1⟩, -⟩ := HC.out _ b4
    clear h4 b4 H3 B3
    go_wp2_with fail
    refine (CB.out _).mono ?_
    rintro r w5 ⟨rfl, rfl⟩
    go_wp2_with fail
    refine (rwbits_to w2 _ _ _ _ cb _ H4.out B4.out hcb (by omega) (by omega) (by simp [beN_len])).mono ?_
    rintro r w5 ⟨rfl, ⟨ob5, h5⟩, b5⟩
    have CD := rdone_any _ _ _ _ w5 h5
    rw [show doneS _ = ⟨TQ.toArray⟩ from by rw [doneS, if_pos rfl, HT.out]; rfl] at CD
    have CD := Lib.hid CD
    have B5 := Lib.hid b5
    clear h5 b5 H4 B4
    go_wp2_with fail
    refine CD.out.mono ?_
    rintro r w6 ⟨rfl, b6⟩
    have HB := Lib.hid (HC.out _ (bthen B5.out b6)).2
    clear b6 CD
    go_wp2_with fail
    go_ret2
    exact ⟨rfl, HB.out⟩
  · have HX := Lib.hid (show resText c b = ⟨#[]⟩ ∧ resErr c = 1 by rw [resText, resErr, if_neg h, if_neg h]; exact ⟨rfl, rfl⟩)
    rw [HX.out.1, HX.out.2]
    by_cases h0 : c < 0
    · have t1 : decide (c < 0) = true := by simp; omega
      clear HX hb h
      go_enter Tryz.func92, Tryz.ntmps92
      go_wp2_with fail
      go_ret2
      exact ⟨rfl, below_alloc _ _⟩
    · have t1 : decide (c < 0) = false := by simp; omega
      have t3 : decide (8 < c) = true := by simp; omega
      clear HX hb h
      go_enter Tryz.func92, Tryz.ntmps92
      go_wp2_with fail
      go_ret2
      exact ⟨rfl, below_alloc _ _⟩
end Go.Proofs.YtijeieamodjgbaaGreat
