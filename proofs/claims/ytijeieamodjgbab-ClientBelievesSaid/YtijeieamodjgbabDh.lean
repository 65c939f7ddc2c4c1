
/- Texts behind a sign and numbers: plain, and walks of both layers' Prepared and State; ResultText, SameResult. -/
import Derived.Test.YtijeieamodjgbabDt
import Derived.Test.YtijeieamodjgbabDh0
import Derived.Laws.Concat
import Derived.Test.YtijeieamodjgbabVal
import Derived.Test.YtijeieamodjgbabQuiet
import Derived.Deep.AppendLies
import Derived.Deep.RegionLaw
import Derived.Deep.RegionHeld3

namespace Go.Proofs.Ytijeieamodjgbab
set_option maxRecDepth 100000
open Go.RowKit
set_option linter.unusedVariables false
set_option linter.unusedSimpArgs false

theorem textQ_len (c s kind : Int) (key : ByteArray) (b : Nat) (id : Int) : (textQ c s kind key b id).length = 18 + key.size := by
  simp only [textQ, List.length_append, beN_len, ByteArray.size, Array.length_toList]
  omega
theorem Rq.text_size (r : Rq) : r.text.size ≤ 100 := by
  unfold Rq.text rqText
  split
  · simp [ByteArray.size]
  · split
    · rename_i h
      have h1 := (rightQ_parts h).2.2.2.2.2.2.1
      have h2 := textQ_len r.c r.s r.kind r.key r.b r.id
      simp only [ByteArray.size, List.size_toArray]
      simp only [ByteArray.size] at h1 h2
      omega
    · simp [ByteArray.size]

end Go.Proofs.Ytijeieamodjgbab

/- What a text is read as, as a request: plain, and walk of the program's Read; Request of an Ask. -/
namespace Go.Proofs.Ytijeieamodjgbab
set_option maxRecDepth 100000
open Go.RowKit
set_option linter.unusedVariables false
set_option linter.unusedSimpArgs false

def q1 (t : List UInt8) : R := rNext ⟨t, false⟩ 1
def q2 (t : List UInt8) : R := rNext (q1 t) 1
def q3 (t : List UInt8) : R := rNext (q2 t) 4
def q4 (t : List UInt8) : R := rNext (q3 t) 1
def q5 (t : List UInt8) : R := tNext (q4 t)
def q6 (t : List UInt8) : R := rNext (q5 t) 8
def q7 (t : List UInt8) : R := rNext (q6 t) 1
def qHead (t : List UInt8) : Nat := rVal ⟨t, false⟩ 1
def qReal (t : List UInt8) : Nat := rVal (q5 t) 8
def rdRq (t : List UInt8) : Rq := ⟨rVal (q1 t) 1, rVal (q2 t) 4, rVal (q3 t) 1, ⟨(tVal (q4 t)).toArray⟩, fromV (qReal t), rVal (q6 t) 1⟩
def Rq.right (r : Rq) : Bool := rightQ r.c r.s r.kind r.key r.b r.id
def rdOk (t : List UInt8) : Bool := decide (endE (q7 t) = 0) && decide (qHead t = 1) && fromOk (qReal t) && (rdRq t).right
def zeroRq : Rq := ⟨0, 0, 0, ⟨#[]⟩, 0, 0⟩
def readRq (t : List UInt8) : Rq := if rdOk t = true then rdRq t else zeroRq
def readErr (t : List UInt8) : Int := if rdOk t = true then 0 else if t = [0] then 0 else 5
theorem zero_bad : endE (q7 [0]) = 2 := by decide
theorem rdOk_no {t : List UInt8} (h : ¬ endE (q7 t) = 0) : rdOk t = false := by rw [rdOk, decide_eq_false h]; rfl
theorem readRq_no {t : List UInt8} (h : rdOk t = false) : readRq t = zeroRq := by rw [readRq, if_neg (by simp [h])]
theorem readErr_no {t : List UInt8} (h : rdOk t = false) (h2 : ¬ t = [0]) : readErr t = 5 := by rw [readErr, if_neg (by simp [h]), if_neg h2]
theorem readErr_nil {t : List UInt8} (h : t = [0]) : readErr t = 0 := by subst h; rw [readErr]; split <;> first | rfl | (rw [if_pos rfl])
theorem right_rq (r : Rq) (h : r.Ok) (w : World) : Calls Try.prog 31 #[r.v] w fun e w' => e = .returned (.bool r.right) ∧ Below w.heap.size w w' := qright_any _ _ _ _ _ _ w h.key
theorem run_store_float {P : Program} {w : World} {a : Addr} {m : Mode} (k : FloatKind) (b : Nat) : (store a (.float k b) m).run P w = stored P w a (.float k b) m := run_store P w a _ m rfl
attribute [local go_sem] run_store_float
structure ResAt (w : World) (p : Nat) : Prop where
  blk : w.heap[p]? = some (.cells #[.int .i64 0, .int .i64 0, .int .i64 0, .string ⟨#[]⟩, .float .f64 0, .int .i64 0] 35 (0, 0))
theorem ResAt.cells {w : World} {p : Nat} (h : ResAt w p) : RqAt w p 0 0 0 ⟨#[]⟩ 0 0 := rqAt_blk h.blk
theorem ResAt.frozen {w : World} {p : Nat} (h : ResAt w p) (i : Nat) : w.frozen? ⟨p, i, none⟩ = false := blk_frozen h.blk _
theorem ResAt.below {w w' : World} {p : Nat} (h : ResAt w p) (hb : Below w.heap.size w w') : ResAt w' p := ⟨blk_below h.blk hb⟩

end Go.Proofs.Ytijeieamodjgbab

/- Results: ResultText, SameResult of both layers. -/
namespace Go.Proofs.Ytijeieamodjgbab
set_option maxRecDepth 100000
open Go.RowKit
set_option linter.unusedVariables false
set_option linter.unusedSimpArgs false
attribute [local go_sem] run_store_float

def resQ (c : Int) (b : Nat) : List UInt8 := beN c.toNat 1 ++ beN (canonB b) 8
def resText (c : Int) (b : Nat) : ByteArray := if 0 ≤ c ∧ c ≤ 8 then ⟨(resQ c b).toArray⟩ else ⟨#[]⟩
def resErr (c : Int) : Int := if 0 ≤ c ∧ c ≤ 8 then 0 else 1
theorem res_box (w : World) (c : Int) (b : Nat) : ∀ w', Below (w.alloc (.cells #[.int .i64 c, .float .f64 b] 45)).heap.size (w.alloc (.cells #[.int .i64 c, .float .f64 b] 45)) w' → (w'.cell? ⟨w.heap.size, 0, none⟩ = some (.int .i64 c) ∧ w'.cell? ⟨w.heap.size, 1, none⟩ = some (.float .f64 b)) ∧ Below w.heap.size w w' := fun w' hb => by
  have := blk_below (blk_alloc _ _) hb
  exact ⟨⟨by rw [blk_cell this]; rfl, by rw [blk_cell this]; rfl⟩, bthen (below_alloc _ _) hb⟩

set_option maxHeartbeats 1000000 in
theorem restext_any (c : Int) (b : Nat) (w : World) (hb : b < 18446744073709551616) :
    Calls Try.prog 59 #[.agg #[.int .i64 c, .float .f64 b]] w fun e w' => e = .returned (.tuple #[.string (resText c b), .int .i64 (resErr c)]) ∧ Below w.heap.size w w' := by
  have HC := Lib.hid (res_box w c b)
  have CW := within_any c 0 8
  by_cases h : 0 ≤ c ∧ c ≤ 8
  · rw [decide_eq_true h] at CW
    have CW := Lib.hid CW
    have HX := Lib.hid (show resText c b = ⟨(resQ c b).toArray⟩ ∧ resErr c = 0 by rw [resText, resErr, if_pos h, if_pos h]; exact ⟨rfl, rfl⟩)
    rw [HX.out.1, HX.out.2]
    have CB := Lib.hid (fun (w : World) => rbits2_any b w)
    have hcb := canonB_lt hb
    have HT := Lib.hid (show resQ c b = beN c.toNat 1 ++ beN (canonB b) 8 from rfl)
    generalize resQ c b = TQ at *
    generalize canonB b = cb at *
    clear HX hb
    go_enter Try.func59, Try.ntmps59
    go_wp2_with fail
    refine (CW.out _).mono ?_
    rintro r w1 ⟨rfl, rfl⟩
    go_wp2_with fail
    generalize hw2 : w.alloc (.cells #[.int .i64 c, .float .f64 b] 45) = w2 at *
    clear hw2
    refine (wnew_any 64 w2).mono ?_
    rintro r w3 ⟨rfl, h3, b3⟩
    have H3 := Lib.hid (show PWr w3 w2.heap.size w2.heap.size none ⟨[], 64, 0⟩ from h3)
    have B3 := Lib.hid b3
    obtain ⟨⟨x0, x1⟩, -⟩ := HC.out _ b3
    clear h3 b3
    go_wp2_with fail
    refine (wbyte_to w2 _ _ _ _ c _ H3.out B3.out (by omega) (by omega) (by omega) (by omega) (by simp)).mono ?_
    rintro r w4 ⟨rfl, ⟨ob4, h4⟩, b4⟩
    have H4 := Lib.hid h4; have B4 := Lib.hid b4
    clear x0 x1
    obtain ⟨⟨x0, x1⟩, -⟩ := HC.out _ b4
    clear h4 b4 H3 B3
    go_wp2_with fail
    refine (CB.out _).mono ?_
    rintro r w5 ⟨rfl, rfl⟩
    go_wp2_with fail
    refine (wbits_to w2 _ _ _ _ cb _ H4.out B4.out hcb (by omega) (by omega) (by simp [beN_len])).mono ?_
    rintro r w5 ⟨rfl, ⟨ob5, h5⟩, b5⟩
    have CD := wdone_any _ _ _ _ w5 h5
    rw [show doneS _ = ⟨TQ.toArray⟩ from by rw [doneS, if_pos rfl, HT.out]; rfl] at CD
    have CD := Lib.hid CD
    have B5 := Lib.hid b5
    clear h5 b5 H4 B4
    go_wp2_with fail
    refine CD.out.mono ?_
    rintro r w6 ⟨rfl, b6⟩
    have HB := Lib.hid (HC.out _ (bthen B5.out b6)).2
    clear b6 CD
    go_wp2_with fail
    go_ret2
    exact ⟨rfl, HB.out⟩
  · rw [decide_eq_false h] at CW
    have CW := Lib.hid CW
    have HX := Lib.hid (show resText c b = ⟨#[]⟩ ∧ resErr c = 1 by rw [resText, resErr, if_neg h, if_neg h]; exact ⟨rfl, rfl⟩)
    rw [HX.out.1, HX.out.2]
    clear HX hb h
    go_enter Try.func59, Try.ntmps59
    go_wp2_with fail
    refine (CW.out _).mono ?_
    rintro r w1 ⟨rfl, rfl⟩
    go_wp2_with fail
    go_ret2
    exact ⟨rfl, below_alloc _ _⟩

end Go.Proofs.Ytijeieamodjgbab
