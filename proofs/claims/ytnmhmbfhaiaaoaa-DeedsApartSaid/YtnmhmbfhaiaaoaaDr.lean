
/- Results: ResultText, SameResult of both layers. -/
import Derived.Test.YtnmhmbfhaiaaoaaDq
namespace Go.Proofs.Ytnmhmbfhaiaaoaa
set_option maxRecDepth 100000
open Go.RowKit
set_option linter.unusedVariables false
set_option linter.unusedSimpArgs false
attribute [local go_sem] run_store_float

def resQ (c : Int) (b : Nat) : List UInt8 := beN c.toNat 1 ++ beN (canonB b) 8
def resText (c : Int) (b : Nat) : ByteArray := if 0 ≤ c ∧ c ≤ 8 then ⟨(resQ c b).toArray⟩ else ⟨#[]⟩
def resErr (c : Int) : Int := if 0 ≤ c ∧ c ≤ 8 then 0 else 1
theorem res_box (w : World) (c : Int) (b : Nat) : ∀ w', Below (w.alloc (.cells #[.int .i64 c, .float .f64 b] 42)).heap.size (w.alloc (.cells #[.int .i64 c, .float .f64 b] 42)) w' → (w'.cell? ⟨w.heap.size, 0, none⟩ = some (.int .i64 c) ∧ w'.cell? ⟨w.heap.size, 1, none⟩ = some (.float .f64 b)) ∧ Below w.heap.size w w' := fun w' hb => by
  have := blk_below (blk_alloc _ _) hb
  exact ⟨⟨by rw [blk_cell this]; rfl, by rw [blk_cell this]; rfl⟩, bthen (below_alloc _ _) hb⟩

set_option maxHeartbeats 1000000 in
theorem restext_any (c : Int) (b : Nat) (w : World) (hb : b < 18446744073709551616) :
    Calls Try.prog 27 #[.agg #[.int .i64 c, .float .f64 b]] w fun e w' => e = .returned (.tuple #[.string (resText c b), .int .i64 (resErr c)]) ∧ Below w.heap.size w w' := by
  have HC := Lib.hid (res_box w c b)
  have CW := within_any c 0 8
  by_cases h : 0 ≤ c ∧ c ≤ 8
  · rw [decide_eq_true h] at CW
    have CW := Lib.hid CW
    have HX := Lib.hid (show resText c b = ⟨(resQ c b).toArray⟩ ∧ resErr c = 0 by rw [resText, resErr, if_pos h, if_pos h]; exact ⟨rfl, rfl⟩)
    rw [HX.out.1, HX.out.2]
    have CB := Lib.hid (fun (w : World) => rbits2_any b w)
    have hcb := canonB_lt hb
    have HT := Lib.hid (show resQ c b = beN c.toNat 1 ++ beN (canonB b) 8 from rfl)
    generalize resQ c b = TQ at *
    generalize canonB b = cb at *
    clear HX hb
    go_enter Try.func27, Try.ntmps27
    go_wp2_with fail
    refine (CW.out _).mono ?_
    rintro r w1 ⟨rfl, rfl⟩
    go_wp2_with fail
    generalize hw2 : w.alloc (.cells #[.int .i64 c, .float .f64 b] 42) = w2 at *
    clear hw2
    refine (wnew_any 64 w2).mono ?_
    rintro r w3 ⟨rfl, h3, b3⟩
    have H3 := Lib.hid (show PWr w3 w2.heap.size w2.heap.size none ⟨[], 64, 0⟩ from h3)
    have B3 := Lib.hid b3
    obtain ⟨⟨x0, x1⟩, -⟩ := HC.out _ b3
    clear h3 b3
    go_wp2_with fail
    refine (wbyte_to w2 _ _ _ _ c _ H3.out B3.out (by omega) (by omega) (by omega) (by omega) (by simp)).mono ?_
    rintro r w4 ⟨rfl, ⟨ob4, h4⟩, b4⟩
    have H4 := Lib.hid h4; have B4 := Lib.hid b4
    clear x0 x1
    obtain ⟨⟨x0, x1⟩, -⟩ := HC.out _ b4
    clear h4 b4 H3 B3
    go_wp2_with fail
    refine (CB.out _).mono ?_
    rintro r w5 ⟨rfl, rfl⟩
    go_wp2_with fail
    refine (wbits_to w2 _ _ _ _ cb _ H4.out B4.out hcb (by omega) (by omega) (by simp [beN_len])).mono ?_
    rintro r w5 ⟨rfl, ⟨ob5, h5⟩, b5⟩
    have CD := wdone_any _ _ _ _ w5 h5
    rw [show doneS _ = ⟨TQ.toArray⟩ from by rw [doneS, if_pos rfl, HT.out]; rfl] at CD
    have CD := Lib.hid CD
    have B5 := Lib.hid b5
    clear h5 b5 H4 B4
    go_wp2_with fail
    refine CD.out.mono ?_
    rintro r w6 ⟨rfl, b6⟩
    have HB := Lib.hid (HC.out _ (bthen B5.out b6)).2
    clear b6 CD
    go_wp2_with fail
    go_ret2
    exact ⟨rfl, HB.out⟩
  · rw [decide_eq_false h] at CW
    have CW := Lib.hid CW
    have HX := Lib.hid (show resText c b = ⟨#[]⟩ ∧ resErr c = 1 by rw [resText, resErr, if_neg h, if_neg h]; exact ⟨rfl, rfl⟩)
    rw [HX.out.1, HX.out.2]
    clear HX hb h
    go_enter Try.func27, Try.ntmps27
    go_wp2_with fail
    refine (CW.out _).mono ?_
    rintro r w1 ⟨rfl, rfl⟩
    go_wp2_with fail
    go_ret2
    exact ⟨rfl, below_alloc _ _⟩

set_option maxHeartbeats 1000000 in
theorem rrestext_any (c : Int) (b : Nat) (w : World) (hb : b < 18446744073709551616) :
    Calls Try.prog 28 #[.agg #[.int .i64 c, .float .f64 b]] w fun e w' => e = .returned (.tuple #[.string (resText c b), .int .i64 (resErr c)]) ∧ Below w.heap.size w w' := by
  have HC := Lib.hid (res_box w c b)
  by_cases h : 0 ≤ c ∧ c ≤ 8
  · have HX := Lib.hid (show resText c b = ⟨(resQ c b).toArray⟩ ∧ resErr c = 0 by rw [resText, resErr, if_pos h, if_pos h]; exact ⟨rfl, rfl⟩)
    rw [HX.out.1, HX.out.2]
    have CB := Lib.hid (fun (w : World) => bits02_any b hb w)
    have hcb := canonB_lt hb
    have HT := Lib.hid (show resQ c b = beN c.toNat 1 ++ beN (canonB b) 8 from rfl)
    generalize resQ c b = TQ at *
    generalize canonB b = cb at *
    have t1 : decide (c < 0) = false := by simp; omega
    have t2 : decide (c > 8) = false := by simp; omega
    have t3 : decide (8 < c) = false := by simp; omega
    clear HX hb
    go_enter Try.func28, Try.ntmps28
    go_wp2_with fail
    generalize hw2 : w.alloc (.cells #[.int .i64 c, .float .f64 b] 42) = w2 at *
    clear hw2
    refine (rnew_any 9 w2).mono ?_
    rintro r w3 ⟨rfl, h3, b3⟩
    have H3 := Lib.hid (show RWr w3 w2.heap.size w2.heap.size none ⟨[], 9, 0⟩ from h3)
    have B3 := Lib.hid b3
    obtain ⟨⟨x0, x1⟩, -⟩ := HC.out _ b3
    clear h3 b3
    go_wp2_with fail
    refine (rnum_to w2 _ _ _ _ c 1 _ H3.out B3.out (by omega) (by omega) (by omega) (by omega) (by omega) (by simp)).mono ?_
    rintro r w4 ⟨rfl, ⟨ob4, h4⟩, b4⟩
    have H4 := Lib.hid h4; have B4 := Lib.hid b4
    clear x0 x1
    obtain ⟨⟨x0, x1⟩, -⟩ := HC.out _ b4
    clear h4 b4 H3 B3
    go_wp2_with fail
    refine (CB.out _).mono ?_
    rintro r w5 ⟨rfl, rfl⟩
    go_wp2_with fail
    refine (rwbits_to w2 _ _ _ _ cb _ H4.out B4.out hcb (by omega) (by omega) (by simp [beN_len])).mono ?_
    rintro r w5 ⟨rfl, ⟨ob5, h5⟩, b5⟩
    have CD := rdone_any _ _ _ _ w5 h5
    rw [show doneS _ = ⟨TQ.toArray⟩ from by rw [doneS, if_pos rfl, HT.out]; rfl] at CD
    have CD := Lib.hid CD
    have B5 := Lib.hid b5
    clear h5 b5 H4 B4
    go_wp2_with fail
    refine CD.out.mono ?_
    rintro r w6 ⟨rfl, b6⟩
    have HB := Lib.hid (HC.out _ (bthen B5.out b6)).2
    clear b6 CD
    go_wp2_with fail
    go_ret2
    exact ⟨rfl, HB.out⟩
  · have HX := Lib.hid (show resText c b = ⟨#[]⟩ ∧ resErr c = 1 by rw [resText, resErr, if_neg h, if_neg h]; exact ⟨rfl, rfl⟩)
    rw [HX.out.1, HX.out.2]
    by_cases h0 : c < 0
    · have t1 : decide (c < 0) = true := by simp; omega
      clear HX hb h
      go_enter Try.func28, Try.ntmps28
      go_wp2_with fail
      go_ret2
      exact ⟨rfl, below_alloc _ _⟩
    · have t1 : decide (c < 0) = false := by simp; omega
      have t3 : decide (8 < c) = true := by simp; omega
      clear HX hb h
      go_enter Try.func28, Try.ntmps28
      go_wp2_with fail
      go_ret2
      exact ⟨rfl, below_alloc _ _⟩
end Go.Proofs.Ytnmhmbfhaiaaoaa
