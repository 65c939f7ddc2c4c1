
/- Walks of Text of the reference. -/
import Derived.Test.YtdeomokhjmnfhaaTxW
namespace Go.Proofs.Ytdeomokhjmnfhaa
open Go.RowKit
set_option linter.unusedVariables false

set_option maxHeartbeats 400000 in
theorem rtext_no (e : Int) (a : Option Addr) (n c : Nat) (l : List Int) (w : World) (h : IntsAt w a n l) (hno : rightB e l = false) :
    Calls Try.prog 26 #[.agg #[.int .i64 e, .slice a n c]] w fun r w' => r = .returned (.tuple #[.string ⟨#[]⟩, .int .i64 1]) ∧ Below w.heap.size w w' := by
  have H := Lib.hid h; clear h
  have Hr := Lib.hid hno; clear hno
  go_enter Try.func26, Try.ntmps26
  go_wp2_with (go_at_call 31; refine (rright_any e a n c l _ (H.out.alloc _)).mono ?_; rw [Hr.out]; rintro e w' ⟨rfl, hb⟩)
  go_ret2
  exact ⟨rfl, bthen (below_alloc _ _) hb⟩

set_option maxHeartbeats 1000000 in
theorem rtext_yes (e : Int) (a : Option Addr) (n c : Nat) (l : List Int) (w : World) (h : IntsAt w a n l) (hyes : rightB e l = true) :
    Calls Try.prog 26 #[.agg #[.int .i64 e, .slice a n c]] w fun r w' => r = .returned (.tuple #[.string ⟨(textP e l).toArray⟩, .int .i64 0]) ∧ Below w.heap.size w w' := by
  obtain ⟨e0, e1, hris⟩ := rightB_rising hyes
  have hl := risingB_len hris
  have hrg := risingB_range hris
  have hlen := h.len
  rw [hlen] at hl
  have H := Lib.hid (h.alloc (.cells #[.int .i64 e, .slice a n c] 24)); clear h
  have Hr := Lib.hid hyes; have Hrg := Lib.hid hrg; have Hlen := Lib.hid hlen
  clear hyes hrg hris hlen
  go_enter Try.func26, Try.ntmps26
  go_wp2_with fail
  refine (rright_any e a n c l _ H.out).mono ?_
  rw [Hr.out]
  rintro e' w1 ⟨rfl, b1⟩
  have q0 := below_cell b1 (b := w.heap.size) (o := 0) (v := .int .i64 e) (by simp)
  have q1 := below_cell b1 (b := w.heap.size) (o := 1) (v := .slice a n c) (by simp)
  replace H := Lib.hid (H.out.below b1)
  have B := Lib.hid (bthen (below_alloc w _) b1); clear b1
  go_wp2_with fail
  refine (rnew_any _ _).mono ?_
  rintro e' w2 ⟨rfl, hw, b2⟩
  have r0 := below_cell b2 q0; have r1 := below_cell b2 q1
  have Hw := Lib.hid (show RWr w2 w1.heap.size w1.heap.size none ⟨[], 100, 0⟩ from hw)
  have B2 := Lib.hid b2; clear b2 hw
  go_wp2_with fail
  refine (rnum_to w1 _ _ _ _ 67 1 _ Hw.out B2.out (by omega) (by omega) (by decide) (by omega) (by omega) (by simp)).mono ?_
  rintro e' w3 ⟨rfl, ⟨ob3, hw3⟩, b3⟩
  clear r0 r1
  have r0 := below_cell b3 q0; have r1 := below_cell b3 q1
  have Hw3 := Lib.hid hw3; have B3 := Lib.hid b3; clear hw3 b3 Hw B2
  go_wp2_with fail
  refine (rnum_to w1 _ _ _ _ e 2 _ Hw3.out B3.out (by omega) (by omega) (by show e < 65536; omega) (by omega) (by omega) (by simp [beN_len])).mono ?_
  rintro e' w4 ⟨rfl, ⟨ob4, hw4⟩, b4⟩
  clear r0 r1
  have r0 := below_cell b4 q0; have r1 := below_cell b4 q1
  have Hw4 := Lib.hid hw4; have B4 := Lib.hid b4; clear hw4 b4 Hw3 B3
  go_wp2_with fail
  refine (rnum_to w1 _ _ _ _ (n : Int) 1 _ Hw4.out B4.out (by omega) (by omega) (by show (n : Int) < 256; omega) (by omega) (by omega) (by simp [beN_len])).mono ?_
  rintro e' w5 ⟨rfl, ⟨ob5, hw5⟩, b5⟩
  clear r0 r1
  have Hw5 := Lib.hid (show ∃ ob, RWr w5 w1.heap.size w1.heap.size ob ⟨textHead e n ++ byteL (l.take 0), 96 - (0 : Nat), 0⟩ by
    refine ⟨ob5, ?_⟩
    rw [Int.toNat_natCast] at hw5
    simpa [textHead, byteL] using hw5)
  have B5 := Lib.hid b5; clear hw5 b5 Hw4 B4
  have Q0 := Lib.hid q0; have Q1 := Lib.hid q1; clear q0 q1
  go_wp2_with fail
  go_loopw [5] (fun i wr => ∃ k : Nat, k ≤ n ∧ i = .int .i64 k ∧ Hid (∃ ob, RWr wr w1.heap.size w1.heap.size ob ⟨textHead e n ++ byteL (l.take k), 96 - (k : Int), 0⟩) ∧ Hid (Below w1.heap.size w1 wr)) (fun i _ => n - (intOf i).toNat)
  case atStart => exact ⟨0, by omega, rfl, Hw5, B5⟩
  case round =>
    clear Hw5 B5
    obtain ⟨k, hk, rfl, Hw, Bk⟩ := hrel
    have r1 := below_cell Bk.out Q1.out
    by_cases hlt : k < n
    · obtain ⟨b, o, x, rfl, hc, _, _, _, hx⟩ := (H.out.below Bk.out).elem k hlt
      obtain ⟨hx0, hx1⟩ := Hrg.out x (List.mem_of_getElem? hx.out)
      have ht := Lib.hid (show byteL (l.take (k + 1)) = byteL (l.take k) ++ beN x.toNat 1 by
        rw [List.take_add_one, hx.out]; exact byteL_snoc _ _)
      obtain ⟨ob, hw⟩ := Hw.out
      have CB := Lib.hid (rnum_to w1 _ ob _ _ x 1 wr hw Bk.out (by omega) (by omega) (by show x < 256; omega) (by omega) (by omega) (by
        rw [List.length_append, textHead_len, byteL_len, List.length_take]; omega))
      clear hw hx Hw
      go_wp2_with fail
      refine CB.out.mono ?_
      rintro e' w6 ⟨rfl, ⟨ob6, hw6⟩, b6⟩
      have Hw6 := Lib.hid (show ∃ ob, RWr w6 w1.heap.size w1.heap.size ob ⟨textHead e n ++ byteL (l.take (k + 1)), 96 - ((k + 1 : Nat) : Int), 0⟩ by
        refine ⟨ob6, ?_⟩
        rw [ht.out, ← List.append_assoc, show (96 : Int) - ((k + 1 : Nat) : Int) = 96 - k - (1 : Nat) by omega]
        exact hw6)
      have B6 := Lib.hid b6; clear hw6 b6 CB Bk ht hc r1
      go_wp2_with fail
      go_roundw
      case rel => exact ⟨k + 1, by omega, by go_num, Hw6, B6⟩
      case measure => simp [intOf]; omega
    · obtain rfl : k = n := by omega
      obtain ⟨ob, hw⟩ := Hw.out
      have CD := rdone_any _ _ _ _ wr hw
      have hd : doneS ⟨textHead e k ++ byteL (l.take k), 96 - (k : Int), 0⟩ = ⟨(textP e l).toArray⟩ := by
        rw [doneS, if_pos rfl, textP_eq, Hlen.out, List.take_of_length_le (by rw [Hlen.out]; exact Nat.le_refl _)]
      rw [hd] at CD
      have CD := Lib.hid CD
      clear hw Hw hd
      go_wp2_with fail
      refine CD.out.mono ?_
      rintro e' w7 ⟨rfl, b7⟩
      have B7 := Lib.hid (bthen Bk.out b7)
      clear b7
      go_wp2_with fail
      go_ret2
      exact ⟨rfl, bthen B.out B7.out⟩

/-- What Text tells. -/
def textS (e : Int) (l : List Int) : ByteArray := if rightB e l = true then ⟨(textP e l).toArray⟩ else ⟨#[]⟩
def textE (e : Int) (l : List Int) : Int := if rightB e l = true then 0 else 1
theorem text_any (e : Int) (a : Option Addr) (n c : Nat) (l : List Int) (w : World) (h : IntsAt w a n l) :
    Calls Try.prog 28 #[.agg #[.int .i64 e, .slice a n c]] w fun r w' => r = .returned (.tuple #[.string (textS e l), .int .i64 (textE e l)]) ∧ Below w.heap.size w w' := by
  cases hr : rightB e l with
  | true => rw [textS, textE, if_pos hr, if_pos hr]; exact text_yes e a n c l w h hr
  | false => rw [textS, textE, if_neg (by simp [hr]), if_neg (by simp [hr])]; exact text_no e a n c l w h hr
theorem rtext_any (e : Int) (a : Option Addr) (n c : Nat) (l : List Int) (w : World) (h : IntsAt w a n l) :
    Calls Try.prog 26 #[.agg #[.int .i64 e, .slice a n c]] w fun r w' => r = .returned (.tuple #[.string (textS e l), .int .i64 (textE e l)]) ∧ Below w.heap.size w w' := by
  cases hr : rightB e l with
  | true => rw [textS, textE, if_pos hr, if_pos hr]; exact rtext_yes e a n c l w h hr
  | false => rw [textS, textE, if_neg (by simp [hr]), if_neg (by simp [hr])]; exact rtext_no e a n c l w h hr
end Go.Proofs.Ytdeomokhjmnfhaa
