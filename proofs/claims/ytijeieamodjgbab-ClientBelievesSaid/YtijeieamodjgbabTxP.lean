
/- Plain law: a configuration's bytes. No program in sight. -/
import Derived.Test.YtijeieamodjgbabCoP
import Derived.Test.YtijeieamodjgbabPkM
import Derived.Test.YtijeieamodjgbabCoW
import Derived.Test.YtijeieamodjgbabPkW
import Derived.Test.YtijeieamodjgbabRdW
import Derived.Test.YtijeieamodjgbabQuiet

namespace Go.Proofs.Ytijeieamodjgbab
set_option maxRecDepth 100000
set_option linter.unusedVariables false

def byteL (l : List Int) : List UInt8 := l.map fun x => UInt8.ofNat x.toNat
/-- A right configuration's bytes. -/
def textP (e : Int) (l : List Int) : List UInt8 := beN 67 1 ++ beN e.toNat 2 ++ beN l.length 1 ++ byteL l
def textHead (e : Int) (n : Nat) : List UInt8 := beN 67 1 ++ beN e.toNat 2 ++ beN n 1
theorem textP_eq (e : Int) (l : List Int) : textP e l = textHead e l.length ++ byteL l := rfl
theorem textHead_len (e : Int) (n : Nat) : (textHead e n).length = 4 := by simp [textHead, beN_len]
theorem byteL_len (l : List Int) : (byteL l).length = l.length := by simp [byteL]
theorem byteL_snoc (l : List Int) (x : Int) : byteL (l ++ [x]) = byteL l ++ beN x.toNat 1 := by
  simp only [byteL, List.map_append, List.map_cons, List.map_nil, beN, List.nil_append]
  congr 2
  apply UInt8.toNat_inj.1
  simp

theorem wByte_step (out : List UInt8) (room n : Int) (h0 : 0 ≤ n) (h1 : n ≤ 255) (hr : 1 ≤ room) :
    wPut ⟨out, room, 0⟩ (decide (0 ≤ n ∧ n ≤ 255)) (beN n.toNat 1) = ⟨out ++ beN n.toNat 1, room - 1, 0⟩ := by
  rw [show decide (0 ≤ n ∧ n ≤ 255) = true by simp; omega, wPut_ok rfl, wAdd_room (by rw [beN_len]; show ¬ room < _; omega), beN_len]; rfl
theorem wWord_step (out : List UInt8) (room n : Int) (h0 : 0 ≤ n) (h1 : n ≤ 65535) (hr : 2 ≤ room) :
    wPut ⟨out, room, 0⟩ (decide (0 ≤ n ∧ n ≤ 65535)) (beN n.toNat 2) = ⟨out ++ beN n.toNat 2, room - 2, 0⟩ := by
  rw [show decide (0 ≤ n ∧ n ≤ 65535) = true by simp; omega, wPut_ok rfl, wAdd_room (by rw [beN_len]; show ¬ room < _; omega), beN_len]; rfl
theorem wNum_step (out : List UInt8) (room n : Int) (k : Nat) (h0 : 0 ≤ n) (h1 : n < ((256 ^ k : Nat) : Int)) (hr : (k : Int) ≤ room) :
    wPut ⟨out, room, 0⟩ (decide (0 ≤ n ∧ n < ((256 ^ k : Nat) : Int))) (beN n.toNat k) = ⟨out ++ beN n.toNat k, room - k, 0⟩ := by
  rw [show decide (0 ≤ n ∧ n < ((256 ^ k : Nat) : Int)) = true by simp only [decide_eq_true_eq]; exact ⟨h0, h1⟩, wPut_ok rfl, wAdd_room (by rw [beN_len]; show ¬ room < _; omega), beN_len]
end Go.Proofs.Ytijeieamodjgbab

/- Walks of Text of the program and of the reference. -/
namespace Go.Proofs.Ytijeieamodjgbab
set_option maxRecDepth 100000
open Go.RowKit
set_option linter.unusedVariables false

/-- A byte written: what it leaves, told from an elder world on. -/
theorem wbyte_to (w0 : World) (p : Nat) (ob : Option Nat) (out : List UInt8) (room n : Int) (w : World) (h : PWr w w0.heap.size p ob ⟨out, room, 0⟩) (hb : Below w0.heap.size w0 w)
    (h0 : 0 ≤ n) (h1 : n ≤ 255) (hr : 1 ≤ room) (hr2 : room ≤ 1000) (hsz : out.length ≤ 1000) :
    Calls Try.prog 56 #[.pointer (some ⟨p, 0, none⟩), .int .i64 n] w fun e w' => e = .returned (.tuple #[]) ∧ (∃ ob', PWr w' w0.heap.size p ob' ⟨out ++ beN n.toNat 1, room - 1, 0⟩) ∧ Below w0.heap.size w0 w' := by
  refine (wbyte_any w0.heap.size p ob _ n w h hb.size ⟨⟨by show _ ≤ room; omega, by show room ≤ _; omega⟩, by show _ ≤ (0 : Int); omega, by show (0 : Int) ≤ _; omega⟩ (fits_of (by show out.length + 1 ≤ _; omega)) (by unfold i64; omega)).mono ?_
  rintro e w' ⟨rfl, ob', _, h2, h3⟩
  rw [wByte_step out room n h0 h1 hr] at h2
  exact ⟨rfl, ⟨ob', h2⟩, h3.below hb h.1 (fun k hk => (WAt.ob_lt h k hk).1)⟩
theorem wword_to (w0 : World) (p : Nat) (ob : Option Nat) (out : List UInt8) (room n : Int) (w : World) (h : PWr w w0.heap.size p ob ⟨out, room, 0⟩) (hb : Below w0.heap.size w0 w)
    (h0 : 0 ≤ n) (h1 : n ≤ 65535) (hr : 2 ≤ room) (hr2 : room ≤ 1000) (hsz : out.length ≤ 1000) :
    Calls Try.prog 57 #[.pointer (some ⟨p, 0, none⟩), .int .i64 n] w fun e w' => e = .returned (.tuple #[]) ∧ (∃ ob', PWr w' w0.heap.size p ob' ⟨out ++ beN n.toNat 2, room - 2, 0⟩) ∧ Below w0.heap.size w0 w' := by
  refine (wword_any w0.heap.size p ob _ n w h hb.size ⟨⟨by show _ ≤ room; omega, by show room ≤ _; omega⟩, by show _ ≤ (0 : Int); omega, by show (0 : Int) ≤ _; omega⟩ (fits_of (by show out.length + 2 ≤ _; omega)) (by unfold i64; omega)).mono ?_
  rintro e w' ⟨rfl, ob', _, h2, h3⟩
  rw [wWord_step out room n h0 h1 hr] at h2
  exact ⟨rfl, ⟨ob', h2⟩, h3.below hb h.1 (fun k hk => (WAt.ob_lt h k hk).1)⟩
theorem rnum_to (w0 : World) (p : Nat) (ob : Option Nat) (out : List UInt8) (room n : Int) (k : Nat) (w : World) (h : RWr w w0.heap.size p ob ⟨out, room, 0⟩) (hb : Below w0.heap.size w0 w) (hk : k ≤ 4)
    (h0 : 0 ≤ n) (h1 : n < ((256 ^ k : Nat) : Int)) (hr : (k : Int) ≤ room) (hr2 : room ≤ 1000) (hsz : out.length ≤ 1000) :
    Calls Try.prog 44 #[.pointer (some ⟨p, 0, none⟩), .int .i64 n, .int .i64 k] w fun e w' => e = .returned (.tuple #[]) ∧ (∃ ob', RWr w' w0.heap.size p ob' ⟨out ++ beN n.toNat k, room - k, 0⟩) ∧ Below w0.heap.size w0 w' := by
  have hp := pow4 k hk
  refine (rnum_any w0.heap.size p ob _ n k w h hb.size hk (by unfold i64; omega) ⟨by show 0 ≤ room; omega, by show room + (out.length : Int) ≤ _; omega⟩ (by show out.length + k ≤ _; omega)).mono ?_
  rintro e w' ⟨rfl, ob', _, h2, h3⟩
  rw [wNum_step out room n k h0 h1 hr] at h2
  exact ⟨rfl, ⟨ob', h2⟩, h3.below hb h.1 (fun k hk => (WAt.ob_lt h k hk).1)⟩

set_option maxHeartbeats 400000 in
theorem text_no (e : Int) (a : Option Addr) (n c : Nat) (l : List Int) (w : World) (h : IntsAt w a n l) (hno : rightB e l = false) :
    Calls Try.prog 63 #[.agg #[.int .i64 e, .slice a n c]] w fun r w' => r = .returned (.tuple #[.string ⟨#[]⟩, .int .i64 1]) ∧ Below w.heap.size w w' := by
  have H := Lib.hid h; clear h
  have Hr := Lib.hid hno; clear hno
  go_enter Try.func63, Try.ntmps63
  go_wp2_with (go_at_call 39; refine (right_any e a n c l _ (H.out.alloc _)).mono ?_; rw [Hr.out]; rintro e w' ⟨rfl, hb⟩)
  go_ret2
  exact ⟨rfl, bthen (below_alloc _ _) hb⟩

set_option maxHeartbeats 1000000 in
theorem text_yes (e : Int) (a : Option Addr) (n c : Nat) (l : List Int) (w : World) (h : IntsAt w a n l) (hyes : rightB e l = true) :
    Calls Try.prog 63 #[.agg #[.int .i64 e, .slice a n c]] w fun r w' => r = .returned (.tuple #[.string ⟨(textP e l).toArray⟩, .int .i64 0]) ∧ Below w.heap.size w w' := by
  obtain ⟨e0, e1, hris⟩ := rightB_rising hyes
  have hl := risingB_len hris
  have hrg := risingB_range hris
  have hlen := h.len
  rw [hlen] at hl
  have H := Lib.hid (h.alloc (.cells #[.int .i64 e, .slice a n c] 24)); clear h
  have Hr := Lib.hid hyes; have Hrg := Lib.hid hrg; have Hlen := Lib.hid hlen
  clear hyes hrg hris hlen
  go_enter Try.func63, Try.ntmps63
  go_wp2_with fail
  refine (right_any e a n c l _ H.out).mono ?_
  rw [Hr.out]
  rintro e' w1 ⟨rfl, b1⟩
  have q0 := below_cell b1 (b := w.heap.size) (o := 0) (v := .int .i64 e) (by simp)
  have q1 := below_cell b1 (b := w.heap.size) (o := 1) (v := .slice a n c) (by simp)
  replace H := Lib.hid (H.out.below b1)
  have B := Lib.hid (bthen (below_alloc w _) b1); clear b1
  go_wp2_with fail
  refine (wnew_any _ _).mono ?_
  rintro e' w2 ⟨rfl, hw, b2⟩
  have r0 := below_cell b2 q0; have r1 := below_cell b2 q1
  have Hw := Lib.hid (show PWr w2 w1.heap.size w1.heap.size none ⟨[], 4 + (n : Int), 0⟩ by
    have : max (4 + (n : Int)) 0 = 4 + n := by omega
    rw [wNew, this] at hw; exact hw)
  have B2 := Lib.hid b2; clear b2 hw
  go_wp2_with fail
  refine (wbyte_to w1 _ _ _ _ 67 _ Hw.out B2.out (by omega) (by omega) (by omega) (by omega) (by simp)).mono ?_
  rintro e' w3 ⟨rfl, ⟨ob3, hw3⟩, b3⟩
  clear r0 r1
  have r0 := below_cell b3 q0; have r1 := below_cell b3 q1
  have Hw3 := Lib.hid hw3; have B3 := Lib.hid b3; clear hw3 b3 Hw B2
  go_wp2_with fail
  refine (wword_to w1 _ _ _ _ e _ Hw3.out B3.out (by omega) (by omega) (by omega) (by omega) (by simp [beN_len])).mono ?_
  rintro e' w4 ⟨rfl, ⟨ob4, hw4⟩, b4⟩
  clear r0 r1
  have r0 := below_cell b4 q0; have r1 := below_cell b4 q1
  have Hw4 := Lib.hid hw4; have B4 := Lib.hid b4; clear hw4 b4 Hw3 B3
  go_wp2_with fail
  refine (wbyte_to w1 _ _ _ _ (n : Int) _ Hw4.out B4.out (by omega) (by omega) (by omega) (by omega) (by simp [beN_len])).mono ?_
  rintro e' w5 ⟨rfl, ⟨ob5, hw5⟩, b5⟩
  clear r0 r1
  have r1 := below_cell b5 q1
  have Hw5 := Lib.hid (show ∃ ob, PWr w5 w1.heap.size w1.heap.size ob ⟨textHead e n ++ byteL (l.take 0), (n : Int) - (0 : Nat), 0⟩ by
    refine ⟨ob5, ?_⟩
    have e3 : (4 + (n : Int) - 1 - 2 - 1) = (n : Int) - (0 : Nat) := by omega
    rw [Int.toNat_natCast, e3] at hw5
    simpa [textHead, byteL] using hw5)
  have B5 := Lib.hid b5; clear hw5 b5 Hw4 B4
  go_wp2_with fail
  go_loopw [29] (fun i wr => ∃ k : Nat, k ≤ n ∧ i = .int .i64 k ∧ Hid (∃ ob, PWr wr w1.heap.size w1.heap.size ob ⟨textHead e n ++ byteL (l.take k), (n : Int) - k, 0⟩) ∧ Hid (Below w1.heap.size w1 wr)) (fun i _ => n - (intOf i).toNat)
  case atStart => exact ⟨0, by omega, rfl, Hw5, B5⟩
  case round =>
    clear Hw5 B5 r1
    obtain ⟨k, hk, rfl, Hw, Bk⟩ := hrel
    by_cases hlt : k < n
    · obtain ⟨b, o, x, rfl, hc, _, _, _, hx⟩ := (H.out.below Bk.out).elem k hlt
      obtain ⟨hx0, hx1⟩ := Hrg.out x (List.mem_of_getElem? hx.out)
      have ht := Lib.hid (show byteL (l.take (k + 1)) = byteL (l.take k) ++ beN x.toNat 1 by
        rw [List.take_add_one, hx.out]; exact byteL_snoc _ _)
      obtain ⟨ob, hw⟩ := Hw.out
      have CB := Lib.hid (wbyte_to w1 _ ob _ _ x wr hw Bk.out (by omega) (by omega) (by omega) (by omega) (by
        rw [List.length_append, textHead_len, byteL_len, List.length_take]; omega))
      clear hw hx Hw
      go_wp2_with fail
      refine CB.out.mono ?_
      rintro e' w6 ⟨rfl, ⟨ob6, hw6⟩, b6⟩
      have Hw6 := Lib.hid (show ∃ ob, PWr w6 w1.heap.size w1.heap.size ob ⟨textHead e n ++ byteL (l.take (k + 1)), (n : Int) - ((k + 1 : Nat) : Int), 0⟩ by
        refine ⟨ob6, ?_⟩
        rw [ht.out, ← List.append_assoc, show (n : Int) - ((k + 1 : Nat) : Int) = (n : Int) - k - 1 by omega]
        exact hw6)
      have B6 := Lib.hid b6; clear hw6 b6 CB Bk ht hc
      go_wp2_with fail
      go_roundw
      case rel => exact ⟨k + 1, by omega, by go_num, Hw6, B6⟩
      case measure => simp [intOf]; omega
    · obtain rfl : k = n := by omega
      obtain ⟨ob, hw⟩ := Hw.out
      have CD := wdone_any _ _ _ _ wr hw
      have hd : doneS ⟨textHead e k ++ byteL (l.take k), (k : Int) - k, 0⟩ = ⟨(textP e l).toArray⟩ := by
        rw [doneS, if_pos rfl, textP_eq, Hlen.out, List.take_of_length_le (by rw [Hlen.out]; exact Nat.le_refl _)]
      rw [hd] at CD
      have CD := Lib.hid CD
      clear hw Hw hd
      go_wp2_with fail
      refine CD.out.mono ?_
      rintro e' w7 ⟨rfl, b7⟩
      have B7 := Lib.hid (bthen Bk.out b7)
      clear b7
      go_wp2_with fail
      go_ret2
      exact ⟨rfl, bthen B.out B7.out⟩
end Go.Proofs.Ytijeieamodjgbab

/- Walks of Text of the reference. -/
namespace Go.Proofs.Ytijeieamodjgbab
set_option maxRecDepth 100000
open Go.RowKit
set_option linter.unusedVariables false

/-- What Text tells. -/
def textS (e : Int) (l : List Int) : ByteArray := if rightB e l = true then ⟨(textP e l).toArray⟩ else ⟨#[]⟩
def textE (e : Int) (l : List Int) : Int := if rightB e l = true then 0 else 1
theorem text_any (e : Int) (a : Option Addr) (n c : Nat) (l : List Int) (w : World) (h : IntsAt w a n l) :
    Calls Try.prog 63 #[.agg #[.int .i64 e, .slice a n c]] w fun r w' => r = .returned (.tuple #[.string (textS e l), .int .i64 (textE e l)]) ∧ Below w.heap.size w w' := by
  cases hr : rightB e l with
  | true => rw [textS, textE, if_pos hr, if_pos hr]; exact text_yes e a n c l w h hr
  | false => rw [textS, textE, if_neg (by simp [hr]), if_neg (by simp [hr])]; exact text_no e a n c l w h hr
end Go.Proofs.Ytijeieamodjgbab
