
/- Walks of Text of requests, both layers. -/
import Derived.Test.YtijeieamodjgbabFl
import Derived.Test.YtijeieamodjgbabTxP
import Derived.Test.YtijeieamodjgbabIt
import Derived.Deep.QuietTactic
import Derived.BigQuiet

namespace Go.Proofs.Ytijeieamodjgbab
set_option maxRecDepth 100000
open Go.RowKit
set_option linter.unusedVariables false
set_option linter.unusedSimpArgs false

theorem wlong_to (w0 : World) (p : Nat) (ob : Option Nat) (out : List UInt8) (room n : Int) (w : World) (h : PWr w w0.heap.size p ob ⟨out, room, 0⟩) (hb : Below w0.heap.size w0 w)
    (h0 : 0 ≤ n) (h1 : n ≤ 4294967295) (hr : 4 ≤ room) (hr2 : room ≤ 1000) (hsz : out.length ≤ 1000) :
    Calls Try.prog 80 #[.pointer (some ⟨p, 0, none⟩), .int .i64 n] w fun e w' => e = .returned (.tuple #[]) ∧ (∃ ob', PWr w' w0.heap.size p ob' ⟨out ++ beN n.toNat 4, room - 4, 0⟩) ∧ Below w0.heap.size w0 w' := by
  refine (wlong_any w0.heap.size p ob _ n w h hb.size ⟨⟨by show _ ≤ room; omega, by show room ≤ _; omega⟩, by show _ ≤ (0 : Int); omega, by show (0 : Int) ≤ _; omega⟩ (fits_of (by show out.length + 4 ≤ _; omega)) (by unfold i64; omega)).mono ?_
  rintro e w' ⟨rfl, ob', _, h2, h3⟩
  rw [show decide (0 ≤ n ∧ n ≤ 4294967295) = true by simp; omega, wPut_ok rfl, wAdd_room (by rw [beN_len]; show ¬ room < _; omega), beN_len] at h2
  exact ⟨rfl, ⟨ob', h2⟩, h3.below hb h.1 (fun k hk => (WAt.ob_lt h k hk).1)⟩
theorem wbits_to (w0 : World) (p : Nat) (ob : Option Nat) (out : List UInt8) (room : Int) (n : Nat) (w : World) (h : PWr w w0.heap.size p ob ⟨out, room, 0⟩) (hb : Below w0.heap.size w0 w)
    (h1 : n < 18446744073709551616) (hr : 8 ≤ room) (hr2 : room ≤ 1000) (hsz : out.length ≤ 1000) :
    Calls Try.prog 81 #[.pointer (some ⟨p, 0, none⟩), .int .u64 n] w fun e w' => e = .returned (.tuple #[]) ∧ (∃ ob', PWr w' w0.heap.size p ob' ⟨out ++ beN n 8, room - 8, 0⟩) ∧ Below w0.heap.size w0 w' := by
  refine (wbits_any w0.heap.size p ob _ n w h hb.size ⟨⟨by show _ ≤ room; omega, by show room ≤ _; omega⟩, by show _ ≤ (0 : Int); omega, by show (0 : Int) ≤ _; omega⟩ (fits_of (by show out.length + 8 ≤ _; omega)) (by omega)).mono ?_
  rintro e w' ⟨rfl, ob', _, h2, h3⟩
  rw [wPut_ok rfl, wAdd_room (by rw [beN_len]; show ¬ room < _; omega), beN_len] at h2
  exact ⟨rfl, ⟨ob', h2⟩, h3.below hb h.1 (fun k hk => (WAt.ob_lt h k hk).1)⟩
theorem wtext_to (w0 : World) (p : Nat) (ob : Option Nat) (out : List UInt8) (room : Int) (t : ByteArray) (w : World) (h : PWr w w0.heap.size p ob ⟨out, room, 0⟩) (hb : Below w0.heap.size w0 w)
    (h1 : t.size ≤ 500) (hr : 2 + (t.size : Int) ≤ room) (hr2 : room ≤ 1000) (hsz : out.length ≤ 1000) :
    Calls Try.prog 60 #[.pointer (some ⟨p, 0, none⟩), .string t] w fun e w' => e = .returned (.tuple #[]) ∧ (∃ ob', PWr w' w0.heap.size p ob' ⟨out ++ (beN t.size 2 ++ t.data.toList), room - (2 + t.size : Nat), 0⟩) ∧ Below w0.heap.size w0 w' := by
  have hl : (beN t.size 2 ++ t.data.toList).length = 2 + t.size := by rw [List.length_append, beN_len]; simp
  refine (wtext_any w0.heap.size p ob _ t w h hb.size ⟨⟨by show _ ≤ room; omega, by show room ≤ _; omega⟩, by show _ ≤ (0 : Int); omega, by show (0 : Int) ≤ _; omega⟩ (fits_of (by show out.length + (2 + t.size) ≤ _; omega)) (by omega)).mono ?_
  rintro e w' ⟨rfl, ob', _, h2, h3⟩
  rw [show decide (t.size ≤ 65535) = true by simp; omega, wPut_ok rfl, wAdd_room (by rw [hl]; show ¬ room < _; omega), hl] at h2
  exact ⟨rfl, ⟨ob', h2⟩, h3.below hb h.1 (fun k hk => (WAt.ob_lt h k hk).1)⟩
theorem rwbits_to (w0 : World) (p : Nat) (ob : Option Nat) (out : List UInt8) (room : Int) (n : Nat) (w : World) (h : RWr w w0.heap.size p ob ⟨out, room, 0⟩) (hb : Below w0.heap.size w0 w)
    (h1 : n < 18446744073709551616) (hr : 8 ≤ room) (hr2 : room ≤ 1000) (hsz : out.length ≤ 1000) :
    Calls Try.prog 46 #[.pointer (some ⟨p, 0, none⟩), .int .u64 n] w fun e w' => e = .returned (.tuple #[]) ∧ (∃ ob', RWr w' w0.heap.size p ob' ⟨out ++ beN n 8, room - 8, 0⟩) ∧ Below w0.heap.size w0 w' := by
  refine (rwbits_any w0.heap.size p ob _ n w h hb.size (by omega) ⟨by show 0 ≤ room; omega, by show room + (out.length : Int) ≤ _; omega⟩ (by show out.length + 8 ≤ _; omega)).mono ?_
  rintro e w' ⟨rfl, ob', _, h2, h3⟩
  rw [wPut_ok rfl, wAdd_room (by rw [beN_len]; show ¬ room < _; omega), beN_len] at h2
  exact ⟨rfl, ⟨ob', h2⟩, h3.below hb h.1 (fun k hk => (WAt.ob_lt h k hk).1)⟩
theorem rwtext_to (w0 : World) (p : Nat) (ob : Option Nat) (out : List UInt8) (room : Int) (t : ByteArray) (w : World) (h : RWr w w0.heap.size p ob ⟨out, room, 0⟩) (hb : Below w0.heap.size w0 w)
    (h1 : t.size ≤ 500) (hr : 2 + (t.size : Int) ≤ room) (hr2 : room ≤ 1000) (hsz : out.length ≤ 1000) :
    Calls Try.prog 45 #[.pointer (some ⟨p, 0, none⟩), .string t] w fun e w' => e = .returned (.tuple #[]) ∧ (∃ ob', RWr w' w0.heap.size p ob' ⟨out ++ (beN t.size 2 ++ t.data.toList), room - (2 + t.size : Nat), 0⟩) ∧ Below w0.heap.size w0 w' := by
  have hl : (beN t.size 2 ++ t.data.toList).length = 2 + t.size := by rw [List.length_append, beN_len]; simp
  refine (rwtext_any w0.heap.size p ob _ t w h hb.size (by omega) ⟨by show 0 ≤ room; omega, by show room + (out.length : Int) ≤ _; omega⟩ (by show out.length + (2 + t.size) ≤ _; omega)).mono ?_
  rintro e w' ⟨rfl, ob', _, h2, h3⟩
  rw [show decide (t.size ≤ 65535) = true by simp; omega, wPut_ok rfl, wAdd_room (by rw [hl]; show ¬ room < _; omega), hl] at h2
  exact ⟨rfl, ⟨ob', h2⟩, h3.below hb h.1 (fun k hk => (WAt.ob_lt h k hk).1)⟩

theorem byte0 (w : World) : (convert 137 9 (.slice (some ⟨w.heap.size, 0, none⟩) 1 1)).run Try.prog (w.alloc (.cells #[.int .u8 0] 5)) = .ok (.string ⟨#[0]⟩) (w.alloc (.cells #[.int .u8 0] 5)) :=
  conv_owns (B := w.heap.size) (out := [0]) ⟨rfl, .inr ⟨w.heap.size, 1, #[.int .u8 0], rfl, Nat.le_refl _, blk_alloc w _, Nat.le_refl _, by decide, rfl, rfl⟩⟩
/-- A right request's text. -/
def textQ (c s kind : Int) (key : ByteArray) (b : Nat) (id : Int) : List UInt8 :=
  beN 1 1 ++ beN c.toNat 1 ++ beN s.toNat 4 ++ beN kind.toNat 1 ++ (beN key.size 2 ++ key.data.toList) ++ beN (canonB b) 8 ++ beN id.toNat 1
def rqText (c s kind : Int) (key : ByteArray) (b : Nat) (id : Int) : ByteArray := if nullQ c s kind key b id = true then ⟨#[0]⟩ else if rightQ c s kind key b id = true then ⟨(textQ c s kind key b id).toArray⟩ else ⟨#[]⟩
def rqErr (c s kind : Int) (key : ByteArray) (b : Nat) (id : Int) : Int := if nullQ c s kind key b id = true then 0 else if rightQ c s kind key b id = true then 0 else 1
theorem rightQ_parts {c s kind : Int} {key : ByteArray} {b : Nat} {id : Int} (h : rightQ c s kind key b id = true) : 1 ≤ c ∧ c ≤ 8 ∧ 1 ≤ s ∧ s ≤ 1048576 ∧ 1 ≤ kind ∧ kind ≤ 7 ∧ key.size ≤ 16 ∧ 0 ≤ id ∧ id < 16 := by
  simp only [rightQ, Bool.and_eq_true, decide_eq_true_eq] at h
  obtain ⟨⟨h1, h2⟩, h3⟩ := h
  by_cases k1 : kind = 1 ∨ kind = 2 ∨ kind = 3
  · rw [opB_key k1] at h3
    simp only [keyB, Bool.and_eq_true, decide_eq_true_eq] at h3
    omega
  · by_cases k2 : kind = 4 ∨ kind = 5
    · rw [opB_cut k2] at h3
      simp only [keyB, Bool.and_eq_true, decide_eq_true_eq] at h3
      omega
    · by_cases k3 : kind = 6 ∨ kind = 7
      · rw [opB_join k3] at h3
        simp only [noKeyB, Bool.and_eq_true, decide_eq_true_eq] at h3
        omega
      · rw [opB_no (by omega)] at h3; cases h3

set_option maxHeartbeats 2000000 in
theorem qtext_any (c s kind : Int) (key : ByteArray) (b : Nat) (id : Int) (w : World) (hc : i64 c) (hs : i64 s) (hkd : i64 kind) (hid : i64 id) (hb : b < 18446744073709551616) (hk : key.size ≤ 140737488351232) :
    Calls Try.prog 52 #[.agg #[.int .i64 c, .int .i64 s, .int .i64 kind, .string key, .float .f64 b, .int .i64 id]] w fun r w' => r = .returned (.tuple #[.string (rqText c s kind key b id), .int .i64 (rqErr c s kind key b id)]) ∧ Below w.heap.size w w' := by
  have HC := Lib.hid (rq_box w c s kind key b id)
  have CN := fun (w : World) => qnull_any c s kind key b id w hc hs hkd hid
  have CR := fun (w : World) => qright_any c s kind key b id w hk
  cases hn : nullQ c s kind key b id with
  | true =>
    rw [hn] at CN
    have CN := Lib.hid CN
    have HX := Lib.hid (show rqText c s kind key b id = ⟨#[0]⟩ ∧ rqErr c s kind key b id = 0 by rw [rqText, rqErr, hn]; exact ⟨rfl, rfl⟩)
    rw [HX.out.1, HX.out.2]
    clear hn CR hc hs hkd hid HX
    go_enter Try.func52, Try.ntmps52
    go_wp2_with fail
    refine (CN.out _).mono ?_
    rintro r w1 ⟨rfl, b1⟩
    have HB := Lib.hid (HC.out _ b1).2
    clear b1 HC CN
    have hcv := byte0 w1
    go_wp2_with fail
    go_ret2
    exact ⟨rfl, balloc HB.out _⟩
  | false =>
    rw [hn] at CN
    have CN := Lib.hid CN
    cases hr : rightQ c s kind key b id with
    | false =>
      rw [hr] at CR
      have CR := Lib.hid CR
      have HX := Lib.hid (show rqText c s kind key b id = ⟨#[]⟩ ∧ rqErr c s kind key b id = 1 by rw [rqText, rqErr, hn, hr]; exact ⟨rfl, rfl⟩)
      rw [HX.out.1, HX.out.2]
      clear hn hr hc hs hkd hid HX
      go_enter Try.func52, Try.ntmps52
      go_wp2_with fail
      refine (CN.out _).mono ?_
      rintro r w1 ⟨rfl, b1⟩
      have B1 := Lib.hid b1
      obtain ⟨⟨x0, x1, x2, x3, x4, x5⟩, -⟩ := HC.out _ b1
      clear b1
      go_wp2_with fail
      refine (CR.out _).mono ?_
      rintro r w2 ⟨rfl, b2⟩
      have HB := Lib.hid (HC.out _ (bthen B1.out b2)).2
      clear b2 x0 x1 x2 x3 x4 x5
      go_wp2_with fail
      go_ret2
      exact ⟨rfl, HB.out⟩
    | true =>
      rw [hr] at CR
      have CR := Lib.hid CR
      obtain ⟨c1, c2, s1, s2, k1, k2, z1, i1, i2⟩ := rightQ_parts hr
      have hcb := canonB_lt hb
      have HX := Lib.hid (show rqText c s kind key b id = ⟨(textQ c s kind key b id).toArray⟩ ∧ rqErr c s kind key b id = 0 by rw [rqText, rqErr, hn, hr]; exact ⟨rfl, rfl⟩)
      rw [HX.out.1, HX.out.2]
      have CB := Lib.hid (fun (w : World) => rbits2_any b w)
      have HT := Lib.hid (show textQ c s kind key b id = beN 1 1 ++ beN c.toNat 1 ++ beN s.toNat 4 ++ beN kind.toNat 1 ++ (beN key.size 2 ++ key.data.toList) ++ beN (canonB b) 8 ++ beN id.toNat 1 from rfl)
      generalize textQ c s kind key b id = TQ at *
      generalize canonB b = cb at *
      clear hn hr hc hs hkd hid HX hb hk
      go_enter Try.func52, Try.ntmps52
      go_wp2_with fail
      refine (CN.out _).mono ?_
      rintro r w1 ⟨rfl, b1⟩
      have B1 := Lib.hid b1
      obtain ⟨⟨x0, x1, x2, x3, x4, x5⟩, -⟩ := HC.out _ b1
      clear b1
      go_wp2_with fail
      refine (CR.out _).mono ?_
      rintro r w2 ⟨rfl, b2⟩
      have B2 := Lib.hid (bthen B1.out b2)
      have HC2 := Lib.hid (show ∀ w', Below w2.heap.size w2 w' → RqBox w c s kind key b id w' from fun w' hb => HC.out _ (bthen B2.out hb))
      clear b2 x0 x1 x2 x3 x4 x5 CN CR HC B1
      go_wp2_with fail
      refine (wnew_any 64 w2).mono ?_
      rintro r w3 ⟨rfl, h3, b3⟩
      have H3 := Lib.hid (show PWr w3 w2.heap.size w2.heap.size none ⟨[], 64, 0⟩ from h3)
      have B3 := Lib.hid b3
      clear h3 b3
      go_wp2_with fail
      refine (wbyte_to w2 _ _ _ _ 1 _ H3.out B3.out (by omega) (by omega) (by omega) (by omega) (by simp)).mono ?_
      rintro r w4 ⟨rfl, ⟨ob4, h4⟩, b4⟩
      have H4 := Lib.hid h4; have B4 := Lib.hid b4
      obtain ⟨⟨x0, x1, x2, x3, x4, x5⟩, -⟩ := HC2.out _ b4
      clear h4 b4 H3 B3
      go_wp2_with fail
      refine (wbyte_to w2 _ _ _ _ c _ H4.out B4.out (by omega) (by omega) (by omega) (by omega) (by simp [beN_len])).mono ?_
      rintro r w5 ⟨rfl, ⟨ob5, h5⟩, b5⟩
      have H5 := Lib.hid h5; have B5 := Lib.hid b5
      clear x0 x1 x2 x3 x4 x5
      obtain ⟨⟨x0, x1, x2, x3, x4, x5⟩, -⟩ := HC2.out _ b5
      clear h5 b5 H4 B4
      go_wp2_with fail
      refine (wlong_to w2 _ _ _ _ s _ H5.out B5.out (by omega) (by omega) (by omega) (by omega) (by simp [beN_len])).mono ?_
      rintro r w6 ⟨rfl, ⟨ob6, h6⟩, b6⟩
      have H6 := Lib.hid h6; have B6 := Lib.hid b6
      clear x0 x1 x2 x3 x4 x5
      obtain ⟨⟨x0, x1, x2, x3, x4, x5⟩, -⟩ := HC2.out _ b6
      clear h6 b6 H5 B5
      go_wp2_with fail
      refine (wbyte_to w2 _ _ _ _ kind _ H6.out B6.out (by omega) (by omega) (by omega) (by omega) (by simp [beN_len])).mono ?_
      rintro r w7 ⟨rfl, ⟨ob7, h7⟩, b7⟩
      have H7 := Lib.hid h7; have B7 := Lib.hid b7
      clear x0 x1 x2 x3 x4 x5
      obtain ⟨⟨x0, x1, x2, x3, x4, x5⟩, -⟩ := HC2.out _ b7
      clear h7 b7 H6 B6
      go_wp2_with fail
      refine (wtext_to w2 _ _ _ _ key _ H7.out B7.out (by omega) (by omega) (by omega) (by simp [beN_len])).mono ?_
      rintro r w8 ⟨rfl, ⟨ob8, h8⟩, b8⟩
      have H8 := Lib.hid h8; have B8 := Lib.hid b8
      clear x0 x1 x2 x3 x4 x5
      obtain ⟨⟨x0, x1, x2, x3, x4, x5⟩, -⟩ := HC2.out _ b8
      clear h8 b8 H7 B7
      go_wp2_with fail
      refine (CB.out _).mono ?_
      rintro r w9 ⟨rfl, rfl⟩
      go_wp2_with fail
      refine (wbits_to w2 _ _ _ _ cb _ H8.out B8.out hcb (by omega) (by omega) (by simp [beN_len]; omega)).mono ?_
      rintro r w9 ⟨rfl, ⟨ob9, h9⟩, b9⟩
      have H9 := Lib.hid h9; have B9 := Lib.hid b9
      clear x0 x1 x2 x3 x4 x5
      obtain ⟨⟨x0, x1, x2, x3, x4, x5⟩, -⟩ := HC2.out _ b9
      clear h9 b9 H8 B8
      go_wp2_with fail
      refine (wbyte_to w2 _ _ _ _ id _ H9.out B9.out (by omega) (by omega) (by omega) (by omega) (by simp [beN_len]; omega)).mono ?_
      rintro r w10 ⟨rfl, ⟨ob10, h10⟩, b10⟩
      have B10 := Lib.hid b10
      clear x0 x1 x2 x3 x4 x5
      have CD := wdone_any _ _ _ _ w10 h10
      rw [show doneS _ = ⟨TQ.toArray⟩ from by rw [doneS, if_pos rfl, HT.out]; rfl] at CD
      have CD := Lib.hid CD
      clear h10 b10 H9 B9
      go_wp2_with fail
      refine CD.out.mono ?_
      rintro r w11 ⟨rfl, b11⟩
      have HB := Lib.hid (HC2.out _ (bthen B10.out b11)).2
      clear b11 CD
      go_wp2_with fail
      go_ret2
      exact ⟨rfl, HB.out⟩

set_option maxHeartbeats 2000000 in
theorem qrtext_any (c s kind : Int) (key : ByteArray) (b : Nat) (id : Int) (w : World) (hc : i64 c) (hs : i64 s) (hkd : i64 kind) (hid : i64 id) (hb : b < 18446744073709551616) (hk : key.size ≤ 140737488351232) :
    Calls Try.prog 27 #[.agg #[.int .i64 c, .int .i64 s, .int .i64 kind, .string key, .float .f64 b, .int .i64 id]] w fun r w' => r = .returned (.tuple #[.string (rqText c s kind key b id), .int .i64 (rqErr c s kind key b id)]) ∧ Below w.heap.size w w' := by
  have HC := Lib.hid (rq_box w c s kind key b id)
  have CN := fun (w : World) => qrnull_any c s kind key b hb id w
  have CR := fun (w : World) => qrright_any c s kind key b hb id w hk
  cases hn : nullQ c s kind key b id with
  | true =>
    rw [hn] at CN
    have CN := Lib.hid CN
    have HX := Lib.hid (show rqText c s kind key b id = ⟨#[0]⟩ ∧ rqErr c s kind key b id = 0 by rw [rqText, rqErr, hn]; exact ⟨rfl, rfl⟩)
    rw [HX.out.1, HX.out.2]
    clear hn CR hc hs hkd hid HX
    go_enter Try.func27, Try.ntmps27
    go_wp2_with fail
    refine (CN.out _).mono ?_
    rintro r w1 ⟨rfl, b1⟩
    have HB := Lib.hid (HC.out _ b1).2
    clear b1 HC CN
    go_wp2_with fail
    go_ret2
    exact ⟨rfl, HB.out⟩
  | false =>
    rw [hn] at CN
    have CN := Lib.hid CN
    cases hr : rightQ c s kind key b id with
    | false =>
      rw [hr] at CR
      have CR := Lib.hid CR
      have HX := Lib.hid (show rqText c s kind key b id = ⟨#[]⟩ ∧ rqErr c s kind key b id = 1 by rw [rqText, rqErr, hn, hr]; exact ⟨rfl, rfl⟩)
      rw [HX.out.1, HX.out.2]
      clear hn hr hc hs hkd hid HX
      go_enter Try.func27, Try.ntmps27
      go_wp2_with fail
      refine (CN.out _).mono ?_
      rintro r w1 ⟨rfl, b1⟩
      have B1 := Lib.hid b1
      obtain ⟨⟨x0, x1, x2, x3, x4, x5⟩, -⟩ := HC.out _ b1
      clear b1
      go_wp2_with fail
      refine (CR.out _).mono ?_
      rintro r w2 ⟨rfl, b2⟩
      have HB := Lib.hid (HC.out _ (bthen B1.out b2)).2
      clear b2 x0 x1 x2 x3 x4 x5
      go_wp2_with fail
      go_ret2
      exact ⟨rfl, HB.out⟩
    | true =>
      rw [hr] at CR
      have CR := Lib.hid CR
      obtain ⟨c1, c2, s1, s2, k1, k2, z1, i1, i2⟩ := rightQ_parts hr
      have hcb := canonB_lt hb
      have HX := Lib.hid (show rqText c s kind key b id = ⟨(textQ c s kind key b id).toArray⟩ ∧ rqErr c s kind key b id = 0 by rw [rqText, rqErr, hn, hr]; exact ⟨rfl, rfl⟩)
      rw [HX.out.1, HX.out.2]
      have CB := Lib.hid (fun (w : World) => bits02_any b hb w)
      have HT := Lib.hid (show textQ c s kind key b id = beN 1 1 ++ beN c.toNat 1 ++ beN s.toNat 4 ++ beN kind.toNat 1 ++ (beN key.size 2 ++ key.data.toList) ++ beN (canonB b) 8 ++ beN id.toNat 1 from rfl)
      generalize textQ c s kind key b id = TQ at *
      generalize canonB b = cb at *
      clear hn hr hc hs hkd hid HX hb hk
      go_enter Try.func27, Try.ntmps27
      go_wp2_with fail
      refine (CN.out _).mono ?_
      rintro r w1 ⟨rfl, b1⟩
      have B1 := Lib.hid b1
      obtain ⟨⟨x0, x1, x2, x3, x4, x5⟩, -⟩ := HC.out _ b1
      clear b1
      go_wp2_with fail
      refine (CR.out _).mono ?_
      rintro r w2 ⟨rfl, b2⟩
      have B2 := Lib.hid (bthen B1.out b2)
      have HC2 := Lib.hid (show ∀ w', Below w2.heap.size w2 w' → RqBox w c s kind key b id w' from fun w' hb => HC.out _ (bthen B2.out hb))
      clear b2 x0 x1 x2 x3 x4 x5 CN CR HC B1
      go_wp2_with fail
      refine (rnew_any 100 w2).mono ?_
      rintro r w3 ⟨rfl, h3, b3⟩
      have H3 := Lib.hid (show RWr w3 w2.heap.size w2.heap.size none ⟨[], 100, 0⟩ from h3)
      have B3 := Lib.hid b3
      clear h3 b3
      go_wp2_with fail
      refine (rnum_to w2 _ _ _ _ 1 1 _ H3.out B3.out (by omega) (by omega) (by omega) (by omega) (by omega) (by simp)).mono ?_
      rintro r w4 ⟨rfl, ⟨ob4, h4⟩, b4⟩
      have H4 := Lib.hid h4; have B4 := Lib.hid b4
      obtain ⟨⟨x0, x1, x2, x3, x4, x5⟩, -⟩ := HC2.out _ b4
      clear h4 b4 H3 B3
      go_wp2_with fail
      refine (rnum_to w2 _ _ _ _ c 1 _ H4.out B4.out (by omega) (by omega) (by omega) (by omega) (by omega) (by simp [beN_len])).mono ?_
      rintro r w5 ⟨rfl, ⟨ob5, h5⟩, b5⟩
      have H5 := Lib.hid h5; have B5 := Lib.hid b5
      clear x0 x1 x2 x3 x4 x5
      obtain ⟨⟨x0, x1, x2, x3, x4, x5⟩, -⟩ := HC2.out _ b5
      clear h5 b5 H4 B4
      go_wp2_with fail
      refine (rnum_to w2 _ _ _ _ s 4 _ H5.out B5.out (by omega) (by omega) (by omega) (by omega) (by omega) (by simp [beN_len])).mono ?_
      rintro r w6 ⟨rfl, ⟨ob6, h6⟩, b6⟩
      have H6 := Lib.hid h6; have B6 := Lib.hid b6
      clear x0 x1 x2 x3 x4 x5
      obtain ⟨⟨x0, x1, x2, x3, x4, x5⟩, -⟩ := HC2.out _ b6
      clear h6 b6 H5 B5
      go_wp2_with fail
      refine (rnum_to w2 _ _ _ _ kind 1 _ H6.out B6.out (by omega) (by omega) (by omega) (by omega) (by omega) (by simp [beN_len])).mono ?_
      rintro r w7 ⟨rfl, ⟨ob7, h7⟩, b7⟩
      have H7 := Lib.hid h7; have B7 := Lib.hid b7
      clear x0 x1 x2 x3 x4 x5
      obtain ⟨⟨x0, x1, x2, x3, x4, x5⟩, -⟩ := HC2.out _ b7
      clear h7 b7 H6 B6
      go_wp2_with fail
      refine (rwtext_to w2 _ _ _ _ key _ H7.out B7.out (by omega) (by omega) (by omega) (by simp [beN_len])).mono ?_
      rintro r w8 ⟨rfl, ⟨ob8, h8⟩, b8⟩
      have H8 := Lib.hid h8; have B8 := Lib.hid b8
      clear x0 x1 x2 x3 x4 x5
      obtain ⟨⟨x0, x1, x2, x3, x4, x5⟩, -⟩ := HC2.out _ b8
      clear h8 b8 H7 B7
      go_wp2_with fail
      refine (CB.out _).mono ?_
      rintro r w9 ⟨rfl, rfl⟩
      go_wp2_with fail
      refine (rwbits_to w2 _ _ _ _ cb _ H8.out B8.out hcb (by omega) (by omega) (by simp [beN_len]; omega)).mono ?_
      rintro r w9 ⟨rfl, ⟨ob9, h9⟩, b9⟩
      have H9 := Lib.hid h9; have B9 := Lib.hid b9
      clear x0 x1 x2 x3 x4 x5
      obtain ⟨⟨x0, x1, x2, x3, x4, x5⟩, -⟩ := HC2.out _ b9
      clear h9 b9 H8 B8
      go_wp2_with fail
      refine (rnum_to w2 _ _ _ _ id 1 _ H9.out B9.out (by omega) (by omega) (by omega) (by omega) (by omega) (by simp [beN_len]; omega)).mono ?_
      rintro r w10 ⟨rfl, ⟨ob10, h10⟩, b10⟩
      have B10 := Lib.hid b10
      clear x0 x1 x2 x3 x4 x5
      have CD := rdone_any _ _ _ _ w10 h10
      rw [show doneS _ = ⟨TQ.toArray⟩ from by rw [doneS, if_pos rfl, HT.out]; rfl] at CD
      have CD := Lib.hid CD
      clear h10 b10 H9 B9
      go_wp2_with fail
      refine CD.out.mono ?_
      rintro r w11 ⟨rfl, b11⟩
      have HB := Lib.hid (HC2.out _ (bthen B10.out b11)).2
      clear b11 CD
      go_wp2_with fail
      go_ret2
      exact ⟨rfl, HB.out⟩
end Go.Proofs.Ytijeieamodjgbab

/- Same, Request and Whole of requests; ResultText and SameResult, both layers. -/

namespace Go.Proofs.Ytijeieamodjgbab
set_option maxRecDepth 100000
open Go.RowKit
set_option linter.unusedVariables false
set_option linter.unusedSimpArgs false

theorem str_inj (s t : ByteArray) : s.toList = t.toList ↔ s = t := by
  rw [ByteArray.toList_eq, ByteArray.toList_eq]
  exact ⟨Go.WideShapes.bytes_inj, fun h => by rw [h]⟩
theorem str_beq (s t : ByteArray) : (s.toList == t.toList) = decide (s = t) := by
  rw [Bool.eq_iff_iff]; simp [str_inj]
/-- A request. -/
structure Rq where
  c : Int
  s : Int
  kind : Int
  key : ByteArray
  b : Nat
  id : Int
def Rq.v (r : Rq) : Value := .agg #[.int .i64 r.c, .int .i64 r.s, .int .i64 r.kind, .string r.key, .float .f64 r.b, .int .i64 r.id]
structure Rq.Ok (r : Rq) : Prop where
  c : i64 r.c
  s : i64 r.s
  kind : i64 r.kind
  id : i64 r.id
  b : r.b < 18446744073709551616
  key : r.key.size ≤ 140737488351232
def Rq.text (r : Rq) : ByteArray := rqText r.c r.s r.kind r.key r.b r.id
def Rq.err (r : Rq) : Int := rqErr r.c r.s r.kind r.key r.b r.id
theorem text_rq (r : Rq) (h : r.Ok) (w : World) : Calls Try.prog 52 #[r.v] w fun e w' => e = .returned (.tuple #[.string r.text, .int .i64 r.err]) ∧ Below w.heap.size w w' := qtext_any _ _ _ _ _ _ w h.c h.s h.kind h.id h.b h.key
theorem rtext_rq (r : Rq) (h : r.Ok) (w : World) : Calls Try.prog 27 #[r.v] w fun e w' => e = .returned (.tuple #[.string r.text, .int .i64 r.err]) ∧ Below w.heap.size w w' := qrtext_any _ _ _ _ _ _ w h.c h.s h.kind h.id h.b h.key
/-- A request's cells at a place. -/
def RqAt (w : World) (p : Nat) (c s kind : Int) (key : ByteArray) (b : Nat) (id : Int) : Prop :=
  w.cell? ⟨p, 0, none⟩ = some (.int .i64 c) ∧ w.cell? ⟨p, 1, none⟩ = some (.int .i64 s) ∧ w.cell? ⟨p, 2, none⟩ = some (.int .i64 kind) ∧ w.cell? ⟨p, 3, none⟩ = some (.string key) ∧ w.cell? ⟨p, 4, none⟩ = some (.float .f64 b) ∧ w.cell? ⟨p, 5, none⟩ = some (.int .i64 id)
theorem rqAt_blk {w : World} {p : Nat} {c s kind : Int} {key : ByteArray} {b : Nat} {id : Int} {t : TypeId} {fr : Nat × Nat} (h : w.heap[p]? = some (.cells #[.int .i64 c, .int .i64 s, .int .i64 kind, .string key, .float .f64 b, .int .i64 id] t fr)) : RqAt w p c s kind key b id :=
  ⟨by rw [blk_cell h]; rfl, by rw [blk_cell h]; rfl, by rw [blk_cell h]; rfl, by rw [blk_cell h]; rfl, by rw [blk_cell h]; rfl, by rw [blk_cell h]; rfl⟩
/-- Two requests in their boxes, in whatever later world. -/
theorem rq_box2 (w : World) (c s kind : Int) (key : ByteArray) (b : Nat) (id : Int) (c' s' kind' : Int) (key' : ByteArray) (b' : Nat) (id' : Int) : ∀ w1, Below ((w.alloc (.cells #[.int .i64 c, .int .i64 s, .int .i64 kind, .string key, .float .f64 b, .int .i64 id] 35)).alloc (.cells #[.int .i64 c', .int .i64 s', .int .i64 kind', .string key', .float .f64 b', .int .i64 id'] 35)).heap.size ((w.alloc (.cells #[.int .i64 c, .int .i64 s, .int .i64 kind, .string key, .float .f64 b, .int .i64 id] 35)).alloc (.cells #[.int .i64 c', .int .i64 s', .int .i64 kind', .string key', .float .f64 b', .int .i64 id'] 35)) w1 →
    (RqAt w1 w.heap.size c s kind key b id ∧ RqAt w1 (w.heap.size + 1) c' s' kind' key' b' id') ∧ Below w.heap.size w w1 := fun w1 hb => by
  have h1 := blk_below (blk_below (blk_alloc w _) (below_alloc _ _)) hb
  have h2 := blk_below (blk_alloc (w.alloc (.cells #[.int .i64 c, .int .i64 s, .int .i64 kind, .string key, .float .f64 b, .int .i64 id] 35)) _) hb
  rw [show (w.alloc (.cells #[.int .i64 c, .int .i64 s, .int .i64 kind, .string key, .float .f64 b, .int .i64 id] 35)).heap.size = w.heap.size + 1 by simp] at h2
  exact ⟨⟨rqAt_blk h1, rqAt_blk h2⟩, bthen (below_alloc _ _) (bthen (below_alloc _ _) hb)⟩
/-- Are two one request? -/
def sameQ (x y : Rq) : Bool := decide (x.text = y.text) && decide (x.err = 0) && decide (y.err = 0)

set_option maxHeartbeats 1000000 in
theorem same_rq (x y : Rq) (hx : x.Ok) (hy : y.Ok) (w : World) : Calls Try.prog 67 #[x.v, y.v] w fun e w' => e = .returned (.bool (sameQ x y)) ∧ Below w.heap.size w w' := by
  have C1 := Lib.hid (fun w => text_rq x hx w)
  have C2 := Lib.hid (fun w => text_rq y hy w)
  unfold sameQ
  generalize x.text = S at *
  generalize y.text = T at *
  generalize x.err = e1 at *
  generalize y.err = e2 at *
  clear hx hy
  obtain ⟨c, s, kind, key, b, id⟩ := x
  obtain ⟨c', s', kind', key', b', id'⟩ := y
  unfold Rq.v at *
  dsimp only at *
  have HC := Lib.hid (rq_box2 w c s kind key b id c' s' kind' key' b' id')
  go_enter Try.func67, Try.ntmps67
  go_wp2_with fail
  refine (C1.out _).mono ?_
  rintro r w1 ⟨rfl, b1⟩
  have B1 := Lib.hid b1
  obtain ⟨⟨-, x0, x1, x2, x3, x4, x5⟩, -⟩ := HC.out _ b1
  clear b1
  go_wp2_with fail
  refine (C2.out _).mono ?_
  rintro r w2 ⟨rfl, b2⟩
  have B := Lib.hid (HC.out _ (bthen B1.out b2)).2
  clear b2 x0 x1 x2 x3 x4 x5 C1 C2 HC B1
  go_wp2_with fail
  all_goals
    go_ret
    refine ⟨?_, B.out⟩
    simp only [str_beq, str_inj] at *
    clear B
    first | (simp_all [beq_dec]; done) | (simp_all [beq_dec]; omega) | (simp_all [beq_dec]; grind)

set_option maxHeartbeats 1000000 in
theorem rsame_rq (x y : Rq) (hx : x.Ok) (hy : y.Ok) (w : World) : Calls Try.prog 11 #[x.v, y.v] w fun e w' => e = .returned (.bool (sameQ x y)) ∧ Below w.heap.size w w' := by
  have C1 := Lib.hid (fun w => rtext_rq x hx w)
  have C2 := Lib.hid (fun w => rtext_rq y hy w)
  unfold sameQ
  generalize x.text = S at *
  generalize y.text = T at *
  generalize x.err = e1 at *
  generalize y.err = e2 at *
  clear hx hy
  obtain ⟨c, s, kind, key, b, id⟩ := x
  obtain ⟨c', s', kind', key', b', id'⟩ := y
  unfold Rq.v at *
  dsimp only at *
  have HC := Lib.hid (rq_box2 w c s kind key b id c' s' kind' key' b' id')
  go_enter Try.func11, Try.ntmps11
  go_wp2_with fail
  refine (C1.out _).mono ?_
  rintro r w1 ⟨rfl, b1⟩
  have B1 := Lib.hid b1
  obtain ⟨⟨-, x0, x1, x2, x3, x4, x5⟩, -⟩ := HC.out _ b1
  clear b1
  go_wp2_with fail
  refine (C2.out _).mono ?_
  rintro r w2 ⟨rfl, b2⟩
  have B := Lib.hid (HC.out _ (bthen B1.out b2)).2
  clear b2 x0 x1 x2 x3 x4 x5 C1 C2 HC B1
  go_wp2_with fail
  all_goals
    go_ret
    refine ⟨?_, B.out⟩
    simp only [str_beq, str_inj] at *
    clear B
    first | (simp_all [beq_dec]; done) | (simp_all [beq_dec]; omega) | (simp_all [beq_dec]; grind)

theorem bits02_q (b : Nat) (hb : b < 18446744073709551616) (w : World) : Calls Try.prog 47 #[.float .f64 b] w fun r w' => r = .returned (.int .u64 (canonB b)) ∧ w' = w :=
  (bits02_any b hb w).mono (by rintro r w' ⟨rfl, rfl⟩; exact ⟨rfl, rfl⟩)
end Go.Proofs.Ytijeieamodjgbab
