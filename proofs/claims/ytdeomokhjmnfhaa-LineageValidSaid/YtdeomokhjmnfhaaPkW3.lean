
/- Walks of the program's writer: Word, Done. -/
import Derived.Test.YtdeomokhjmnfhaaPkW2
namespace Go.Proofs.Ytdeomokhjmnfhaa
open Go.RowKit
set_option linter.unusedVariables false

set_option maxHeartbeats 400000 in
theorem wword_any (B p : Nat) (ob : Option Nat) (s : W) (n : Int) (w : World) (h : PWr w B p ob s) (hB : B ≤ w.heap.size) (hok : WOk s) (hsz : Fits s 2) (hn : i64 n) :
    Calls Try.prog 47 #[.pointer (some ⟨p, 0, none⟩), .int .i64 n] w (PWPost w B p ob (wPut s (decide (0 ≤ n ∧ n ≤ 65535)) (beN n.toNat 2))) := by
  obtain ⟨v, h0, h1, h2, hf, ho, hob⟩ := h.cells
  have H := Lib.hid h
  clear hf ho hob h h0 h1
  obtain ⟨hn1, hn2⟩ := hn
  cases he : s.err == 0 with
  | false =>
    have hput := Lib.hid (wPut_err (s := s) (by simpa using he) (decide (0 ≤ n ∧ n ≤ 65535)) (beN n.toNat 2))
    have he2 : (s.err != 0) = true := by simp [bne, he]
    go_enter Try.func47, Try.ntmps47
    go_wp2_with fail
    go_end0
    rw [hput.out]
    exact ⟨rfl, ob, .inl rfl, H.out, Only.refl _ _ _⟩
  | true =>
    have he0 : s.err = 0 := by simpa using he
    have he2 : (s.err != 0) = false := by simp [bne, he]
    have CF := Lib.hid (fun w h => wfail_any B p ob s 4 w h)
    by_cases hlo : n < 0
    · have hput := Lib.hid (show wPut s (decide (0 ≤ n ∧ n ≤ 65535)) (beN n.toNat 2) = ⟨s.out, s.room, 4⟩ by
        rw [show decide (0 ≤ n ∧ n ≤ 65535) = false by simp; omega, wPut_bad he0])
      clear he0 he
      go_enter Try.func47, Try.ntmps47
      go_wp2_with fail
      refine (CF.out _ H.out).mono ?_
      rintro e w' ⟨rfl, hpost⟩
      have Hp := Lib.hid hpost; clear hpost
      go_wp2_with fail
      go_end0
      rw [hput.out]
      exact ⟨rfl, Hp.out⟩
    · by_cases hhi : 65535 < n
      · have hput := Lib.hid (show wPut s (decide (0 ≤ n ∧ n ≤ 65535)) (beN n.toNat 2) = ⟨s.out, s.room, 4⟩ by
          rw [show decide (0 ≤ n ∧ n ≤ 65535) = false by simp; omega, wPut_bad he0])
        clear he0 he
        go_enter Try.func47, Try.ntmps47
        go_wp2_with fail
        refine (CF.out _ H.out).mono ?_
        rintro e w' ⟨rfl, hpost⟩
        have Hp := Lib.hid hpost; clear hpost
        go_wp2_with fail
        go_end0
        rw [hput.out]
        exact ⟨rfl, Hp.out⟩
      · have hput := Lib.hid (show wPut s (decide (0 ≤ n ∧ n ≤ 65535)) (beN n.toNat 2) = wAdd s (beN n.toNat 2) by
          rw [show decide (0 ≤ n ∧ n ≤ 65535) = true by simp; omega, wPut_ok he0])
        have hb := bytes_new w (beN n.toNat 2) #[.int .u8 (n / 256), .int .u8 (n % 256)] (by rw [be2 (by omega) (by omega)])
        rw [beN_len] at hb
        have CA := wadd_any B p ob s _ 2 2 (beN n.toNat 2) _ (H.out.below (below_alloc w _)) hb (by simp; omega) hok.1 hsz
        replace CA := Lib.hid CA
        have Hput := hput
        clear he0 he CF hb
        go_enter Try.func47, Try.ntmps47
        go_wp2_with fail
        refine CA.out.mono ?_
        intro e w' hpost
        replace hpost := PWPost.pre (below_alloc w _) hpost
        obtain ⟨rfl, hpost⟩ := hpost
        have Hp := Lib.hid hpost; clear hpost
        go_wp2_with fail
        go_end0
        rw [hput.out]
        exact ⟨rfl, Hp.out⟩
/-- The bytes of an owned row, as a string. -/
theorem conv_owns {w : World} {B : Nat} {a : Option Addr} {n c : Nat} {out : List UInt8} (h : w.ownsRow B 5 1 (.slice a n c) out.length (byV out)) :
    (convert 88 9 (.slice a n c)).run Try.prog w = .ok (.string ⟨out.toArray⟩) w := by
  rcases h.2 with ⟨he, h0⟩ | ⟨g, cap, cur, he, hB, hg, _, _, _, _⟩
  · injection he with h1 h2 h3
    subst h1 h2 h3
    obtain rfl : out = [] := List.eq_nil_of_length_eq_zero h0
    exact run_convert_bytes_nil w 88 5 Try.underlying88 Try.underlying5 0 0 9 Try.underlying9
  · injection he with h1 h2 h3
    subst h1 h2 h3
    have hc := run_convert_bytes_arg w 88 5 Try.underlying88 Try.underlying5 g 0 out.length c (out.map fun b => (b.toNat : Int)) (by simp) (fun i hi => by
      have := h.cells (g := g) rfl i (.int .u8 (out[i]).toNat) (by simp [byV, hi])
      rw [Addr.add_lit] at this
      rw [this]; simp [List.getD, hi]) 9 Try.underlying9
    rw [hc]
    congr 2
    simp [strOfNums]
    apply List.ext_getElem <;> simp

def doneS (s : W) : ByteArray := if s.err = 0 then ⟨s.out.toArray⟩ else ⟨#[]⟩

set_option maxHeartbeats 400000 in
theorem wdone_any (B p : Nat) (ob : Option Nat) (s : W) (w : World) (h : PWr w B p ob s) :
    Calls Try.prog 48 #[.pointer (some ⟨p, 0, none⟩)] w fun e w' => e = .returned (.tuple #[.string (doneS s), .int .i64 s.err]) ∧ Below w.heap.size w w' := by
  obtain ⟨v, h0, h1, h2, hf, ho, hob⟩ := h.cells
  cases he : s.err == 0 with
  | false =>
    have he2 : (s.err != 0) = true := by simp [bne, he]
    have hd := Lib.hid (show doneS s = ⟨#[]⟩ by rw [doneS, if_neg (by simpa using he)])
    clear hf ho hob h h0 h1
    go_enter Try.func48, Try.ntmps48
    go_wp2_with fail
    go_quiet (fail)
    go_wp2_with fail
    go_ret2
    exact ⟨by rw [hd.out]; rfl, below_drewN (Below.refl _ _) _⟩
  | true =>
    have he0 : s.err = 0 := by simpa using he
    have he2 : (s.err != 0) = false := by simp [bne, he]
    have hd := Lib.hid (show doneS s = ⟨s.out.toArray⟩ by rw [doneS, if_pos he0])
    have He := Lib.hid he0
    obtain ⟨a, c, rfl⟩ := owns_slice ho
    have hconv := conv_owns ho
    clear hf ho hob h h1 he0
    go_enter Try.func48, Try.ntmps48
    go_wp2_with fail
    go_ret2
    exact ⟨by rw [hd.out, He.out]; rfl, Below.refl _ _⟩
end Go.Proofs.Ytdeomokhjmnfhaa
