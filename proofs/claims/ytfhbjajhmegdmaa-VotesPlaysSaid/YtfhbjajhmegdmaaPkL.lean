
/- Walks of the program's writer: Long, Bits, Text. -/
import Derived.Test.YtfhbjajhmegdmaaPkW
import Derived.Lib.AppendStr
namespace Go.Proofs.Ytfhbjajhmegdmaa
set_option maxRecDepth 100000
open Go.RowKit
set_option linter.unusedVariables false

theorem be4 {n : Int} (h0 : 0 ≤ n) (h1 : n ≤ 4294967295) : byV (beN n.toNat 4) = [.int .u8 (n / 16777216), .int .u8 (n / 65536 % 256), .int .u8 (n / 256 % 256), .int .u8 (n % 256)] := by
  simp [byV, beN]; omega

set_option maxHeartbeats 400000 in
theorem wlong_any (B p : Nat) (ob : Option Nat) (s : W) (n : Int) (w : World) (h : PWr w B p ob s) (hB : B ≤ w.heap.size) (hok : WOk s) (hsz : Fits s 4) (hn : i64 n) :
    Calls Try.prog 56 #[.pointer (some ⟨p, 0, none⟩), .int .i64 n] w (PWPost w B p ob (wPut s (decide (0 ≤ n ∧ n ≤ 4294967295)) (beN n.toNat 4))) := by
  obtain ⟨v, h0, h1, h2, hf, ho, hob⟩ := h.cells
  have H := Lib.hid h
  clear hf ho hob h h0 h1
  obtain ⟨hn1, hn2⟩ := hn
  cases he : s.err == 0 with
  | false =>
    have hput := Lib.hid (wPut_err (s := s) (by simpa using he) (decide (0 ≤ n ∧ n ≤ 4294967295)) (beN n.toNat 4))
    have he2 : (s.err != 0) = true := by simp [bne, he]
    go_enter Try.func56, Try.ntmps56
    go_wp2_with fail
    go_end0
    rw [hput.out]
    exact ⟨rfl, ob, .inl rfl, H.out, Only.refl _ _ _⟩
  | true =>
    have he0 : s.err = 0 := by simpa using he
    have he2 : (s.err != 0) = false := by simp [bne, he]
    have CF := Lib.hid (fun w h => wfail_any B p ob s 4 w h)
    by_cases hlo : n < 0
    · have hput := Lib.hid (show wPut s (decide (0 ≤ n ∧ n ≤ 4294967295)) (beN n.toNat 4) = ⟨s.out, s.room, 4⟩ by
        rw [show decide (0 ≤ n ∧ n ≤ 4294967295) = false by simp; omega, wPut_bad he0])
      clear he0 he
      go_enter Try.func56, Try.ntmps56
      go_wp2_with fail
      refine (CF.out _ H.out).mono ?_
      rintro e w' ⟨rfl, hpost⟩
      have Hp := Lib.hid hpost; clear hpost
      go_wp2_with fail
      go_end0
      rw [hput.out]
      exact ⟨rfl, Hp.out⟩
    · by_cases hhi : 4294967295 < n
      · have hput := Lib.hid (show wPut s (decide (0 ≤ n ∧ n ≤ 4294967295)) (beN n.toNat 4) = ⟨s.out, s.room, 4⟩ by
          rw [show decide (0 ≤ n ∧ n ≤ 4294967295) = false by simp; omega, wPut_bad he0])
        clear he0 he
        go_enter Try.func56, Try.ntmps56
        go_wp2_with fail
        refine (CF.out _ H.out).mono ?_
        rintro e w' ⟨rfl, hpost⟩
        have Hp := Lib.hid hpost; clear hpost
        go_wp2_with fail
        go_end0
        rw [hput.out]
        exact ⟨rfl, Hp.out⟩
      · have hput := Lib.hid (show wPut s (decide (0 ≤ n ∧ n ≤ 4294967295)) (beN n.toNat 4) = wAdd s (beN n.toNat 4) by
          rw [show decide (0 ≤ n ∧ n ≤ 4294967295) = true by simp; omega, wPut_ok he0])
        have hb := bytes_new w (beN n.toNat 4) #[.int .u8 (n / 16777216), .int .u8 (n / 65536 % 256), .int .u8 (n / 256 % 256), .int .u8 (n % 256)] (by rw [be4 (by omega) (by omega)])
        rw [beN_len] at hb
        have CA := wadd_any B p ob s _ 4 4 (beN n.toNat 4) _ (H.out.below (below_alloc w _)) hb (by simp; omega) hok.1 hsz
        replace CA := Lib.hid CA
        have Hput := hput
        clear he0 he CF hb
        go_enter Try.func56, Try.ntmps56
        go_wp2_with fail
        refine CA.out.mono ?_
        intro e w' hpost
        replace hpost := PWPost.pre (below_alloc w _) hpost
        obtain ⟨rfl, hpost⟩ := hpost
        have Hp := Lib.hid hpost; clear hpost
        go_wp2_with fail
        go_end0
        rw [hput.out]
        exact ⟨rfl, Hp.out⟩

theorem be8 {n : Nat} (h1 : n ≤ 18446744073709551615) : byV (beN n 8) = [.int .u8 ((n : Int) / 72057594037927936), .int .u8 ((n : Int) / 281474976710656 % 256), .int .u8 ((n : Int) / 1099511627776 % 256), .int .u8 ((n : Int) / 4294967296 % 256), .int .u8 ((n : Int) / 16777216 % 256), .int .u8 ((n : Int) / 65536 % 256), .int .u8 ((n : Int) / 256 % 256), .int .u8 ((n : Int) % 256)] := by
  simp [byV, beN]; omega

theorem bytes_new_t (w : World) (bs : List UInt8) (vs : Array Value) (hv : vs = (byV bs).toArray) (t : TypeId) : BytesAt (w.alloc (.cells vs t)) (some ⟨w.heap.size, 0, none⟩) bs.length bs.length bs := by
  subst hv
  refine ⟨rfl, fun h => by (cases h), fun ad had j u hu => ?_⟩
  injection had with had
  subst had
  rw [Addr.add_lit, Nat.zero_add, blk_cell (blk_alloc w _)]
  simpa using hu
theorem bytes_owned {w : World} {B e n c : Nat} {xo : Option Addr} {bs : List UInt8} (h : w.ownsRow B e 1 (.slice xo n c) bs.length (byV bs)) : n = bs.length ∧ BytesAt w xo bs.length c bs := by
  rcases h.2 with ⟨he, h0⟩ | ⟨g, cap, cur, he, hB, hg, _, _, _, _⟩
  · injection he with h1 h2 h3
    subst h1 h3
    refine ⟨by rw [h2, h0], rfl, fun _ => ⟨h0, rfl⟩, fun ad had => by cases had⟩
  · injection he with h1 h2 h3
    subst h1
    refine ⟨h2, rfl, fun h => (by cases h), fun ad had j u hu => ?_⟩
    injection had with had; subst had
    have := h.cells (g := g) rfl j u hu
    exact this


theorem byV_str (t : ByteArray) : byV t.data.toList = Lib.strCells t := by simp [byV, Lib.strCells]

end Go.Proofs.Ytfhbjajhmegdmaa
