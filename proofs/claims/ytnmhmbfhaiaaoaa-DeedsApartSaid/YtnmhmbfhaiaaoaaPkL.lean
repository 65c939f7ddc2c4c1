
/- Walks of the program's writer: Long, Bits, Text. -/
import Derived.Test.YtnmhmbfhaiaaoaaPkW
import Derived.Lib.AppendStr
namespace Go.Proofs.Ytnmhmbfhaiaaoaa
set_option maxRecDepth 100000
open Go.RowKit
set_option linter.unusedVariables false

theorem be4 {n : Int} (h0 : 0 ≤ n) (h1 : n ≤ 4294967295) : byV (beN n.toNat 4) = [.int .u8 (n / 16777216), .int .u8 (n / 65536 % 256), .int .u8 (n / 256 % 256), .int .u8 (n % 256)] := by
  simp [byV, beN]; omega

set_option maxHeartbeats 400000 in
theorem wlong_any (B p : Nat) (ob : Option Nat) (s : W) (n : Int) (w : World) (h : PWr w B p ob s) (hB : B ≤ w.heap.size) (hok : WOk s) (hsz : Fits s 4) (hn : i64 n) :
    Calls Try.prog 36 #[.pointer (some ⟨p, 0, none⟩), .int .i64 n] w (PWPost w B p ob (wPut s (decide (0 ≤ n ∧ n ≤ 4294967295)) (beN n.toNat 4))) := by
  obtain ⟨v, h0, h1, h2, hf, ho, hob⟩ := h.cells
  have H := Lib.hid h
  clear hf ho hob h h0 h1
  obtain ⟨hn1, hn2⟩ := hn
  cases he : s.err == 0 with
  | false =>
    have hput := Lib.hid (wPut_err (s := s) (by simpa using he) (decide (0 ≤ n ∧ n ≤ 4294967295)) (beN n.toNat 4))
    have he2 : (s.err != 0) = true := by simp [bne, he]
    go_enter Try.func36, Try.ntmps36
    go_wp2_with fail
    go_end0
    rw [hput.out]
    exact ⟨rfl, ob, .inl rfl, H.out, Only.refl _ _ _⟩
  | true =>
    have he0 : s.err = 0 := by simpa using he
    have he2 : (s.err != 0) = false := by simp [bne, he]
    have CF := Lib.hid (fun w h => wfail_any B p ob s 4 w h)
    by_cases hlo : n < 0
    · have hput := Lib.hid (show wPut s (decide (0 ≤ n ∧ n ≤ 4294967295)) (beN n.toNat 4) = ⟨s.out, s.room, 4⟩ by
        rw [show decide (0 ≤ n ∧ n ≤ 4294967295) = false by simp; omega, wPut_bad he0])
      clear he0 he
      go_enter Try.func36, Try.ntmps36
      go_wp2_with fail
      refine (CF.out _ H.out).mono ?_
      rintro e w' ⟨rfl, hpost⟩
      have Hp := Lib.hid hpost; clear hpost
      go_wp2_with fail
      go_end0
      rw [hput.out]
      exact ⟨rfl, Hp.out⟩
    · by_cases hhi : 4294967295 < n
      · have hput := Lib.hid (show wPut s (decide (0 ≤ n ∧ n ≤ 4294967295)) (beN n.toNat 4) = ⟨s.out, s.room, 4⟩ by
          rw [show decide (0 ≤ n ∧ n ≤ 4294967295) = false by simp; omega, wPut_bad he0])
        clear he0 he
        go_enter Try.func36, Try.ntmps36
        go_wp2_with fail
        refine (CF.out _ H.out).mono ?_
        rintro e w' ⟨rfl, hpost⟩
        have Hp := Lib.hid hpost; clear hpost
        go_wp2_with fail
        go_end0
        rw [hput.out]
        exact ⟨rfl, Hp.out⟩
      · have hput := Lib.hid (show wPut s (decide (0 ≤ n ∧ n ≤ 4294967295)) (beN n.toNat 4) = wAdd s (beN n.toNat 4) by
          rw [show decide (0 ≤ n ∧ n ≤ 4294967295) = true by simp; omega, wPut_ok he0])
        have hb := bytes_new w (beN n.toNat 4) #[.int .u8 (n / 16777216), .int .u8 (n / 65536 % 256), .int .u8 (n / 256 % 256), .int .u8 (n % 256)] (by rw [be4 (by omega) (by omega)])
        rw [beN_len] at hb
        have CA := wadd_any B p ob s _ 4 4 (beN n.toNat 4) _ (H.out.below (below_alloc w _)) hb (by simp; omega) hok.1 hsz
        replace CA := Lib.hid CA
        have Hput := hput
        clear he0 he CF hb
        go_enter Try.func36, Try.ntmps36
        go_wp2_with fail
        refine CA.out.mono ?_
        intro e w' hpost
        replace hpost := PWPost.pre (below_alloc w _) hpost
        obtain ⟨rfl, hpost⟩ := hpost
        have Hp := Lib.hid hpost; clear hpost
        go_wp2_with fail
        go_end0
        rw [hput.out]
        exact ⟨rfl, Hp.out⟩

theorem be8 {n : Nat} (h1 : n ≤ 18446744073709551615) : byV (beN n 8) = [.int .u8 ((n : Int) / 72057594037927936), .int .u8 ((n : Int) / 281474976710656 % 256), .int .u8 ((n : Int) / 1099511627776 % 256), .int .u8 ((n : Int) / 4294967296 % 256), .int .u8 ((n : Int) / 16777216 % 256), .int .u8 ((n : Int) / 65536 % 256), .int .u8 ((n : Int) / 256 % 256), .int .u8 ((n : Int) % 256)] := by
  simp [byV, beN]; omega

theorem bytes_new_t (w : World) (bs : List UInt8) (vs : Array Value) (hv : vs = (byV bs).toArray) (t : TypeId) : BytesAt (w.alloc (.cells vs t)) (some ⟨w.heap.size, 0, none⟩) bs.length bs.length bs := by
  subst hv
  refine ⟨rfl, fun h => by (cases h), fun ad had j u hu => ?_⟩
  injection had with had
  subst had
  rw [Addr.add_lit, Nat.zero_add, blk_cell (blk_alloc w _)]
  simpa using hu
theorem bytes_owned {w : World} {B e n c : Nat} {xo : Option Addr} {bs : List UInt8} (h : w.ownsRow B e 1 (.slice xo n c) bs.length (byV bs)) : n = bs.length ∧ BytesAt w xo bs.length c bs := by
  rcases h.2 with ⟨he, h0⟩ | ⟨g, cap, cur, he, hB, hg, _, _, _, _⟩
  · injection he with h1 h2 h3
    subst h1 h3
    refine ⟨by rw [h2, h0], rfl, fun _ => ⟨h0, rfl⟩, fun ad had => by cases had⟩
  · injection he with h1 h2 h3
    subst h1
    refine ⟨h2, rfl, fun h => (by cases h), fun ad had j u hu => ?_⟩
    injection had with had; subst had
    have := h.cells (g := g) rfl j u hu
    exact this

set_option maxHeartbeats 1000000 in
theorem wbits_any (B p : Nat) (ob : Option Nat) (s : W) (n : Nat) (w : World) (h : PWr w B p ob s) (hB : B ≤ w.heap.size) (hok : WOk s) (hsz : Fits s 8) (hn : n ≤ 18446744073709551615) :
    Calls Try.prog 38 #[.pointer (some ⟨p, 0, none⟩), .int .u64 n] w (PWPost w B p ob (wPut s true (beN n 8))) := by
  obtain ⟨v, h0, h1, h2, hf, ho, hob⟩ := h.cells
  have H := Lib.hid h
  clear hf ho hob h h0 h1
  cases he : s.err == 0 with
  | false =>
    have hput := Lib.hid (wPut_err (s := s) (by simpa using he) true (beN n 8))
    have he2 : (s.err != 0) = true := by simp [bne, he]
    go_enter Try.func38, Try.ntmps38
    go_wp2_with fail
    go_end0
    rw [hput.out]
    exact ⟨rfl, ob, .inl rfl, H.out, Only.refl _ _ _⟩
  | true =>
    have he0 : s.err = 0 := by simpa using he
    have he2 : (s.err != 0) = false := by simp [bne, he]
    have hput := Lib.hid (wPut_ok he0 (beN n 8))
    have hb := bytes_new_t w (beN n 8) #[.int .u8 ((n : Int) / 72057594037927936), .int .u8 ((n : Int) / 281474976710656 % 256), .int .u8 ((n : Int) / 1099511627776 % 256), .int .u8 ((n : Int) / 4294967296 % 256), .int .u8 ((n : Int) / 16777216 % 256), .int .u8 ((n : Int) / 65536 % 256), .int .u8 ((n : Int) / 256 % 256), .int .u8 ((n : Int) % 256)] (by rw [be8 hn]) 96
    rw [beN_len] at hb
    have CA := Lib.hid (wadd_any B p ob s _ 8 8 (beN n 8) _ (H.out.below (below_alloc w _)) hb (by simp; omega) hok.1 hsz)
    clear he0 he hb
    go_enter Try.func38, Try.ntmps38
    go_wp2_with fail
    refine wp_loop_rounds 9 ?_
    rw [rounds_succ]
    go_wp2_with fail
    rw [rounds_succ]
    go_wp2_with fail
    rw [rounds_succ]
    go_wp2_with fail
    rw [rounds_succ]
    go_wp2_with fail
    rw [rounds_succ]
    go_wp2_with fail
    rw [rounds_succ]
    go_wp2_with fail
    rw [rounds_succ]
    go_wp2_with fail
    rw [rounds_succ]
    go_wp2_with fail
    rw [rounds_succ]
    go_wp2_with fail
    refine CA.out.mono ?_
    intro e w' hpost
    replace hpost := PWPost.pre (below_alloc w _) hpost
    obtain ⟨rfl, hpost⟩ := hpost
    have Hp := Lib.hid hpost; clear hpost
    go_wp2_with fail
    go_end0
    rw [hput.out]
    exact ⟨rfl, Hp.out⟩

theorem byV_str (t : ByteArray) : byV t.data.toList = Lib.strCells t := by simp [byV, Lib.strCells]

set_option maxHeartbeats 1000000 in
theorem wtext_any (B p : Nat) (ob : Option Nat) (s : W) (t : ByteArray) (w : World) (h : PWr w B p ob s) (hB : B ≤ w.heap.size) (hok : WOk s) (hsz : Fits s (2 + t.size)) (ht : t.size ≤ 140737488351232) :
    Calls Try.prog 37 #[.pointer (some ⟨p, 0, none⟩), .string t] w (PWPost w B p ob (wPut s (decide (t.size ≤ 65535)) (beN t.size 2 ++ t.data.toList))) := by
  obtain ⟨v, h0, h1, h2, hf, ho, hob⟩ := h.cells
  have H := Lib.hid h
  clear hf ho hob h h0 h1
  cases he : s.err == 0 with
  | false =>
    have hput := Lib.hid (wPut_err (s := s) (by simpa using he) (decide (t.size ≤ 65535)) (beN t.size 2 ++ t.data.toList))
    have he2 : (s.err != 0) = true := by simp [bne, he]
    go_enter Try.func37, Try.ntmps37
    go_wp2_with fail
    go_end0
    rw [hput.out]
    exact ⟨rfl, ob, .inl rfl, H.out, Only.refl _ _ _⟩
  | true =>
    have he0 : s.err = 0 := by simpa using he
    have he2 : (s.err != 0) = false := by simp [bne, he]
    by_cases hhi : 65535 < t.size
    · have CF := Lib.hid (fun w h => wfail_any B p ob s 4 w h)
      have hput := Lib.hid (show wPut s (decide (t.size ≤ 65535)) (beN t.size 2 ++ t.data.toList) = ⟨s.out, s.room, 4⟩ by
        rw [show decide (t.size ≤ 65535) = false by simp; omega, wPut_bad he0])
      clear he0 he
      go_enter Try.func37, Try.ntmps37
      go_wp2_with fail
      refine (CF.out _ H.out).mono ?_
      rintro e w' ⟨rfl, hpost⟩
      have Hp := Lib.hid hpost; clear hpost
      go_wp2_with fail
      go_end0
      rw [hput.out]
      exact ⟨rfl, Hp.out⟩
    · have hput := Lib.hid (show wPut s (decide (t.size ≤ 65535)) (beN t.size 2 ++ t.data.toList) = wAdd s (beN t.size 2 ++ t.data.toList) by
        rw [show decide (t.size ≤ 65535) = true by simp; omega, wPut_ok he0])
      have hv := be2 (n := (t.size : Int)) (by omega) (by omega)
      rw [Int.toNat_natCast] at hv
      have hown : (w.alloc (.cells #[.int .u8 ((t.size : Int) / 256), .int .u8 ((t.size : Int) % 256)] 5)).ownsRow w.heap.size 5 1 (.slice (some ⟨w.heap.size, 0, none⟩) 2 2) 2 (byV (beN t.size 2)) := by
        rw [hv]
        exact owns_of (xs := [.int .u8 ((t.size : Int) / 256), .int .u8 ((t.size : Int) % 256)]) (blk_alloc w _) (Nat.le_refl _) (by simp [maxLen])
      have CA := fun (xo : Option Addr) (c : Nat) (w' : World) (hb : Below w.heap.size w w') (hy : BytesAt w' xo (2 + t.size) c (beN t.size 2 ++ t.data.toList)) =>
        (wadd_any B p ob s xo (2 + t.size) c (beN t.size 2 ++ t.data.toList) w' (H.out.below hb) hy (Nat.le_trans hB hb.size) hok.1 hsz)
      have CA := Lib.hid CA; have Hown := Lib.hid hown
      obtain ⟨ii, hi, hz0, hz1, hz2⟩ := info_parts info_u8
      clear he0 he hv hown
      have k1 : 2 + t.size ≤ maxLen := by simp only [maxLen]; omega
      have k2 : 2 + t.size ≤ 140737488355328 := by omega
      go_enter Try.func37, Try.ntmps37
      go_wp2_with (refine Lib.wpList_append_own_string _ rfl (.tmp 26) (.tmp 27) 62 9 rfl w.heap.size 5 ii Try.underlying62 Try.underlying9 hi hz0 hz1 hz2 _ 2 (byV (beN t.size 2)) rfl Hown.out t rfl k1 k2 (by simp) ?_)
      intro v' w1 hown1 hgr _
      obtain ⟨a', c', rfl⟩ := owns_slice hown1
      have hb : Below w.heap.size w w1 := (below_alloc w _).grown hgr (by simp) (fun k hk => Nat.le_of_eq (by simpa [Value.ownBlock] using hk))
      have hy : BytesAt w1 a' (2 + t.size) c' (beN t.size 2 ++ t.data.toList) := by
        have hl : (beN t.size 2 ++ t.data.toList).length = 2 + t.size := by simp [beN_len]
        rw [← byV_str, ← byV_append, ← hl] at hown1
        rw [← hl]
        exact (bytes_owned hown1).2
      have CA1 := Lib.hid (CA.out a' c' w1 hb hy)
      have HB := Lib.hid hb
      clear CA Hown hown1 hgr hb hy
      go_wp2_with fail
      refine CA1.out.mono ?_
      intro e w' hpost
      replace hpost := PWPost.pre HB.out hpost
      obtain ⟨rfl, hpost⟩ := hpost
      have Hp := Lib.hid hpost; clear hpost
      go_wp2_with fail
      go_end0
      rw [hput.out]
      exact ⟨rfl, Hp.out⟩
end Go.Proofs.Ytnmhmbfhaiaaoaa
