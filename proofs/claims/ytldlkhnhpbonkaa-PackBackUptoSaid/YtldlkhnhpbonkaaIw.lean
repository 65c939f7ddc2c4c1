/- Walks of write and model: an item is written by the program and by the reference. -/
import Derived.Test.YtldlkhnhpbonkaaRw
namespace Go.Proofs.Ytldlkhnhpbonkaa
open Go.RowKit
set_option linter.unusedVariables false

def itOk (k m x : Int) (t : ByteArray) : Bool := if k = 0 then decide (0 ≤ m ∧ m ≤ 255) else if k = 1 then decide (0 ≤ m ∧ m ≤ 65535) else if k = 2 then decide (0 ≤ m ∧ m ≤ 4294967295) else if k = 3 then true else decide (t.size ≤ 65535)
def itBs (k m x : Int) (t : ByteArray) : List UInt8 := if k = 0 then beN m.toNat 1 else if k = 1 then beN m.toNat 2 else if k = 2 then beN m.toNat 4 else if k = 3 then beN x.toNat 8 else beN t.size 2 ++ t.data.toList
theorem itBs_len (k m x : Int) (t : ByteArray) : (itBs k m x t).length ≤ 8 + t.size := by
  unfold itBs
  split
  · rw [beN_len]; omega
  split
  · rw [beN_len]; omega
  split
  · rw [beN_len]; omega
  split
  · rw [beN_len]; omega
  · rw [List.length_append, beN_len]
    have : t.data.toList.length = t.size := by simp
    omega

/-- The reference's Bits and Text. -/
theorem rwbits_any (B p : Nat) (ob : Option Nat) (s : W) (n : Nat) (w : World) (h : RWr w B p ob s) (hB : B ≤ w.heap.size) (hn : n ≤ 18446744073709551615)
    (hroom : 0 ≤ s.room ∧ s.room + s.out.length ≤ 9223372036854775807) (hsz : s.out.length + 8 ≤ 140737488355328) :
    Calls Try.prog 46 #[.pointer (some ⟨p, 0, none⟩), .int .u64 n] w (RWPost w B p ob (wPut s true (beN n 8))) := by
  have H := Lib.hid h; clear h
  go_enter Try.func46, Try.ntmps46
  go_wp2_with fail
  refine (big_any n 8 w hn (by omega)).mono ?_
  rintro e w1 ⟨rfl, hy, hb⟩
  go_wp2_with fail
  have CP := rput_any B p ob s _ 8 8 (beN n 8) true w1 (WAt.below H.out hb) hy (Nat.le_trans hB hb.size) hroom hsz
  refine CP.mono ?_
  intro e w2 hpost
  replace hpost := RWPost.pre hb hpost
  obtain ⟨rfl, hpost⟩ := hpost
  have Hp := Lib.hid hpost; clear hpost CP hy hb
  go_wp2_with fail
  go_end0
  exact ⟨rfl, Hp.out⟩

set_option maxHeartbeats 1000000 in
theorem rwtext_any (B p : Nat) (ob : Option Nat) (s : W) (t : ByteArray) (w : World) (h : RWr w B p ob s) (hB : B ≤ w.heap.size) (ht : t.size ≤ 140737488351232)
    (hroom : 0 ≤ s.room ∧ s.room + s.out.length ≤ 9223372036854775807) (hsz : s.out.length + (2 + t.size) ≤ 140737488355328) :
    Calls Try.prog 47 #[.pointer (some ⟨p, 0, none⟩), .string t] w (RWPost w B p ob (wPut s (decide (t.size ≤ 65535)) (beN t.size 2 ++ t.data.toList))) := by
  have H := Lib.hid h; clear h
  by_cases hhi : 65535 < t.size
  · have hput := Lib.hid (show wPut s (decide (t.size ≤ 65535)) (beN t.size 2 ++ t.data.toList) = wPut s false [] by
      rw [show decide (t.size ≤ 65535) = false by simp; omega]
      by_cases he : s.err = 0
      · rw [wPut_bad he, wPut_bad he]
      · rw [wPut_err he, wPut_err he])
    have CP := Lib.hid (rput_any B p ob s none 0 0 [] false w H.out ⟨rfl, fun _ => ⟨rfl, rfl⟩, fun ad had => (by cases had)⟩ hB hroom (by omega))
    go_enter Try.func47, Try.ntmps47
    go_wp2_with fail
    refine CP.out.mono ?_
    rintro e w' ⟨rfl, hpost⟩
    have Hp := Lib.hid hpost; clear hpost
    go_wp2_with fail
    go_end0
    rw [hput.out]
    exact ⟨rfl, Hp.out⟩
  · obtain ⟨ii, hi, hz0, hz1, hz2⟩ := info_parts info_u8
    have hdec : decide (t.size ≤ 65535) = true := by simp; omega
    have Hdec := Lib.hid hdec
    have k1 : 2 + t.size ≤ maxLen := by simp only [maxLen]; omega
    have k2 : 2 + t.size ≤ 140737488355328 := by omega
    clear hdec
    go_enter Try.func47, Try.ntmps47
    go_wp2_with fail
    refine (big_own t.size 2 w (by omega) (by omega)).mono ?_
    rintro e w1 ⟨rfl, hy, hb⟩
    have hown : w1.ownsRow w.heap.size 5 1 (.slice (some ⟨w.heap.size, 0, none⟩) 2 2) 2 (byV (beN t.size 2)) := by
      have := owns_of (xs := byV (beN t.size 2)) hy (Nat.le_refl _) (by rw [byV_len, beN_len]; simp [maxLen])
      rwa [byV_len, beN_len] at this
    have Hown := Lib.hid hown
    clear hy hown
    have hs1 := hb.size
    go_wp2_with (refine Lib.wpList_append_own_string _ rfl (.tmp 13) (.tmp 14) 64 9 rfl w.heap.size 5 ii Try.underlying64 Try.underlying9 hi hz0 hz1 hz2 _ 2 (byV (beN t.size 2)) rfl Hown.out t rfl k1 k2 hs1 ?_)
    intro v' w2 hown1 hgr _
    obtain ⟨a', c', rfl⟩ := owns_slice hown1
    have hb2 : Below w.heap.size w w2 := hb.grown hgr hs1 (fun k hk => Nat.le_of_eq (by simpa [Value.ownBlock] using hk))
    have hy : BytesAt w2 a' (2 + t.size) c' (beN t.size 2 ++ t.data.toList) := by
      have hl : (beN t.size 2 ++ t.data.toList).length = 2 + t.size := by simp [beN_len]
      rw [← byV_str, ← byV_append, ← hl] at hown1
      rw [← hl]
      exact (bytes_owned hown1).2
    have CA1 := Lib.hid (rput_any B p ob s a' (2 + t.size) c' _ true w2 (WAt.below H.out hb2) hy (Nat.le_trans hB hb2.size) hroom hsz)
    have HB := Lib.hid hb2
    clear Hown hown1 hgr hb hb2 hy hs1
    go_wp2_with fail
    refine CA1.out.mono ?_
    intro e w' hpost
    replace hpost := RWPost.pre HB.out hpost
    obtain ⟨rfl, hpost⟩ := hpost
    have Hp := Lib.hid hpost; clear hpost
    go_wp2_with fail
    go_end0
    rw [Hdec.out]
    exact ⟨rfl, Hp.out⟩

theorem Fits.mono {s : W} {a : Nat} (h : s.out.length + a ≤ 140737488355328) (b : Nat) (hb : b ≤ a) : Fits s b := fits_of (by omega)

set_option maxHeartbeats 1000000 in
theorem write_0 (k m : Int) (x : Nat) (t : ByteArray) (B p : Nat) (ob : Option Nat) (s : W) (w : World) (hk : kindN k = 0) (h : PWr w B p ob s) (hB : B ≤ w.heap.size) (hok : WOk s) (hsz : s.out.length + (8 + t.size) ≤ 140737488355328) (hm : i64 m) (hx : x ≤ 18446744073709551615) (ht : t.size ≤ 140737488351232) :
    Calls Try.prog 22 #[.pointer (some ⟨p, 0, none⟩), .agg #[.int .i64 k, .int .i64 m, .int .u64 x, .string t]] w (PWPost w B p ob (wPut s (itOk 0 m x t) (itBs 0 m x t))) := by
  have CK := kind_any k m x t (w.alloc (.cells #[.int .i64 k, .int .i64 m, .int .u64 x, .string t] 32))
  rw [hk] at CK
  replace CK := Lib.hid CK
  have q0 : (w.alloc (.cells #[.int .i64 k, .int .i64 m, .int .u64 x, .string t] 32)).cell? ⟨w.heap.size, 1, none⟩ = some (.int .i64 m) := by simp
  have H := Lib.hid (WAt.below h (below_alloc w (.cells #[.int .i64 k, .int .i64 m, .int .u64 x, .string t] 32)))
  have HB1 := Lib.hid (below_alloc w (.cells #[.int .i64 k, .int .i64 m, .int .u64 x, .string t] 32))
  have hz := HB1.out.size
  clear hk h
  go_enter Try.func22, Try.ntmps22
  go_wp2_with fail
  refine CK.out.mono ?_
  rintro e w1 ⟨rfl, b1⟩
  replace q0 := below_cell b1 q0
  have hz1 := b1.size
  replace H := Lib.hid (WAt.below H.out b1)
  replace HB1 := Lib.hid (bthen HB1.out b1)
  clear b1 CK
  go_wp2_with fail
  refine (wbyte_any B p ob s m w1 H.out (by omega) hok (Fits.mono hsz 1 (by omega)) hm).mono ?_
  intro e w2 hpost
  replace hpost := PWPost.pre HB1.out hpost
  obtain ⟨rfl, hpost⟩ := hpost
  have Hp := Lib.hid hpost; clear hpost
  go_wp2_with fail
  go_end0
  exact ⟨rfl, Hp.out⟩

set_option maxHeartbeats 1000000 in
theorem write_1 (k m : Int) (x : Nat) (t : ByteArray) (B p : Nat) (ob : Option Nat) (s : W) (w : World) (hk : kindN k = 1) (h : PWr w B p ob s) (hB : B ≤ w.heap.size) (hok : WOk s) (hsz : s.out.length + (8 + t.size) ≤ 140737488355328) (hm : i64 m) (hx : x ≤ 18446744073709551615) (ht : t.size ≤ 140737488351232) :
    Calls Try.prog 22 #[.pointer (some ⟨p, 0, none⟩), .agg #[.int .i64 k, .int .i64 m, .int .u64 x, .string t]] w (PWPost w B p ob (wPut s (itOk 1 m x t) (itBs 1 m x t))) := by
  have CK := kind_any k m x t (w.alloc (.cells #[.int .i64 k, .int .i64 m, .int .u64 x, .string t] 32))
  rw [hk] at CK
  replace CK := Lib.hid CK
  have q0 : (w.alloc (.cells #[.int .i64 k, .int .i64 m, .int .u64 x, .string t] 32)).cell? ⟨w.heap.size, 1, none⟩ = some (.int .i64 m) := by simp
  have H := Lib.hid (WAt.below h (below_alloc w (.cells #[.int .i64 k, .int .i64 m, .int .u64 x, .string t] 32)))
  have HB1 := Lib.hid (below_alloc w (.cells #[.int .i64 k, .int .i64 m, .int .u64 x, .string t] 32))
  have hz := HB1.out.size
  clear hk h
  go_enter Try.func22, Try.ntmps22
  go_wp2_with fail
  refine CK.out.mono ?_
  rintro e w1 ⟨rfl, b1⟩
  replace q0 := below_cell b1 q0
  have hz1 := b1.size
  replace H := Lib.hid (WAt.below H.out b1)
  replace HB1 := Lib.hid (bthen HB1.out b1)
  clear b1 CK
  go_wp2_with fail
  refine (wword_any B p ob s m w1 H.out (by omega) hok (Fits.mono hsz 2 (by omega)) hm).mono ?_
  intro e w2 hpost
  replace hpost := PWPost.pre HB1.out hpost
  obtain ⟨rfl, hpost⟩ := hpost
  have Hp := Lib.hid hpost; clear hpost
  go_wp2_with fail
  go_end0
  exact ⟨rfl, Hp.out⟩

set_option maxHeartbeats 1000000 in
theorem write_2 (k m : Int) (x : Nat) (t : ByteArray) (B p : Nat) (ob : Option Nat) (s : W) (w : World) (hk : kindN k = 2) (h : PWr w B p ob s) (hB : B ≤ w.heap.size) (hok : WOk s) (hsz : s.out.length + (8 + t.size) ≤ 140737488355328) (hm : i64 m) (hx : x ≤ 18446744073709551615) (ht : t.size ≤ 140737488351232) :
    Calls Try.prog 22 #[.pointer (some ⟨p, 0, none⟩), .agg #[.int .i64 k, .int .i64 m, .int .u64 x, .string t]] w (PWPost w B p ob (wPut s (itOk 2 m x t) (itBs 2 m x t))) := by
  have CK := kind_any k m x t (w.alloc (.cells #[.int .i64 k, .int .i64 m, .int .u64 x, .string t] 32))
  rw [hk] at CK
  replace CK := Lib.hid CK
  have q0 : (w.alloc (.cells #[.int .i64 k, .int .i64 m, .int .u64 x, .string t] 32)).cell? ⟨w.heap.size, 1, none⟩ = some (.int .i64 m) := by simp
  have H := Lib.hid (WAt.below h (below_alloc w (.cells #[.int .i64 k, .int .i64 m, .int .u64 x, .string t] 32)))
  have HB1 := Lib.hid (below_alloc w (.cells #[.int .i64 k, .int .i64 m, .int .u64 x, .string t] 32))
  have hz := HB1.out.size
  clear hk h
  go_enter Try.func22, Try.ntmps22
  go_wp2_with fail
  refine CK.out.mono ?_
  rintro e w1 ⟨rfl, b1⟩
  replace q0 := below_cell b1 q0
  have hz1 := b1.size
  replace H := Lib.hid (WAt.below H.out b1)
  replace HB1 := Lib.hid (bthen HB1.out b1)
  clear b1 CK
  go_wp2_with fail
  refine (wlong_any B p ob s m w1 H.out (by omega) hok (Fits.mono hsz 4 (by omega)) hm).mono ?_
  intro e w2 hpost
  replace hpost := PWPost.pre HB1.out hpost
  obtain ⟨rfl, hpost⟩ := hpost
  have Hp := Lib.hid hpost; clear hpost
  go_wp2_with fail
  go_end0
  exact ⟨rfl, Hp.out⟩

set_option maxHeartbeats 1000000 in
theorem write_3 (k m : Int) (x : Nat) (t : ByteArray) (B p : Nat) (ob : Option Nat) (s : W) (w : World) (hk : kindN k = 3) (h : PWr w B p ob s) (hB : B ≤ w.heap.size) (hok : WOk s) (hsz : s.out.length + (8 + t.size) ≤ 140737488355328) (hm : i64 m) (hx : x ≤ 18446744073709551615) (ht : t.size ≤ 140737488351232) :
    Calls Try.prog 22 #[.pointer (some ⟨p, 0, none⟩), .agg #[.int .i64 k, .int .i64 m, .int .u64 x, .string t]] w (PWPost w B p ob (wPut s (itOk 3 m x t) (itBs 3 m x t))) := by
  have CK := kind_any k m x t (w.alloc (.cells #[.int .i64 k, .int .i64 m, .int .u64 x, .string t] 32))
  rw [hk] at CK
  replace CK := Lib.hid CK
  have q0 : (w.alloc (.cells #[.int .i64 k, .int .i64 m, .int .u64 x, .string t] 32)).cell? ⟨w.heap.size, 2, none⟩ = some (.int .u64 x) := by simp
  have H := Lib.hid (WAt.below h (below_alloc w (.cells #[.int .i64 k, .int .i64 m, .int .u64 x, .string t] 32)))
  have HB1 := Lib.hid (below_alloc w (.cells #[.int .i64 k, .int .i64 m, .int .u64 x, .string t] 32))
  have hz := HB1.out.size
  clear hk h
  go_enter Try.func22, Try.ntmps22
  go_wp2_with fail
  refine CK.out.mono ?_
  rintro e w1 ⟨rfl, b1⟩
  replace q0 := below_cell b1 q0
  have hz1 := b1.size
  replace H := Lib.hid (WAt.below H.out b1)
  replace HB1 := Lib.hid (bthen HB1.out b1)
  clear b1 CK
  go_wp2_with fail
  refine (wbits_any B p ob s x w1 H.out (by omega) hok (Fits.mono hsz 8 (by omega)) hx).mono ?_
  intro e w2 hpost
  replace hpost := PWPost.pre HB1.out hpost
  obtain ⟨rfl, hpost⟩ := hpost
  have Hp := Lib.hid hpost; clear hpost
  go_wp2_with fail
  go_end0
  exact ⟨rfl, Hp.out⟩

set_option maxHeartbeats 1000000 in
theorem write_4 (k m : Int) (x : Nat) (t : ByteArray) (B p : Nat) (ob : Option Nat) (s : W) (w : World) (hk : kindN k = 4) (h : PWr w B p ob s) (hB : B ≤ w.heap.size) (hok : WOk s) (hsz : s.out.length + (8 + t.size) ≤ 140737488355328) (hm : i64 m) (hx : x ≤ 18446744073709551615) (ht : t.size ≤ 140737488351232) :
    Calls Try.prog 22 #[.pointer (some ⟨p, 0, none⟩), .agg #[.int .i64 k, .int .i64 m, .int .u64 x, .string t]] w (PWPost w B p ob (wPut s (itOk 4 m x t) (itBs 4 m x t))) := by
  have CK := kind_any k m x t (w.alloc (.cells #[.int .i64 k, .int .i64 m, .int .u64 x, .string t] 32))
  rw [hk] at CK
  replace CK := Lib.hid CK
  have q0 : (w.alloc (.cells #[.int .i64 k, .int .i64 m, .int .u64 x, .string t] 32)).cell? ⟨w.heap.size, 3, none⟩ = some (.string t) := by simp
  have H := Lib.hid (WAt.below h (below_alloc w (.cells #[.int .i64 k, .int .i64 m, .int .u64 x, .string t] 32)))
  have HB1 := Lib.hid (below_alloc w (.cells #[.int .i64 k, .int .i64 m, .int .u64 x, .string t] 32))
  have hz := HB1.out.size
  clear hk h
  go_enter Try.func22, Try.ntmps22
  go_wp2_with fail
  refine CK.out.mono ?_
  rintro e w1 ⟨rfl, b1⟩
  replace q0 := below_cell b1 q0
  have hz1 := b1.size
  replace H := Lib.hid (WAt.below H.out b1)
  replace HB1 := Lib.hid (bthen HB1.out b1)
  clear b1 CK
  go_wp2_with fail
  refine (wtext_any B p ob s t w1 H.out (by omega) hok (Fits.mono hsz _ (by omega)) ht).mono ?_
  intro e w2 hpost
  replace hpost := PWPost.pre HB1.out hpost
  obtain ⟨rfl, hpost⟩ := hpost
  have Hp := Lib.hid hpost; clear hpost
  go_wp2_with fail
  go_end0
  exact ⟨rfl, Hp.out⟩

theorem write_any (k m : Int) (x : Nat) (t : ByteArray) (B p : Nat) (ob : Option Nat) (s : W) (w : World) (h : PWr w B p ob s) (hB : B ≤ w.heap.size) (hok : WOk s) (hsz : s.out.length + (8 + t.size) ≤ 140737488355328) (hm : i64 m) (hx : x ≤ 18446744073709551615) (ht : t.size ≤ 140737488351232) :
    Calls Try.prog 22 #[.pointer (some ⟨p, 0, none⟩), .agg #[.int .i64 k, .int .i64 m, .int .u64 x, .string t]] w (PWPost w B p ob (wPut s (itOk (kindN k) m x t) (itBs (kindN k) m x t))) := by
  rcases kindN_range k with hk | hk | hk | hk | hk
  · rw [hk]; exact write_0 k m x t B p ob s w hk h hB hok hsz hm hx ht
  · rw [hk]; exact write_1 k m x t B p ob s w hk h hB hok hsz hm hx ht
  · rw [hk]; exact write_2 k m x t B p ob s w hk h hB hok hsz hm hx ht
  · rw [hk]; exact write_3 k m x t B p ob s w hk h hB hok hsz hm hx ht
  · rw [hk]; exact write_4 k m x t B p ob s w hk h hB hok hsz hm hx ht

set_option maxHeartbeats 1000000 in
theorem model_0 (k m : Int) (x : Nat) (t : ByteArray) (B p : Nat) (ob : Option Nat) (s : W) (w : World) (hk : kindN k = 0) (h : RWr w B p ob s) (hB : B ≤ w.heap.size) (hroom : 0 ≤ s.room ∧ s.room + s.out.length ≤ 9223372036854775807) (hsz : s.out.length + (8 + t.size) ≤ 140737488355328) (hm : i64 m) (hx : x ≤ 18446744073709551615) (ht : t.size ≤ 140737488351232) :
    Calls Try.prog 34 #[.pointer (some ⟨p, 0, none⟩), .agg #[.int .i64 k, .int .i64 m, .int .u64 x, .string t]] w (RWPost w B p ob (wPut s (itOk 0 m x t) (itBs 0 m x t))) := by
  have CK := kind_any k m x t (w.alloc (.cells #[.int .i64 k, .int .i64 m, .int .u64 x, .string t] 32))
  rw [hk] at CK
  replace CK := Lib.hid CK
  have q0 : (w.alloc (.cells #[.int .i64 k, .int .i64 m, .int .u64 x, .string t] 32)).cell? ⟨w.heap.size, 1, none⟩ = some (.int .i64 m) := by simp
  have H := Lib.hid (WAt.below h (below_alloc w (.cells #[.int .i64 k, .int .i64 m, .int .u64 x, .string t] 32)))
  have HB1 := Lib.hid (below_alloc w (.cells #[.int .i64 k, .int .i64 m, .int .u64 x, .string t] 32))
  have hz := HB1.out.size
  clear hk h
  go_enter Try.func34, Try.ntmps34
  go_wp2_with fail
  refine CK.out.mono ?_
  rintro e w1 ⟨rfl, b1⟩
  replace q0 := below_cell b1 q0
  have hz1 := b1.size
  replace H := Lib.hid (WAt.below H.out b1)
  replace HB1 := Lib.hid (bthen HB1.out b1)
  clear b1 CK
  go_wp2_with fail
  have CN := rnum_any B p ob s m 1 w1 H.out (by omega) (by omega) hm hroom (by omega)
  rw [show decide (0 ≤ m ∧ m < ((256 ^ 1 : Nat) : Int)) = itOk 0 m x t from decide_eq_decide.2 (by rw [show ((256 ^ 1 : Nat) : Int) = 256 from rfl]; omega)] at CN
  refine CN.mono ?_
  clear CN
  intro e w2 hpost
  replace hpost := RWPost.pre HB1.out hpost
  obtain ⟨rfl, hpost⟩ := hpost
  have Hp := Lib.hid hpost; clear hpost
  go_wp2_with fail
  go_end0
  exact ⟨rfl, Hp.out⟩

set_option maxHeartbeats 1000000 in
theorem model_1 (k m : Int) (x : Nat) (t : ByteArray) (B p : Nat) (ob : Option Nat) (s : W) (w : World) (hk : kindN k = 1) (h : RWr w B p ob s) (hB : B ≤ w.heap.size) (hroom : 0 ≤ s.room ∧ s.room + s.out.length ≤ 9223372036854775807) (hsz : s.out.length + (8 + t.size) ≤ 140737488355328) (hm : i64 m) (hx : x ≤ 18446744073709551615) (ht : t.size ≤ 140737488351232) :
    Calls Try.prog 34 #[.pointer (some ⟨p, 0, none⟩), .agg #[.int .i64 k, .int .i64 m, .int .u64 x, .string t]] w (RWPost w B p ob (wPut s (itOk 1 m x t) (itBs 1 m x t))) := by
  have CK := kind_any k m x t (w.alloc (.cells #[.int .i64 k, .int .i64 m, .int .u64 x, .string t] 32))
  rw [hk] at CK
  replace CK := Lib.hid CK
  have q0 : (w.alloc (.cells #[.int .i64 k, .int .i64 m, .int .u64 x, .string t] 32)).cell? ⟨w.heap.size, 1, none⟩ = some (.int .i64 m) := by simp
  have H := Lib.hid (WAt.below h (below_alloc w (.cells #[.int .i64 k, .int .i64 m, .int .u64 x, .string t] 32)))
  have HB1 := Lib.hid (below_alloc w (.cells #[.int .i64 k, .int .i64 m, .int .u64 x, .string t] 32))
  have hz := HB1.out.size
  clear hk h
  go_enter Try.func34, Try.ntmps34
  go_wp2_with fail
  refine CK.out.mono ?_
  rintro e w1 ⟨rfl, b1⟩
  replace q0 := below_cell b1 q0
  have hz1 := b1.size
  replace H := Lib.hid (WAt.below H.out b1)
  replace HB1 := Lib.hid (bthen HB1.out b1)
  clear b1 CK
  go_wp2_with fail
  have CN := rnum_any B p ob s m 2 w1 H.out (by omega) (by omega) hm hroom (by omega)
  rw [show decide (0 ≤ m ∧ m < ((256 ^ 2 : Nat) : Int)) = itOk 1 m x t from decide_eq_decide.2 (by rw [show ((256 ^ 2 : Nat) : Int) = 65536 from rfl]; omega)] at CN
  refine CN.mono ?_
  clear CN
  intro e w2 hpost
  replace hpost := RWPost.pre HB1.out hpost
  obtain ⟨rfl, hpost⟩ := hpost
  have Hp := Lib.hid hpost; clear hpost
  go_wp2_with fail
  go_end0
  exact ⟨rfl, Hp.out⟩

set_option maxHeartbeats 1000000 in
theorem model_2 (k m : Int) (x : Nat) (t : ByteArray) (B p : Nat) (ob : Option Nat) (s : W) (w : World) (hk : kindN k = 2) (h : RWr w B p ob s) (hB : B ≤ w.heap.size) (hroom : 0 ≤ s.room ∧ s.room + s.out.length ≤ 9223372036854775807) (hsz : s.out.length + (8 + t.size) ≤ 140737488355328) (hm : i64 m) (hx : x ≤ 18446744073709551615) (ht : t.size ≤ 140737488351232) :
    Calls Try.prog 34 #[.pointer (some ⟨p, 0, none⟩), .agg #[.int .i64 k, .int .i64 m, .int .u64 x, .string t]] w (RWPost w B p ob (wPut s (itOk 2 m x t) (itBs 2 m x t))) := by
  have CK := kind_any k m x t (w.alloc (.cells #[.int .i64 k, .int .i64 m, .int .u64 x, .string t] 32))
  rw [hk] at CK
  replace CK := Lib.hid CK
  have q0 : (w.alloc (.cells #[.int .i64 k, .int .i64 m, .int .u64 x, .string t] 32)).cell? ⟨w.heap.size, 1, none⟩ = some (.int .i64 m) := by simp
  have H := Lib.hid (WAt.below h (below_alloc w (.cells #[.int .i64 k, .int .i64 m, .int .u64 x, .string t] 32)))
  have HB1 := Lib.hid (below_alloc w (.cells #[.int .i64 k, .int .i64 m, .int .u64 x, .string t] 32))
  have hz := HB1.out.size
  clear hk h
  go_enter Try.func34, Try.ntmps34
  go_wp2_with fail
  refine CK.out.mono ?_
  rintro e w1 ⟨rfl, b1⟩
  replace q0 := below_cell b1 q0
  have hz1 := b1.size
  replace H := Lib.hid (WAt.below H.out b1)
  replace HB1 := Lib.hid (bthen HB1.out b1)
  clear b1 CK
  go_wp2_with fail
  have CN := rnum_any B p ob s m 4 w1 H.out (by omega) (by omega) hm hroom (by omega)
  rw [show decide (0 ≤ m ∧ m < ((256 ^ 4 : Nat) : Int)) = itOk 2 m x t from decide_eq_decide.2 (by rw [show ((256 ^ 4 : Nat) : Int) = 4294967296 from rfl]; omega)] at CN
  refine CN.mono ?_
  clear CN
  intro e w2 hpost
  replace hpost := RWPost.pre HB1.out hpost
  obtain ⟨rfl, hpost⟩ := hpost
  have Hp := Lib.hid hpost; clear hpost
  go_wp2_with fail
  go_end0
  exact ⟨rfl, Hp.out⟩

set_option maxHeartbeats 1000000 in
theorem model_3 (k m : Int) (x : Nat) (t : ByteArray) (B p : Nat) (ob : Option Nat) (s : W) (w : World) (hk : kindN k = 3) (h : RWr w B p ob s) (hB : B ≤ w.heap.size) (hroom : 0 ≤ s.room ∧ s.room + s.out.length ≤ 9223372036854775807) (hsz : s.out.length + (8 + t.size) ≤ 140737488355328) (hm : i64 m) (hx : x ≤ 18446744073709551615) (ht : t.size ≤ 140737488351232) :
    Calls Try.prog 34 #[.pointer (some ⟨p, 0, none⟩), .agg #[.int .i64 k, .int .i64 m, .int .u64 x, .string t]] w (RWPost w B p ob (wPut s (itOk 3 m x t) (itBs 3 m x t))) := by
  have CK := kind_any k m x t (w.alloc (.cells #[.int .i64 k, .int .i64 m, .int .u64 x, .string t] 32))
  rw [hk] at CK
  replace CK := Lib.hid CK
  have q0 : (w.alloc (.cells #[.int .i64 k, .int .i64 m, .int .u64 x, .string t] 32)).cell? ⟨w.heap.size, 2, none⟩ = some (.int .u64 x) := by simp
  have H := Lib.hid (WAt.below h (below_alloc w (.cells #[.int .i64 k, .int .i64 m, .int .u64 x, .string t] 32)))
  have HB1 := Lib.hid (below_alloc w (.cells #[.int .i64 k, .int .i64 m, .int .u64 x, .string t] 32))
  have hz := HB1.out.size
  clear hk h
  go_enter Try.func34, Try.ntmps34
  go_wp2_with fail
  refine CK.out.mono ?_
  rintro e w1 ⟨rfl, b1⟩
  replace q0 := below_cell b1 q0
  have hz1 := b1.size
  replace H := Lib.hid (WAt.below H.out b1)
  replace HB1 := Lib.hid (bthen HB1.out b1)
  clear b1 CK
  go_wp2_with fail
  refine (rwbits_any B p ob s x w1 H.out (by omega) hx hroom (by omega)).mono ?_
  intro e w2 hpost
  replace hpost := RWPost.pre HB1.out hpost
  obtain ⟨rfl, hpost⟩ := hpost
  have Hp := Lib.hid hpost; clear hpost
  go_wp2_with fail
  go_end0
  exact ⟨rfl, Hp.out⟩

set_option maxHeartbeats 1000000 in
theorem model_4 (k m : Int) (x : Nat) (t : ByteArray) (B p : Nat) (ob : Option Nat) (s : W) (w : World) (hk : kindN k = 4) (h : RWr w B p ob s) (hB : B ≤ w.heap.size) (hroom : 0 ≤ s.room ∧ s.room + s.out.length ≤ 9223372036854775807) (hsz : s.out.length + (8 + t.size) ≤ 140737488355328) (hm : i64 m) (hx : x ≤ 18446744073709551615) (ht : t.size ≤ 140737488351232) :
    Calls Try.prog 34 #[.pointer (some ⟨p, 0, none⟩), .agg #[.int .i64 k, .int .i64 m, .int .u64 x, .string t]] w (RWPost w B p ob (wPut s (itOk 4 m x t) (itBs 4 m x t))) := by
  have CK := kind_any k m x t (w.alloc (.cells #[.int .i64 k, .int .i64 m, .int .u64 x, .string t] 32))
  rw [hk] at CK
  replace CK := Lib.hid CK
  have q0 : (w.alloc (.cells #[.int .i64 k, .int .i64 m, .int .u64 x, .string t] 32)).cell? ⟨w.heap.size, 3, none⟩ = some (.string t) := by simp
  have H := Lib.hid (WAt.below h (below_alloc w (.cells #[.int .i64 k, .int .i64 m, .int .u64 x, .string t] 32)))
  have HB1 := Lib.hid (below_alloc w (.cells #[.int .i64 k, .int .i64 m, .int .u64 x, .string t] 32))
  have hz := HB1.out.size
  clear hk h
  go_enter Try.func34, Try.ntmps34
  go_wp2_with fail
  refine CK.out.mono ?_
  rintro e w1 ⟨rfl, b1⟩
  replace q0 := below_cell b1 q0
  have hz1 := b1.size
  replace H := Lib.hid (WAt.below H.out b1)
  replace HB1 := Lib.hid (bthen HB1.out b1)
  clear b1 CK
  go_wp2_with fail
  refine (rwtext_any B p ob s t w1 H.out (by omega) ht hroom (by omega)).mono ?_
  intro e w2 hpost
  replace hpost := RWPost.pre HB1.out hpost
  obtain ⟨rfl, hpost⟩ := hpost
  have Hp := Lib.hid hpost; clear hpost
  go_wp2_with fail
  go_end0
  exact ⟨rfl, Hp.out⟩

theorem model_any (k m : Int) (x : Nat) (t : ByteArray) (B p : Nat) (ob : Option Nat) (s : W) (w : World) (h : RWr w B p ob s) (hB : B ≤ w.heap.size) (hroom : 0 ≤ s.room ∧ s.room + s.out.length ≤ 9223372036854775807) (hsz : s.out.length + (8 + t.size) ≤ 140737488355328) (hm : i64 m) (hx : x ≤ 18446744073709551615) (ht : t.size ≤ 140737488351232) :
    Calls Try.prog 34 #[.pointer (some ⟨p, 0, none⟩), .agg #[.int .i64 k, .int .i64 m, .int .u64 x, .string t]] w (RWPost w B p ob (wPut s (itOk (kindN k) m x t) (itBs (kindN k) m x t))) := by
  rcases kindN_range k with hk | hk | hk | hk | hk
  · rw [hk]; exact model_0 k m x t B p ob s w hk h hB hroom hsz hm hx ht
  · rw [hk]; exact model_1 k m x t B p ob s w hk h hB hroom hsz hm hx ht
  · rw [hk]; exact model_2 k m x t B p ob s w hk h hB hroom hsz hm hx ht
  · rw [hk]; exact model_3 k m x t B p ob s w hk h hB hroom hsz hm hx ht
  · rw [hk]; exact model_4 k m x t B p ob s w hk h hB hroom hsz hm hx ht
end Go.Proofs.Ytldlkhnhpbonkaa
