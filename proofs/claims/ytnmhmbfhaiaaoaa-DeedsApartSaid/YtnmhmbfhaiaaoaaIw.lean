
/- Walks of write and model: an item is written by the program and by the reference. -/
import Derived.Test.YtnmhmbfhaiaaoaaRw
namespace Go.Proofs.Ytnmhmbfhaiaaoaa
set_option maxRecDepth 100000
open Go.RowKit
set_option linter.unusedVariables false

def itOk (k m x : Int) (t : ByteArray) : Bool := if k = 0 then decide (0 ≤ m ∧ m ≤ 255) else if k = 1 then decide (0 ≤ m ∧ m ≤ 65535) else if k = 2 then decide (0 ≤ m ∧ m ≤ 4294967295) else if k = 3 then true else decide (t.size ≤ 65535)
def itBs (k m x : Int) (t : ByteArray) : List UInt8 := if k = 0 then beN m.toNat 1 else if k = 1 then beN m.toNat 2 else if k = 2 then beN m.toNat 4 else if k = 3 then beN x.toNat 8 else beN t.size 2 ++ t.data.toList
theorem itBs_len (k m x : Int) (t : ByteArray) : (itBs k m x t).length ≤ 8 + t.size := by
  unfold itBs
  split
  · rw [beN_len]; omega
  split
  · rw [beN_len]; omega
  split
  · rw [beN_len]; omega
  split
  · rw [beN_len]; omega
  · rw [List.length_append, beN_len]
    have : t.data.toList.length = t.size := by simp
    omega

/-- The reference's Bits and Text. -/
theorem rwbits_any (B p : Nat) (ob : Option Nat) (s : W) (n : Nat) (w : World) (h : RWr w B p ob s) (hB : B ≤ w.heap.size) (hn : n ≤ 18446744073709551615)
    (hroom : 0 ≤ s.room ∧ s.room + s.out.length ≤ 9223372036854775807) (hsz : s.out.length + 8 ≤ 140737488355328) :
    Calls Try.prog 44 #[.pointer (some ⟨p, 0, none⟩), .int .u64 n] w (RWPost w B p ob (wPut s true (beN n 8))) := by
  have H := Lib.hid h; clear h
  go_enter Try.func44, Try.ntmps44
  go_wp2_with fail
  refine (big_any n 8 w hn (by omega)).mono ?_
  rintro e w1 ⟨rfl, hy, hb⟩
  go_wp2_with fail
  have CP := rput_any B p ob s _ 8 8 (beN n 8) true w1 (WAt.below H.out hb) hy (Nat.le_trans hB hb.size) hroom hsz
  refine CP.mono ?_
  intro e w2 hpost
  replace hpost := RWPost.pre hb hpost
  obtain ⟨rfl, hpost⟩ := hpost
  have Hp := Lib.hid hpost; clear hpost CP hy hb
  go_wp2_with fail
  go_end0
  exact ⟨rfl, Hp.out⟩

set_option maxHeartbeats 1000000 in
theorem rwtext_any (B p : Nat) (ob : Option Nat) (s : W) (t : ByteArray) (w : World) (h : RWr w B p ob s) (hB : B ≤ w.heap.size) (ht : t.size ≤ 140737488351232)
    (hroom : 0 ≤ s.room ∧ s.room + s.out.length ≤ 9223372036854775807) (hsz : s.out.length + (2 + t.size) ≤ 140737488355328) :
    Calls Try.prog 43 #[.pointer (some ⟨p, 0, none⟩), .string t] w (RWPost w B p ob (wPut s (decide (t.size ≤ 65535)) (beN t.size 2 ++ t.data.toList))) := by
  have H := Lib.hid h; clear h
  by_cases hhi : 65535 < t.size
  · have hput := Lib.hid (show wPut s (decide (t.size ≤ 65535)) (beN t.size 2 ++ t.data.toList) = wPut s false [] by
      rw [show decide (t.size ≤ 65535) = false by simp; omega]
      by_cases he : s.err = 0
      · rw [wPut_bad he, wPut_bad he]
      · rw [wPut_err he, wPut_err he])
    have CP := Lib.hid (rput_any B p ob s none 0 0 [] false w H.out ⟨rfl, fun _ => ⟨rfl, rfl⟩, fun ad had => (by cases had)⟩ hB hroom (by omega))
    go_enter Try.func43, Try.ntmps43
    go_wp2_with fail
    refine CP.out.mono ?_
    rintro e w' ⟨rfl, hpost⟩
    have Hp := Lib.hid hpost; clear hpost
    go_wp2_with fail
    go_end0
    rw [hput.out]
    exact ⟨rfl, Hp.out⟩
  · obtain ⟨ii, hi, hz0, hz1, hz2⟩ := info_parts info_u8
    have hdec : decide (t.size ≤ 65535) = true := by simp; omega
    have Hdec := Lib.hid hdec
    have k1 : 2 + t.size ≤ maxLen := by simp only [maxLen]; omega
    have k2 : 2 + t.size ≤ 140737488355328 := by omega
    clear hdec
    go_enter Try.func43, Try.ntmps43
    go_wp2_with fail
    refine (big_own t.size 2 w (by omega) (by omega)).mono ?_
    rintro e w1 ⟨rfl, hy, hb⟩
    have hown : w1.ownsRow w.heap.size 5 1 (.slice (some ⟨w.heap.size, 0, none⟩) 2 2) 2 (byV (beN t.size 2)) := by
      have := owns_of (xs := byV (beN t.size 2)) hy (Nat.le_refl _) (by rw [byV_len, beN_len]; simp [maxLen])
      rwa [byV_len, beN_len] at this
    have Hown := Lib.hid hown
    clear hy hown
    have hs1 := hb.size
    go_wp2_with (refine Lib.wpList_append_own_string _ rfl (.tmp 13) (.tmp 14) 62 9 rfl w.heap.size 5 ii Try.underlying62 Try.underlying9 hi hz0 hz1 hz2 _ 2 (byV (beN t.size 2)) rfl Hown.out t rfl k1 k2 hs1 ?_)
    intro v' w2 hown1 hgr _
    obtain ⟨a', c', rfl⟩ := owns_slice hown1
    have hb2 : Below w.heap.size w w2 := hb.grown hgr hs1 (fun k hk => Nat.le_of_eq (by simpa [Value.ownBlock] using hk))
    have hy : BytesAt w2 a' (2 + t.size) c' (beN t.size 2 ++ t.data.toList) := by
      have hl : (beN t.size 2 ++ t.data.toList).length = 2 + t.size := by simp [beN_len]
      rw [← byV_str, ← byV_append, ← hl] at hown1
      rw [← hl]
      exact (bytes_owned hown1).2
    have CA1 := Lib.hid (rput_any B p ob s a' (2 + t.size) c' _ true w2 (WAt.below H.out hb2) hy (Nat.le_trans hB hb2.size) hroom hsz)
    have HB := Lib.hid hb2
    clear Hown hown1 hgr hb hb2 hy hs1
    go_wp2_with fail
    refine CA1.out.mono ?_
    intro e w' hpost
    replace hpost := RWPost.pre HB.out hpost
    obtain ⟨rfl, hpost⟩ := hpost
    have Hp := Lib.hid hpost; clear hpost
    go_wp2_with fail
    go_end0
    rw [Hdec.out]
    exact ⟨rfl, Hp.out⟩

theorem Fits.mono {s : W} {a : Nat} (h : s.out.length + a ≤ 140737488355328) (b : Nat) (hb : b ≤ a) : Fits s b := fits_of (by omega)












end Go.Proofs.Ytnmhmbfhaiaaoaa
