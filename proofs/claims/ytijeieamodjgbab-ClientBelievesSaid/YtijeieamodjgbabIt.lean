
/- Items: what they are in memory; walks of kind and same. -/
import Derived.Test.YtijeieamodjgbabVw
import Derived.Test.YtijeieamodjgbabVal
import Derived.Test.YtijeieamodjgbabQuiet
import Derived.Deep.AppendLies
import Derived.Deep.RegionLaw
import Derived.Test.YtijeieamodjgbabPkW
import Derived.Test.YtijeieamodjgbabPkM

namespace Go.Proofs.Ytijeieamodjgbab
set_option maxRecDepth 100000
open Go.RowKit
set_option linter.unusedVariables false

/-- An item: its kind's number, a number, bits, a text. -/
abbrev It := Int × Int × Int × ByteArray
theorem vwU64 : Vw Try.prog 41 Sh.u64 := vw_u64 Try.underlying41 (by kernel_rfl) (by kernel_rfl)

end Go.Proofs.Ytijeieamodjgbab

/- A reader and a writer beside each other; what is read to the end is written as just that: the plain law. -/
namespace Go.Proofs.Ytijeieamodjgbab
set_option maxRecDepth 100000
open Go.RowKit
set_option linter.unusedVariables false

section
variable {text : ByteArray} {w wr w6 : World} {pr pw : Nat} {ob ob' : Option Nat} {sr sr' : R} {sw sw' : W}
end

theorem beN_valBE : ∀ (l : List UInt8), beN (valBE l) l.length = l := by
  intro l
  have h : ∀ (n : Nat) (l : List UInt8), l.length = n → beN (valBE l) n = l := by
    intro n
    induction n with
    | zero => intro l hl; rw [List.eq_nil_of_length_eq_zero hl]; rfl
    | succ n ih =>
      intro l hl
      obtain ⟨r, b, rfl⟩ : ∃ r b, l = r ++ [b] := by
        have hne : l ≠ [] := fun h => by rw [h] at hl; cases hl
        exact ⟨l.dropLast, l.getLast hne, (List.dropLast_concat_getLast hne).symm⟩
      have hr : r.length = n := by simpa using hl
      rw [beN, valBE_snoc, show (valBE r * 256 + b.toNat) / 256 = valBE r by have := b.toNat_lt; omega, ih r hr, show (valBE r * 256 + b.toNat) % 256 = b.toNat by have := b.toNat_lt; omega]
      simp
  exact h _ l rfl
/-- What holds of both at any time. -/
structure Pl (text : List UInt8) (sr : R) (sw : W) : Prop where
  room : 0 ≤ sw.room
  sum : (sw.out.length : Int) + sw.room ≤ text.length
  errs : 0 ≤ sw.err ∧ sw.err ≤ 9
  good : sr.bad = false → sw.out ++ sr.rest = text ∧ sw.err = 0 ∧ sw.room = sr.rest.length
theorem Pl.ok {text : List UInt8} {sr : R} {sw : W} (h : Pl text sr sw) (ht : text.length ≤ 140737488351232) : WOk sw :=
  ⟨by have := h.room; have := h.sum; omega, by have := h.errs; omega⟩
theorem Pl.fits {text : List UInt8} {sr : R} {sw : W} (h : Pl text sr sw) (ht : text.length ≤ 140737488351232) (m : Nat) : Fits sw m := fun hm => by
  have := h.sum; omega
theorem wPut_fits {s : W} {bs : List UInt8} (he : s.err = 0) (hr : (bs.length : Int) ≤ s.room) : wPut s true bs = ⟨s.out ++ bs, s.room - bs.length, s.err⟩ := by
  rw [wPut_ok he, wAdd_room (by omega)]
theorem rNext_good {s : R} {k : Nat} (h : (rNext s k).bad = false) : s.bad = false ∧ k ≤ s.rest.length := by
  unfold rNext at h
  split at h
  · cases h
  · rename_i hc
    exact ⟨by cases hb : s.bad <;> simp_all, by omega⟩
theorem Pl.num {text : List UInt8} {sr : R} {sw : W} (h : Pl text sr sw) (k : Nat) : Pl text (rNext sr k) (wPut sw true (beN (rVal sr k) k)) := by
  obtain ⟨r1, r2⟩ := wPut_room (ok := true) (bs := beN (rVal sr k) k) h.room h.sum
  refine ⟨r1, r2, wPut_errs h.errs, fun hb => ?_⟩
  obtain ⟨hb0, hk⟩ := rNext_good hb
  obtain ⟨g1, g2, g3⟩ := h.good hb0
  have hc : ¬ (sr.bad = true ∨ sr.rest.length < k) := by rw [hb0]; simp; omega
  rw [rNext_ok hc, rVal_ok hc]
  have hl : (sr.rest.take k).length = k := by simp; omega
  have hv := beN_valBE (sr.rest.take k)
  rw [hl] at hv
  rw [hv, wPut_fits g2 (by rw [hl, g3]; omega)]
  refine ⟨?_, g2, ?_⟩
  · show (sw.out ++ sr.rest.take k) ++ sr.rest.drop k = text
    rw [List.append_assoc, List.take_append_drop, g1]
  · show sw.room - _ = ((sr.rest.drop k).length : Int)
    rw [hl, g3, List.length_drop]; omega
theorem tNext_good {s : R} (h : (tNext s).bad = false) : ¬ tBad s := fun hc => by rw [tNext_bad hc] at h; cases h
theorem Pl.text {text : List UInt8} {sr : R} {sw : W} (h : Pl text sr sw) : Pl text (tNext sr) (wPut sw true (beN (tVal sr).length 2 ++ tVal sr)) := by
  obtain ⟨r1, r2⟩ := wPut_room (ok := true) (bs := beN (tVal sr).length 2 ++ tVal sr) h.room h.sum
  refine ⟨r1, r2, wPut_errs h.errs, fun hb => ?_⟩
  have hc := tNext_good hb
  have hb2 : (rNext sr 2).bad = false := by cases hx : (rNext sr 2).bad with | false => rfl | true => exact absurd (.inl hx) hc
  have hn : rVal sr 2 ≤ (rNext sr 2).rest.length := Nat.not_lt.1 fun hx => hc (.inr hx)
  have h1 := (h.num 2).good hb2
  have hl : (tVal sr).length = rVal sr 2 := by rw [tVal_ok hc, List.length_take]; omega
  obtain ⟨hb0, hk⟩ := rNext_good hb2
  obtain ⟨g1, g2, g3⟩ := h.good hb0
  have hr2 : (rNext sr 2).rest = sr.rest.drop 2 := by rw [rNext_ok (by rw [hb0]; simp; omega)]
  have hl2 : (beN (tVal sr).length 2 ++ tVal sr).length = 2 + rVal sr 2 := by rw [List.length_append, beN_len, hl]
  have hlr : (rNext sr 2).rest.length + 2 = sr.rest.length := by rw [hr2, List.length_drop]; omega
  rw [wPut_fits g2 (by rw [hl2, g3]; omega), tNext_ok hc]
  refine ⟨?_, g2, ?_⟩
  · rw [wPut_fits g2 (by rw [beN_len, g3]; omega)] at h1
    show (sw.out ++ (beN (tVal sr).length 2 ++ tVal sr)) ++ (rNext sr 2).rest.drop (rVal sr 2) = text
    rw [hl, tVal_ok hc, ← h1.1]
    show _ = (sw.out ++ beN (rVal sr 2) 2) ++ (rNext sr 2).rest
    rw [List.append_assoc, List.append_assoc, List.append_assoc, List.take_append_drop]
  · show sw.room - _ = (((rNext sr 2).rest.drop (rVal sr 2)).length : Int)
    rw [hl2, g3, List.length_drop]; omega
theorem Pl.start (text : List UInt8) : Pl text ⟨text, false⟩ ⟨[], text.length, 0⟩ :=
  ⟨by show (0 : Int) ≤ text.length; omega, by show ((0 : Nat) : Int) + text.length ≤ _; omega, ⟨by show (0 : Int) ≤ 0; omega, by show (0 : Int) ≤ 9; omega⟩, fun _ => ⟨rfl, rfl, rfl⟩⟩
end Go.Proofs.Ytijeieamodjgbab

/- Walks of write and model: an item is written by the program and by the reference. -/
namespace Go.Proofs.Ytijeieamodjgbab
set_option maxRecDepth 100000
open Go.RowKit
set_option linter.unusedVariables false

/-- The reference's Bits and Text. -/
theorem rwbits_any (B p : Nat) (ob : Option Nat) (s : W) (n : Nat) (w : World) (h : RWr w B p ob s) (hB : B ≤ w.heap.size) (hn : n ≤ 18446744073709551615)
    (hroom : 0 ≤ s.room ∧ s.room + s.out.length ≤ 9223372036854775807) (hsz : s.out.length + 8 ≤ 140737488355328) :
    Calls Try.prog 46 #[.pointer (some ⟨p, 0, none⟩), .int .u64 n] w (RWPost w B p ob (wPut s true (beN n 8))) := by
  have H := Lib.hid h; clear h
  go_enter Try.func46, Try.ntmps46
  go_wp2_with fail
  refine (big_any n 8 w hn (by omega)).mono ?_
  rintro e w1 ⟨rfl, hy, hb⟩
  go_wp2_with fail
  have CP := rput_any B p ob s _ 8 8 (beN n 8) true w1 (WAt.below H.out hb) hy (Nat.le_trans hB hb.size) hroom hsz
  refine CP.mono ?_
  intro e w2 hpost
  replace hpost := RWPost.pre hb hpost
  obtain ⟨rfl, hpost⟩ := hpost
  have Hp := Lib.hid hpost; clear hpost CP hy hb
  go_wp2_with fail
  go_end0
  exact ⟨rfl, Hp.out⟩

set_option maxHeartbeats 1000000 in
theorem rwtext_any (B p : Nat) (ob : Option Nat) (s : W) (t : ByteArray) (w : World) (h : RWr w B p ob s) (hB : B ≤ w.heap.size) (ht : t.size ≤ 140737488351232)
    (hroom : 0 ≤ s.room ∧ s.room + s.out.length ≤ 9223372036854775807) (hsz : s.out.length + (2 + t.size) ≤ 140737488355328) :
    Calls Try.prog 45 #[.pointer (some ⟨p, 0, none⟩), .string t] w (RWPost w B p ob (wPut s (decide (t.size ≤ 65535)) (beN t.size 2 ++ t.data.toList))) := by
  have H := Lib.hid h; clear h
  by_cases hhi : 65535 < t.size
  · have hput := Lib.hid (show wPut s (decide (t.size ≤ 65535)) (beN t.size 2 ++ t.data.toList) = wPut s false [] by
      rw [show decide (t.size ≤ 65535) = false by simp; omega]
      by_cases he : s.err = 0
      · rw [wPut_bad he, wPut_bad he]
      · rw [wPut_err he, wPut_err he])
    have CP := Lib.hid (rput_any B p ob s none 0 0 [] false w H.out ⟨rfl, fun _ => ⟨rfl, rfl⟩, fun ad had => (by cases had)⟩ hB hroom (by omega))
    go_enter Try.func45, Try.ntmps45
    go_wp2_with fail
    refine CP.out.mono ?_
    rintro e w' ⟨rfl, hpost⟩
    have Hp := Lib.hid hpost; clear hpost
    go_wp2_with fail
    go_end0
    rw [hput.out]
    exact ⟨rfl, Hp.out⟩
  · obtain ⟨ii, hi, hz0, hz1, hz2⟩ := info_parts info_u8
    have hdec : decide (t.size ≤ 65535) = true := by simp; omega
    have Hdec := Lib.hid hdec
    have k1 : 2 + t.size ≤ maxLen := by simp only [maxLen]; omega
    have k2 : 2 + t.size ≤ 140737488355328 := by omega
    clear hdec
    go_enter Try.func45, Try.ntmps45
    go_wp2_with fail
    refine (big_own t.size 2 w (by omega) (by omega)).mono ?_
    rintro e w1 ⟨rfl, hy, hb⟩
    have hown : w1.ownsRow w.heap.size 5 1 (.slice (some ⟨w.heap.size, 0, none⟩) 2 2) 2 (byV (beN t.size 2)) := by
      have := owns_of (xs := byV (beN t.size 2)) hy (Nat.le_refl _) (by rw [byV_len, beN_len]; simp [maxLen])
      rwa [byV_len, beN_len] at this
    have Hown := Lib.hid hown
    clear hy hown
    have hs1 := hb.size
    go_wp2_with (refine Lib.wpList_append_own_string _ rfl (.tmp 13) (.tmp 14) 137 9 rfl w.heap.size 5 ii Try.underlying137 Try.underlying9 hi hz0 hz1 hz2 _ 2 (byV (beN t.size 2)) rfl Hown.out t rfl k1 k2 hs1 ?_)
    intro v' w2 hown1 hgr _
    obtain ⟨a', c', rfl⟩ := owns_slice hown1
    have hb2 : Below w.heap.size w w2 := hb.grown hgr hs1 (fun k hk => Nat.le_of_eq (by simpa [Value.ownBlock] using hk))
    have hy : BytesAt w2 a' (2 + t.size) c' (beN t.size 2 ++ t.data.toList) := by
      have hl : (beN t.size 2 ++ t.data.toList).length = 2 + t.size := by simp [beN_len]
      rw [← byV_str, ← byV_append, ← hl] at hown1
      rw [← hl]
      exact (bytes_owned hown1).2
    have CA1 := Lib.hid (rput_any B p ob s a' (2 + t.size) c' _ true w2 (WAt.below H.out hb2) hy (Nat.le_trans hB hb2.size) hroom hsz)
    have HB := Lib.hid hb2
    clear Hown hown1 hgr hb hb2 hy hs1
    go_wp2_with fail
    refine CA1.out.mono ?_
    intro e w' hpost
    replace hpost := RWPost.pre HB.out hpost
    obtain ⟨rfl, hpost⟩ := hpost
    have Hp := Lib.hid hpost; clear hpost
    go_wp2_with fail
    go_end0
    rw [Hdec.out]
    exact ⟨rfl, Hp.out⟩

theorem Fits.mono {s : W} {a : Nat} (h : s.out.length + a ≤ 140737488355328) (b : Nat) (hb : b ≤ a) : Fits s b := fits_of (by omega)

end Go.Proofs.Ytijeieamodjgbab
