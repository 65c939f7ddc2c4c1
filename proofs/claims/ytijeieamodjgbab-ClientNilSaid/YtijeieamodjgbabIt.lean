
/- Items: what they are in memory; walks of kind and same. -/
import Derived.Test.YtijeieamodjgbabVw
import Derived.Test.YtijeieamodjgbabVal
import Derived.Test.YtijeieamodjgbabQuiet
import Derived.Deep.AppendLies
import Derived.Deep.RegionLaw
import Derived.Test.YtijeieamodjgbabPkW
import Derived.Test.YtijeieamodjgbabPkM

namespace Go.Proofs.Ytijeieamodjgbab
set_option maxRecDepth 100000
open Go.RowKit
set_option linter.unusedVariables false

/-- An item: its kind's number, a number, bits, a text. -/
abbrev It := Int × Int × Int × ByteArray
theorem vwU64 : Vw Try.prog 41 Sh.u64 := vw_u64 Try.underlying41 (by kernel_rfl) (by kernel_rfl)

end Go.Proofs.Ytijeieamodjgbab

/- A reader and a writer beside each other; what is read to the end is written as just that: the plain law. -/
namespace Go.Proofs.Ytijeieamodjgbab
set_option maxRecDepth 100000
open Go.RowKit
set_option linter.unusedVariables false

section
variable {text : ByteArray} {w wr w6 : World} {pr pw : Nat} {ob ob' : Option Nat} {sr sr' : R} {sw sw' : W}
end

theorem beN_valBE : ∀ (l : List UInt8), beN (valBE l) l.length = l := by
  intro l
  have h : ∀ (n : Nat) (l : List UInt8), l.length = n → beN (valBE l) n = l := by
    intro n
    induction n with
    | zero => intro l hl; rw [List.eq_nil_of_length_eq_zero hl]; rfl
    | succ n ih =>
      intro l hl
      obtain ⟨r, b, rfl⟩ : ∃ r b, l = r ++ [b] := by
        have hne : l ≠ [] := fun h => by rw [h] at hl; cases hl
        exact ⟨l.dropLast, l.getLast hne, (List.dropLast_concat_getLast hne).symm⟩
      have hr : r.length = n := by simpa using hl
      rw [beN, valBE_snoc, show (valBE r * 256 + b.toNat) / 256 = valBE r by have := b.toNat_lt; omega, ih r hr, show (valBE r * 256 + b.toNat) % 256 = b.toNat by have := b.toNat_lt; omega]
      simp
  exact h _ l rfl
/-- What holds of both at any time. -/
structure Pl (text : List UInt8) (sr : R) (sw : W) : Prop where
  room : 0 ≤ sw.room
  sum : (sw.out.length : Int) + sw.room ≤ text.length
  errs : 0 ≤ sw.err ∧ sw.err ≤ 9
  good : sr.bad = false → sw.out ++ sr.rest = text ∧ sw.err = 0 ∧ sw.room = sr.rest.length
theorem Pl.ok {text : List UInt8} {sr : R} {sw : W} (h : Pl text sr sw) (ht : text.length ≤ 140737488351232) : WOk sw :=
  ⟨by have := h.room; have := h.sum; omega, by have := h.errs; omega⟩
theorem Pl.fits {text : List UInt8} {sr : R} {sw : W} (h : Pl text sr sw) (ht : text.length ≤ 140737488351232) (m : Nat) : Fits sw m := fun hm => by
  have := h.sum; omega
theorem wPut_fits {s : W} {bs : List UInt8} (he : s.err = 0) (hr : (bs.length : Int) ≤ s.room) : wPut s true bs = ⟨s.out ++ bs, s.room - bs.length, s.err⟩ := by
  rw [wPut_ok he, wAdd_room (by omega)]
theorem rNext_good {s : R} {k : Nat} (h : (rNext s k).bad = false) : s.bad = false ∧ k ≤ s.rest.length := by
  unfold rNext at h
  split at h
  · cases h
  · rename_i hc
    exact ⟨by cases hb : s.bad <;> simp_all, by omega⟩
theorem Pl.num {text : List UInt8} {sr : R} {sw : W} (h : Pl text sr sw) (k : Nat) : Pl text (rNext sr k) (wPut sw true (beN (rVal sr k) k)) := by
  obtain ⟨r1, r2⟩ := wPut_room (ok := true) (bs := beN (rVal sr k) k) h.room h.sum
  refine ⟨r1, r2, wPut_errs h.errs, fun hb => ?_⟩
  obtain ⟨hb0, hk⟩ := rNext_good hb
  obtain ⟨g1, g2, g3⟩ := h.good hb0
  have hc : ¬ (sr.bad = true ∨ sr.rest.length < k) := by rw [hb0]; simp; omega
  rw [rNext_ok hc, rVal_ok hc]
  have hl : (sr.rest.take k).length = k := by simp; omega
  have hv := beN_valBE (sr.rest.take k)
  rw [hl] at hv
  rw [hv, wPut_fits g2 (by rw [hl, g3]; omega)]
  refine ⟨?_, g2, ?_⟩
  · show (sw.out ++ sr.rest.take k) ++ sr.rest.drop k = text
    rw [List.append_assoc, List.take_append_drop, g1]
  · show sw.room - _ = ((sr.rest.drop k).length : Int)
    rw [hl, g3, List.length_drop]; omega
theorem tNext_good {s : R} (h : (tNext s).bad = false) : ¬ tBad s := fun hc => by rw [tNext_bad hc] at h; cases h
theorem Pl.text {text : List UInt8} {sr : R} {sw : W} (h : Pl text sr sw) : Pl text (tNext sr) (wPut sw true (beN (tVal sr).length 2 ++ tVal sr)) := by
  obtain ⟨r1, r2⟩ := wPut_room (ok := true) (bs := beN (tVal sr).length 2 ++ tVal sr) h.room h.sum
  refine ⟨r1, r2, wPut_errs h.errs, fun hb => ?_⟩
  have hc := tNext_good hb
  have hb2 : (rNext sr 2).bad = false := by cases hx : (rNext sr 2).bad with | false => rfl | true => exact absurd (.inl hx) hc
  have hn : rVal sr 2 ≤ (rNext sr 2).rest.length := Nat.not_lt.1 fun hx => hc (.inr hx)
  have h1 := (h.num 2).good hb2
  have hl : (tVal sr).length = rVal sr 2 := by rw [tVal_ok hc, List.length_take]; omega
  obtain ⟨hb0, hk⟩ := rNext_good hb2
  obtain ⟨g1, g2, g3⟩ := h.good hb0
  have hr2 : (rNext sr 2).rest = sr.rest.drop 2 := by rw [rNext_ok (by rw [hb0]; simp; omega)]
  have hl2 : (beN (tVal sr).length 2 ++ tVal sr).length = 2 + rVal sr 2 := by rw [List.length_append, beN_len, hl]
  have hlr : (rNext sr 2).rest.length + 2 = sr.rest.length := by rw [hr2, List.length_drop]; omega
  rw [wPut_fits g2 (by rw [hl2, g3]; omega), tNext_ok hc]
  refine ⟨?_, g2, ?_⟩
  · rw [wPut_fits g2 (by rw [beN_len, g3]; omega)] at h1
    show (sw.out ++ (beN (tVal sr).length 2 ++ tVal sr)) ++ (rNext sr 2).rest.drop (rVal sr 2) = text
    rw [hl, tVal_ok hc, ← h1.1]
    show _ = (sw.out ++ beN (rVal sr 2) 2) ++ (rNext sr 2).rest
    rw [List.append_assoc, List.append_assoc, List.append_assoc, List.take_append_drop]
  · show sw.room - _ = (((rNext sr 2).rest.drop (rVal sr 2)).length : Int)
    rw [hl2, g3, List.length_drop]; omega
theorem Pl.start (text : List UInt8) : Pl text ⟨text, false⟩ ⟨[], text.length, 0⟩ :=
  ⟨by show (0 : Int) ≤ text.length; omega, by show ((0 : Nat) : Int) + text.length ≤ _; omega, ⟨by show (0 : Int) ≤ 0; omega, by show (0 : Int) ≤ 9; omega⟩, fun _ => ⟨rfl, rfl, rfl⟩⟩
end Go.Proofs.Ytijeieamodjgbab

/- Walks of write and model: an item is written by the program and by the reference. -/
namespace Go.Proofs.Ytijeieamodjgbab
set_option maxRecDepth 100000
open Go.RowKit
set_option linter.unusedVariables false

theorem Fits.mono {s : W} {a : Nat} (h : s.out.length + a ≤ 140737488355328) (b : Nat) (hb : b ≤ a) : Fits s b := fits_of (by omega)

end Go.Proofs.Ytijeieamodjgbab
