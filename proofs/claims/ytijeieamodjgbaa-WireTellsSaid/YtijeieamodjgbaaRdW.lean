
/- Walks of the program's reader: number. -/
import Derived.Test.YtijeieamodjgbaaRows
import Derived.Test.YtijeieamodjgbaaPkM
import Derived.Deep.QuietTactic
import Derived.BigQuiet
import Derived.Test.YtijeieamodjgbaaPkW
namespace Go.Proofs.Ytijeieamodjgbaa
set_option maxRecDepth 100000
open Go.RowKit
set_option linter.unusedVariables false

def PRd (w : World) (p : Nat) (text : ByteArray) (s : R) : Prop := PRdT 183 w p text s
/-- What a number that is read leaves. -/
def NumPost (w : World) (p : Nat) (text : ByteArray) (s : R) (k : Nat) (e : Ending) (w' : World) : Prop :=
  e = .returned (.int .u64 (rVal s k)) ∧ PRd w' p text (rNext s k) ∧ Only p none w w'

set_option maxHeartbeats 1000000 in
theorem number_any (p : Nat) (text : ByteArray) (s : R) (k : Nat) (w : World) (h : PRd w p text s) (hk : k ≤ 8) :
    Calls Try.prog 153 #[.pointer (some ⟨p, 0, none⟩), .int .i64 k] w (NumPost w p text s k) := by
  obtain ⟨at0, ha, hts, hb, hrest⟩ := h
  have h0 : w.cell? ⟨p, 0, none⟩ = some (.string text) := by rw [blk_cell hb]; rfl
  have h1 : w.cell? ⟨p, 1, none⟩ = some (.int .i64 at0) := by rw [blk_cell hb]; rfl
  have h2 : w.cell? ⟨p, 2, none⟩ = some (.bool s.bad) := by rw [blk_cell hb]; rfl
  have hf1 : w.frozen? ⟨p, 1, none⟩ = false := blk_frozen hb _
  have hf2 : w.frozen? ⟨p, 2, none⟩ = false := blk_frozen hb _
  have hlen : s.rest.length = text.size - at0 := by rw [hrest]; simp
  have Hb := Lib.hid hb
  have Hrest := Lib.hid hrest
  clear hb hrest
  cases hbad : s.bad with
  | true =>
    have hv := Lib.hid (rVal_bad (s := s) (k := k) (.inl hbad))
    have hn := Lib.hid (rNext_bad (s := s) (k := k) (.inl hbad))
    rw [hbad] at h2
    have Hbad := Lib.hid hbad
    clear hlen hbad
    go_enter Try.func153, Try.ntmps153
    go_wp2_with fail
    go_ret
    refine ⟨by rw [hv.out]; rfl, ?_, Only.refl _ _ _⟩
    rw [hn.out]
    exact ⟨at0, ha, hts, by have := Hb.out; rw [Hbad.out] at this; exact this, Hrest.out⟩
  | false =>
    rw [hbad] at h2
    have Hbad := Lib.hid hbad
    by_cases hlt : text.size - at0 < k
    · have hc : s.bad = true ∨ s.rest.length < k := .inr (by rw [hlen]; exact hlt)
      have hv := Lib.hid (rVal_bad hc)
      have hn := Lib.hid (rNext_bad hc)
      have hd : decide ((text.size : Int) - at0 < (k : Int)) = true := by simp; omega
      have hwr : IntKind.i64.wrap ((text.size : Int) - (at0 : Int)) = (text.size : Int) - (at0 : Int) := IntWalk.i64_in _ (by omega)
      clear hlen hbad hc
      go_enter Try.func153, Try.ntmps153
      go_wp2_with fail
      go_quiet (fail)
      go_wp2_with fail
      go_ret
      refine ⟨by rw [hv.out]; rfl, ?_, (Only.of_below (below_drewN (Below.refl _ _) nq)).set _ _⟩
      rw [hn.out]
      refine ⟨at0, ha, hts, ?_, Hrest.out⟩
      have := blk_set (w := w.drewN nq) Hb.out 2 (.bool true)
      simpa using this
    · have hd : decide ((text.size : Int) - at0 < (k : Int)) = false := by simp; omega
      have hwr : IntKind.i64.wrap ((text.size : Int) - (at0 : Int)) = (text.size : Int) - (at0 : Int) := IntWalk.i64_in _ (by omega)
      have hwr2 : IntKind.i64.wrap ((at0 : Int) + (k : Int)) = (at0 : Int) + (k : Int) := IntWalk.i64_in _ (by omega)
      have g1 : (0 : Int) ≤ (at0 : Int) + (k : Int) := by omega
      have g2 : (at0 : Int) + (k : Int) ≤ (text.size : Int) := by omega
      have g3 : at0 + k ≤ text.size := by omega
      have hrb := fun (w : World) (s : ByteArray) => run_bytes_of_string (P := Try.prog) w 9 168 5 s Try.underlying9 Try.underlying168 Try.underlying5
      go_enter Try.func153, Try.ntmps153
      go_wp2_with fail
      go_quiet (fail)
      go_wp2_with fail
      go_region
      go_wp2_with fail
      have hnb : ¬ (s.bad = true ∨ s.rest.length < k) := by rw [hbad, hlen]; simp; omega
      have Hv := Lib.hid (rVal_ok hnb)
      have Hn := Lib.hid (rNext_ok hnb)
      obtain ⟨L, hL⟩ : ∃ L, L = s.rest.take k := ⟨_, rfl⟩
      have hLl : L.length = k := by rw [hL]; simp; omega
      rw [← hL] at Hv
      generalize hw2 : (w.drewN (nq + 1 + 1)).alloc _ = w2
      have hbel : Below w.heap.size w w2 := by rw [← hw2]; exact balloc (below_drewN (Below.refl _ _) _) _
      have hbytes : ∀ j b, L[j]? = some b → w2.cell? ⟨w.heap.size, j, none⟩ = some (.int .u8 (b.toNat : Int)) := fun j b hj => by
        rw [← hw2]
        refine bytes_row_cell _ _ _ _ _ _ rfl j b ?_
        rw [Lib.extract_data, ← hj, hL, Hrest.out]
        simp
      have Hbytes := Lib.hid hbytes; have Hbel := Lib.hid hbel
      have HL := Lib.hid hL; have HLl := Lib.hid hLl
      clear hbytes hbel hw2 hL hLl hnb hlen hbad hd hwr hwr2 g1 g2 h0 h1 h2 hrb
      go_loop [5, 48] (fun m i => ∃ j : Nat, j ≤ k ∧ i = .int .i64 j ∧ m = .int .u64 (valBE (L.take j))) (fun _ i => k - (intOf i).toNat)
      case atStart => exact ⟨0, by omega, rfl, by simp [valBE]⟩
      case round =>
        obtain ⟨j, hj, rfl, rfl⟩ := hrel
        by_cases hlt : j < k
        · obtain ⟨b, hb⟩ : ∃ b, L[j]? = some b := ⟨_, List.getElem?_eq_getElem (by rw [HLl.out]; exact hlt)⟩
          have hc := Hbytes.out j b hb
          have hval := valBE_lt (L.take j)
          have hlt2 : valBE (L.take j) < 72057594037927936 := Nat.lt_of_lt_of_le hval (by
            rw [List.length_take]; exact Nat.le_trans (Nat.pow_le_pow_right (by omega) (Nat.min_le_left _ _)) (pow7 (by omega)))
          have hsn : valBE (L.take (j + 1)) = valBE (L.take j) * 256 + b.toNat := by
            rw [List.take_add_one, hb]; exact valBE_snoc _ _
          have Hsn := Lib.hid hsn
          have hbt := b.toNat_lt
          clear hb hval hsn
          generalize valBE (L.take j) = m at *
          generalize hB : b.toNat = c at *
          clear hB
          have Hor := Lib.hid (or_bits m c hlt2 hbt)
          go_wp2_with fail
          go_round
          case rel => exact ⟨j + 1, by omega, by go_num, by rw [Hor.out, Hsn.out]⟩
          case measure => simp [intOf]; omega
        · obtain rfl : j = k := by omega
          have hLt : L.take j = L := List.take_of_length_le (by rw [HLl.out]; exact Nat.le_refl _)
          have hp2 : w2.heap[p]? = w.heap[p]? := Hbel.out.block p (blk_lt Hb.out)
          have hb2 := Hb.out
          rw [← hp2] at hb2
          have c1 : w2.cell? ⟨p, 1, none⟩ = some (.int .i64 at0) := by rw [blk_cell hb2]; rfl
          have z1 : w2.frozen? ⟨p, 1, none⟩ = false := blk_frozen hb2 _
          have hset := blk_set hb2 1 (.int .i64 ((at0 : Int) + (j : Int)))
          have Hset := Lib.hid hset
          have HLt := Lib.hid hLt
          clear hp2 hb2 hset hLt Hbytes
          go_wp2_with fail
          go_ret
          refine ⟨by rw [Hv.out, HLt.out]; rfl, ?_, (Only.of_below Hbel.out).set _ _⟩
          rw [Hn.out]
          refine ⟨at0 + j, g3, hts, ?_, ?_⟩
          · rw [Hset.out, Hbad.out]; rfl
          · show s.rest.drop j = _
            rw [Hrest.out, List.drop_drop]
end Go.Proofs.Ytijeieamodjgbaa

/- Walks of the readers: Byte, Word, Left, Read of the program; Bits, Num, End of the reference. -/
namespace Go.Proofs.Ytijeieamodjgbaa
set_option maxRecDepth 100000
open Go.RowKit
set_option linter.unusedVariables false

theorem rVal_lt (s : R) (k : Nat) : rVal s k < 256 ^ k := by
  unfold rVal
  split
  · exact Nat.pos_of_ne_zero (by simp)
  · have := valBE_lt (s.rest.take k)
    exact Nat.lt_of_lt_of_le this (Nat.pow_le_pow_right (by omega) (by rw [List.length_take]; exact Nat.min_le_left _ _))
/-- What a number that is read as an int leaves. -/
def IntPost (w : World) (p : Nat) (text : ByteArray) (s : R) (k : Nat) (e : Ending) (w' : World) : Prop :=
  e = .returned (.int .i64 (rVal s k)) ∧ PRd w' p text (rNext s k) ∧ Only p none w w'

set_option maxHeartbeats 400000 in
theorem rbyte_any (p : Nat) (text : ByteArray) (s : R) (w : World) (h : PRd w p text s) :
    Calls Try.prog 120 #[.pointer (some ⟨p, 0, none⟩)] w (IntPost w p text s 1) := by
  have CN := Lib.hid (number_any p text s 1 w h (by omega))
  have hlt : rVal s 1 < 256 := rVal_lt s 1
  clear h
  unfold IntPost
  go_enter Try.func120, Try.ntmps120
  go_wp2_with fail
  refine CN.out.mono ?_
  rintro e w' ⟨rfl, hpost⟩
  have Hp := Lib.hid hpost; clear hpost
  generalize hm : rVal s 1 = m at *
  have Hm := Lib.hid hm; clear hm
  go_wp2_with fail
  go_ret
  exact ⟨by rw [Hm.out]; rfl, Hp.out⟩

set_option maxHeartbeats 400000 in
theorem rword_any (p : Nat) (text : ByteArray) (s : R) (w : World) (h : PRd w p text s) :
    Calls Try.prog 121 #[.pointer (some ⟨p, 0, none⟩)] w (IntPost w p text s 2) := by
  have CN := Lib.hid (number_any p text s 2 w h (by omega))
  have hlt : rVal s 2 < 65536 := rVal_lt s 2
  clear h
  unfold IntPost
  go_enter Try.func121, Try.ntmps121
  go_wp2_with fail
  refine CN.out.mono ?_
  rintro e w' ⟨rfl, hpost⟩
  have Hp := Lib.hid hpost; clear hpost
  generalize hm : rVal s 2 = m at *
  have Hm := Lib.hid hm; clear hm
  go_wp2_with fail
  go_ret
  exact ⟨by rw [Hm.out]; rfl, Hp.out⟩

set_option maxHeartbeats 400000 in
theorem left_any (p : Nat) (text : ByteArray) (s : R) (w : World) (h : PRd w p text s) :
    Calls Try.prog 159 #[.pointer (some ⟨p, 0, none⟩)] w fun e w' => e = .returned (.int .i64 s.rest.length) ∧ ∃ q, w' = w.drewN q := by
  obtain ⟨at0, ha, hts, hb, hrest⟩ := h
  have h0 : w.cell? ⟨p, 0, none⟩ = some (.string text) := by rw [blk_cell hb]; rfl
  have h1 : w.cell? ⟨p, 1, none⟩ = some (.int .i64 at0) := by rw [blk_cell hb]; rfl
  have hlen := Lib.hid (show s.rest.length = text.size - at0 by rw [hrest]; simp)
  have hwr : IntKind.i64.wrap ((text.size : Int) - (at0 : Int)) = (text.size : Int) - (at0 : Int) := IntWalk.i64_in _ (by omega)
  clear hb hrest
  go_enter Try.func159, Try.ntmps159
  go_wp2_with fail
  go_quiet (fail)
  go_wp2_with fail
  go_ret
  exact ⟨by rw [hlen.out]; exact ret_int (by omega), nq, rfl⟩

set_option maxHeartbeats 400000 in
theorem read_any (text : ByteArray) (w : World) (hts : text.size ≤ 140737488351232) :
    Calls Try.prog 64 #[.string text] w fun e w' => e = .returned (.pointer (some ⟨w.heap.size, 0, none⟩)) ∧ PRd w' w.heap.size text ⟨text.data.toList, false⟩ ∧ Below w.heap.size w w' := by
  go_enter Try.func64, Try.ntmps64
  go_wp2_with fail
  go_ret
  exact ⟨rfl, ⟨0, by omega, hts, blk_alloc _ _, by simp⟩, below_alloc _ _⟩




/-- How a reading ends. -/
def endE (s : R) : Int := if s.bad = true then 2 else if 0 < s.rest.length then 5 else 0

end Go.Proofs.Ytijeieamodjgbaa

/- Writers and readers that aren't there: what is nil answers nothing and does nothing. -/
namespace Go.Proofs.Ytijeieamodjgbaa
set_option maxRecDepth 100000
open Go.RowKit
set_option linter.unusedVariables false

theorem wbyte_nil (n : Int) (w : World) : Calls Try.prog 46 #[.pointer none, .int .i64 n] w fun e w' => e = .returned (.tuple #[]) ∧ w = w' := by
  go_enter Try.func46, Try.ntmps46
  go_wp2_with fail
  refine bodyPost_ret (results_none rfl _ _ _) rfl ?_
  exact ⟨rfl, rfl⟩
theorem wword_nil (n : Int) (w : World) : Calls Try.prog 47 #[.pointer none, .int .i64 n] w fun e w' => e = .returned (.tuple #[]) ∧ w = w' := by
  go_enter Try.func47, Try.ntmps47
  go_wp2_with fail
  refine bodyPost_ret (results_none rfl _ _ _) rfl ?_
  exact ⟨rfl, rfl⟩
theorem wlong_nil (n : Int) (w : World) : Calls Try.prog 149 #[.pointer none, .int .i64 n] w fun e w' => e = .returned (.tuple #[]) ∧ w = w' := by
  go_enter Try.func149, Try.ntmps149
  go_wp2_with fail
  refine bodyPost_ret (results_none rfl _ _ _) rfl ?_
  exact ⟨rfl, rfl⟩
theorem wbits_nil (n : Int) (w : World) : Calls Try.prog 111 #[.pointer none, .int .u64 n] w fun e w' => e = .returned (.tuple #[]) ∧ w = w' := by
  go_enter Try.func111, Try.ntmps111
  go_wp2_with fail
  refine bodyPost_ret (results_none rfl _ _ _) rfl ?_
  exact ⟨rfl, rfl⟩
theorem wtext_nil (s : ByteArray) (w : World) : Calls Try.prog 50 #[.pointer none, .string s] w fun e w' => e = .returned (.tuple #[]) ∧ w = w' := by
  go_enter Try.func50, Try.ntmps50
  go_wp2_with fail
  refine bodyPost_ret (results_none rfl _ _ _) rfl ?_
  exact ⟨rfl, rfl⟩
theorem wdone_nil (w : World) : Calls Try.prog 54 #[.pointer none] w fun e w' => e = .returned (.tuple #[.string ⟨#[]⟩, .int .i64 1]) ∧ w = w' := by
  go_enter Try.func54, Try.ntmps54
  go_wp2_with fail
  go_ret2
  exact ⟨rfl, rfl⟩
theorem number_nil (k : Int) (w : World) : Calls Try.prog 153 #[.pointer none, .int .i64 k] w fun e w' => e = .returned (.int .u64 0) ∧ w = w' := by
  go_enter Try.func153, Try.ntmps153
  go_wp2_with fail
  go_ret
  exact ⟨rfl, rfl⟩
theorem rbyte_nil (w : World) : Calls Try.prog 120 #[.pointer none] w fun e w' => e = .returned (.int .i64 0) ∧ w = w' := by
  go_enter Try.func120, Try.ntmps120
  go_wp2_with fail
  refine (number_nil _ _).mono ?_
  rintro e w' ⟨rfl, rfl⟩
  go_wp2_with fail
  go_ret
  exact ⟨rfl, rfl⟩
theorem rword_nil (w : World) : Calls Try.prog 121 #[.pointer none] w fun e w' => e = .returned (.int .i64 0) ∧ w = w' := by
  go_enter Try.func121, Try.ntmps121
  go_wp2_with fail
  refine (number_nil _ _).mono ?_
  rintro e w' ⟨rfl, rfl⟩
  go_wp2_with fail
  go_ret
  exact ⟨rfl, rfl⟩
theorem rlong_nil (w : World) : Calls Try.prog 174 #[.pointer none] w fun e w' => e = .returned (.int .i64 0) ∧ w = w' := by
  go_enter Try.func174, Try.ntmps174
  go_wp2_with fail
  refine (number_nil _ _).mono ?_
  rintro e w' ⟨rfl, rfl⟩
  go_wp2_with fail
  go_ret
  exact ⟨rfl, rfl⟩
theorem rbits_nil (w : World) : Calls Try.prog 175 #[.pointer none] w fun e w' => e = .returned (.int .u64 0) ∧ w = w' := by
  go_enter Try.func175, Try.ntmps175
  go_wp2_with fail
  refine (number_nil _ _).mono ?_
  rintro e w' ⟨rfl, rfl⟩
  go_wp2_with fail
  go_ret
  exact ⟨rfl, rfl⟩
theorem rtext_nil (w : World) : Calls Try.prog 124 #[.pointer none] w fun e w' => e = .returned (.string ⟨#[]⟩) ∧ w = w' := by
  go_enter Try.func124, Try.ntmps124
  go_wp2_with fail
  go_ret
  exact ⟨rfl, rfl⟩
theorem left_nil (w : World) : Calls Try.prog 159 #[.pointer none] w fun e w' => e = .returned (.int .i64 0) ∧ w = w' := by
  go_enter Try.func159, Try.ntmps159
  go_wp2_with fail
  go_ret
  exact ⟨rfl, rfl⟩
theorem end_nil (w : World) : Calls Try.prog 129 #[.pointer none] w fun e w' => e = .returned (.int .i64 1) ∧ w = w' := by
  go_enter Try.func129, Try.ntmps129
  go_wp2_with fail
  go_ret
  exact ⟨rfl, rfl⟩


/-- How a reading ends. -/
theorem end_any (p : Nat) (text : ByteArray) (s : R) (w : World) (h : PRd w p text s) :
    Calls Try.prog 129 #[.pointer (some ⟨p, 0, none⟩)] w fun e w' => e = .returned (.int .i64 (endE s)) ∧ ∃ q, w' = w.drewN q := by
  have H := Lib.hid h
  obtain ⟨at0, ha, hts, hb, hrest⟩ := h
  have h2 : w.cell? ⟨p, 2, none⟩ = some (.bool s.bad) := by rw [blk_cell hb]; rfl
  clear hb hrest ha hts
  cases hbad : s.bad with
  | true =>
    have he := Lib.hid (show endE s = 2 by rw [endE, if_pos hbad])
    rw [hbad] at h2
    clear hbad
    go_enter Try.func129, Try.ntmps129
    go_wp2_with fail
    go_ret
    exact ⟨by rw [he.out]; rfl, 0, rfl⟩
  | false =>
    rw [hbad] at h2
    have CL := Lib.hid (left_any p text s w H.out)
    by_cases hl : 0 < s.rest.length
    · have he := Lib.hid (show endE s = 5 by rw [endE, if_neg (by simp [hbad]), if_pos (by omega)])
      clear hbad
      generalize s.rest.length = L at *
      go_enter Try.func129, Try.ntmps129
      go_wp2_with fail
      refine CL.out.mono ?_
      rintro e w' ⟨rfl, q, rfl⟩
      go_wp2_with fail
      go_ret
      exact ⟨by rw [he.out]; rfl, q, rfl⟩
    · have he := Lib.hid (show endE s = 0 by rw [endE, if_neg (by simp [hbad]), if_neg (by omega)])
      have hl0 : s.rest.length = 0 := by omega
      rw [hl0] at CL
      clear hbad hl hl0
      go_enter Try.func129, Try.ntmps129
      go_wp2_with fail
      refine CL.out.mono ?_
      rintro e w' ⟨rfl, q, rfl⟩
      go_wp2_with fail
      go_ret
      exact ⟨by rw [he.out]; rfl, q, rfl⟩
end Go.Proofs.Ytijeieamodjgbaa

/- Walks of the readers' Text, and of Long and Bits. -/
namespace Go.Proofs.Ytijeieamodjgbaa
set_option maxRecDepth 100000
open Go.RowKit
set_option linter.unusedVariables false

/-- A text that is read; what is left then. -/
def tBad (s : R) : Prop := (rNext s 2).bad = true ∨ (rNext s 2).rest.length < rVal s 2
instance (s : R) : Decidable (tBad s) := inferInstanceAs (Decidable (_ ∨ _))
def tVal (s : R) : List UInt8 := if tBad s then [] else (rNext s 2).rest.take (rVal s 2)
def tNext (s : R) : R := if tBad s then ⟨s.rest, true⟩ else ⟨(rNext s 2).rest.drop (rVal s 2), false⟩
theorem tVal_bad {s : R} (h : tBad s) : tVal s = [] := by rw [tVal, if_pos h]
theorem tNext_bad {s : R} (h : tBad s) : tNext s = ⟨s.rest, true⟩ := by rw [tNext, if_pos h]
theorem tVal_ok {s : R} (h : ¬ tBad s) : tVal s = (rNext s 2).rest.take (rVal s 2) := by rw [tVal, if_neg h]
theorem tNext_ok {s : R} (h : ¬ tBad s) : tNext s = ⟨(rNext s 2).rest.drop (rVal s 2), false⟩ := by rw [tNext, if_neg h]
theorem rNext_rest {s : R} {k : Nat} (h : (rNext s k).bad = true) : rNext s k = ⟨s.rest, true⟩ := by
  by_cases hc : s.bad = true ∨ s.rest.length < k
  · exact rNext_bad hc
  · rw [rNext_ok hc] at h; cases h

/-- What a text that is read leaves. -/
def TextPost (w : World) (p : Nat) (text : ByteArray) (s : R) (e : Ending) (w' : World) : Prop :=
  e = .returned (.string ⟨(tVal s).toArray⟩) ∧ PRd w' p text (tNext s) ∧ Only p none w w'

set_option maxHeartbeats 1000000 in
theorem rdtext_any (p : Nat) (text : ByteArray) (s : R) (w : World) (h : PRd w p text s) :
    Calls Try.prog 124 #[.pointer (some ⟨p, 0, none⟩)] w (TextPost w p text s) := by
  have CN := Lib.hid (number_any p text s 2 w h (by omega))
  have hlt : rVal s 2 < 65536 := rVal_lt s 2
  obtain ⟨at0, ha, hts, hb, hrest⟩ := h
  have h1 : w.cell? ⟨p, 1, none⟩ = some (.int .i64 at0) := by rw [blk_cell hb]; rfl
  have Hrest := Lib.hid hrest
  clear hb hrest
  cases hbad : (rNext s 2).bad with
  | true =>
    have hc : tBad s := .inl hbad
    have Hv := Lib.hid (tVal_bad hc); have Hn := Lib.hid (tNext_bad hc)
    have Hr := Lib.hid (rNext_rest hbad)
    clear hc hbad
    go_enter Try.func124, Try.ntmps124
    go_wp2_with fail
    refine CN.out.mono ?_
    rintro e w1 ⟨rfl, hr, ho⟩
    rw [Hr.out] at hr
    have Hp := Lib.hid hr
    obtain ⟨at1, ha1, _, hb1, _⟩ := hr
    have k2 : w1.cell? ⟨p, 2, none⟩ = some (.bool true) := by rw [blk_cell hb1]; rfl
    have Ho := Lib.hid ho
    clear hb1 ho CN
    generalize rVal s 2 = m at *
    go_wp2_with fail
    go_ret
    exact ⟨by rw [Hv.out]; rfl, by rw [Hn.out]; exact Hp.out, Ho.out⟩
  | false =>
    by_cases hl : (rNext s 2).rest.length < rVal s 2
    · have hc : tBad s := .inr hl
      have Hv := Lib.hid (tVal_bad hc); have Hn := Lib.hid (tNext_bad hc)
      have Hbad := Lib.hid hbad; have Hl := Lib.hid hl
      clear hc hbad hl
      go_enter Try.func124, Try.ntmps124
      go_wp2_with fail
      refine CN.out.mono ?_
      rintro e w1 ⟨rfl, hr, ho⟩
      obtain ⟨at1, ha1, _, hb1, hr1⟩ := hr
      rw [Hbad.out] at hb1
      have k0 : w1.cell? ⟨p, 0, none⟩ = some (.string text) := by rw [blk_cell hb1]; rfl
      have k1 : w1.cell? ⟨p, 1, none⟩ = some (.int .i64 at1) := by rw [blk_cell hb1]; rfl
      have k2 : w1.cell? ⟨p, 2, none⟩ = some (.bool false) := by rw [blk_cell hb1]; rfl
      have z1 : w1.frozen? ⟨p, 1, none⟩ = false := blk_frozen hb1 _
      have z2 : w1.frozen? ⟨p, 2, none⟩ = false := blk_frozen hb1 _
      have hlen : (rNext s 2).rest.length = text.size - at1 := by rw [hr1]; simp
      have hlt2 := Hl.out
      rw [hlen] at hlt2
      have Ho := Lib.hid ho; have Hb1 := Lib.hid hb1
      clear hb1 ho CN hlen hr1
      generalize rVal s 2 = m at *
      have hd : decide ((text.size : Int) - at1 < (m : Int)) = true := by simp; omega
      have hwr : IntKind.i64.wrap ((text.size : Int) - (at1 : Int)) = (text.size : Int) - (at1 : Int) := IntWalk.i64_in _ (by omega)
      go_wp2_with fail
      go_quiet (fail)
      go_wp2_with fail
      go_ret
      refine ⟨by rw [Hv.out]; rfl, ?_, ((Ho.out.trans (Only.of_below (below_drewN (Below.refl _ _) nq)) (.inl rfl)).set _ _).set _ _⟩
      rw [Hn.out]
      refine ⟨at0, ha, hts, ?_, Hrest.out⟩
      have g1 := blk_set (w := w1.drewN nq) Hb1.out 1 (.int .i64 at0)
      have g2 := blk_set g1 2 (.bool true)
      simpa using g2
    · have hc : ¬ tBad s := fun h => by rcases h with h | h <;> simp_all
      have Hv := Lib.hid (tVal_ok hc); have Hn := Lib.hid (tNext_ok hc)
      have Hbad := Lib.hid hbad; have Hl := Lib.hid hl
      clear hc hbad hl
      go_enter Try.func124, Try.ntmps124
      go_wp2_with fail
      refine CN.out.mono ?_
      rintro e w1 ⟨rfl, hr, ho⟩
      obtain ⟨at1, ha1, _, hb1, hr1⟩ := hr
      rw [Hbad.out] at hb1
      have k0 : w1.cell? ⟨p, 0, none⟩ = some (.string text) := by rw [blk_cell hb1]; rfl
      have k1 : w1.cell? ⟨p, 1, none⟩ = some (.int .i64 at1) := by rw [blk_cell hb1]; rfl
      have k2 : w1.cell? ⟨p, 2, none⟩ = some (.bool false) := by rw [blk_cell hb1]; rfl
      have z1 : w1.frozen? ⟨p, 1, none⟩ = false := blk_frozen hb1 _
      have hlen : (rNext s 2).rest.length = text.size - at1 := by rw [hr1]; simp
      have hlt2 := Hl.out
      rw [hlen] at hlt2
      have Ho := Lib.hid ho; have Hb1 := Lib.hid hb1; have Hr1 := Lib.hid hr1
      clear hb1 ho CN hlen hr1 h1
      have hm0 : rVal s 2 = rVal s 2 := rfl
      generalize rVal s 2 = m at *
      clear hm0
      have hd : decide ((text.size : Int) - at1 < (m : Int)) = false := by simp; omega
      have hwr : IntKind.i64.wrap ((text.size : Int) - (at1 : Int)) = (text.size : Int) - (at1 : Int) := IntWalk.i64_in _ (by omega)
      have hwr2 : IntKind.i64.wrap ((at1 : Int) + (m : Int)) = (at1 : Int) + (m : Int) := IntWalk.i64_in _ (by omega)
      have g1 : (0 : Int) ≤ (at1 : Int) + (m : Int) := by omega
      have g2 : (at1 : Int) + (m : Int) ≤ (text.size : Int) := by omega
      have g3 : at1 + m ≤ text.size := by omega
      go_wp2_with fail
      go_quiet (fail)
      go_wp2_with fail
      generalize nq = n1
      go_quiet (fail)
      go_wp2_with fail
      go_ret
      have hw : Below w1.heap.size w1 (w1.drewN (n1 + nq)) := below_drewN (Below.refl _ _) _
      refine ⟨?_, ?_, (Ho.out.trans (Only.of_below hw) (.inl rfl)).set _ _⟩
      · rw [Hv.out, Hr1.out]
        refine congrArg (fun x => Ending.returned (Value.string x)) (?_ : text.extract at1 (at1 + m) = _)
        apply ByteArray.ext
        apply Array.toList_inj.1
        rw [Lib.extract_data]
        simp
      · rw [Hn.out]
        refine ⟨at1 + m, g3, hts, ?_, ?_⟩
        · have g4 := blk_set (w := w1.drewN (n1 + nq)) Hb1.out 1 (.int .i64 ((at1 : Int) + (m : Int)))
          simpa using g4
        · show (rNext s 2).rest.drop m = _
          rw [Hr1.out, List.drop_drop]

set_option maxHeartbeats 400000 in
theorem rlong_any (p : Nat) (text : ByteArray) (s : R) (w : World) (h : PRd w p text s) :
    Calls Try.prog 174 #[.pointer (some ⟨p, 0, none⟩)] w (IntPost w p text s 4) := by
  have CN := Lib.hid (number_any p text s 4 w h (by omega))
  have hlt : rVal s 4 < 4294967296 := rVal_lt s 4
  clear h
  unfold IntPost
  go_enter Try.func174, Try.ntmps174
  go_wp2_with fail
  refine CN.out.mono ?_
  rintro e w' ⟨rfl, hpost⟩
  have Hp := Lib.hid hpost; clear hpost
  generalize hm : rVal s 4 = m at *
  have Hm := Lib.hid hm; clear hm
  go_wp2_with fail
  go_ret
  exact ⟨by rw [Hm.out]; rfl, Hp.out⟩
set_option maxHeartbeats 400000 in
theorem rdbits_any (p : Nat) (text : ByteArray) (s : R) (w : World) (h : PRd w p text s) :
    Calls Try.prog 175 #[.pointer (some ⟨p, 0, none⟩)] w (NumPost w p text s 8) := by
  have CN := Lib.hid (number_any p text s 8 w h (by omega))
  clear h
  unfold NumPost
  go_enter Try.func175, Try.ntmps175
  go_wp2_with fail
  refine CN.out.mono ?_
  rintro e w' ⟨rfl, hpost⟩
  have Hp := Lib.hid hpost; clear hpost
  generalize hm : rVal s 8 = m at *
  have Hm := Lib.hid hm; clear hm
  go_wp2_with fail
  go_ret
  exact ⟨by rw [Hm.out]; rfl, Hp.out⟩
end Go.Proofs.Ytijeieamodjgbaa

/- Walk of the reference's Text. -/
namespace Go.Proofs.Ytijeieamodjgbaa
set_option maxRecDepth 100000
open Go.RowKit
set_option linter.unusedVariables false


end Go.Proofs.Ytijeieamodjgbaa
