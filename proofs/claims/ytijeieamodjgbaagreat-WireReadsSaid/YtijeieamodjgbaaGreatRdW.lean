
/- Walks of the program's reader: number. -/
import Derived.Test.YtijeieamodjgbaaGreatRows
import Derived.Test.YtijeieamodjgbaaGreatPkM
import Derived.Deep.QuietTactic
import Derived.BigQuiet
import Derived.Test.YtijeieamodjgbaaGreatPkW

namespace Go.Proofs.YtijeieamodjgbaaGreat
set_option maxRecDepth 100000
open Go.RowKit
set_option linter.unusedVariables false

def PRd (w : World) (p : Nat) (text : ByteArray) (s : R) : Prop := PRdT 131 w p text s
def RRd (w : World) (p : Nat) (s : R) : Prop := RRdT 75 w p s
/-- What a number that is read leaves. -/
def NumPost (w : World) (p : Nat) (text : ByteArray) (s : R) (k : Nat) (e : Ending) (w' : World) : Prop :=
  e = .returned (.int .u64 (rVal s k)) ∧ PRd w' p text (rNext s k) ∧ Only p none w w'

set_option maxHeartbeats 1000000 in
theorem number_any (p : Nat) (text : ByteArray) (s : R) (k : Nat) (w : World) (h : PRd w p text s) (hk : k ≤ 8) :
    Calls Tryz.prog 122 #[.pointer (some ⟨p, 0, none⟩), .int .i64 k] w (NumPost w p text s k) := by
  obtain ⟨at0, ha, hts, hb, hrest⟩ := h
  have h0 : w.cell? ⟨p, 0, none⟩ = some (.string text) := by rw [blk_cell hb]; rfl
  have h1 : w.cell? ⟨p, 1, none⟩ = some (.int .i64 at0) := by rw [blk_cell hb]; rfl
  have h2 : w.cell? ⟨p, 2, none⟩ = some (.bool s.bad) := by rw [blk_cell hb]; rfl
  have hf1 : w.frozen? ⟨p, 1, none⟩ = false := blk_frozen hb _
  have hf2 : w.frozen? ⟨p, 2, none⟩ = false := blk_frozen hb _
  have hlen : s.rest.length = text.size - at0 := by rw [hrest]; simp
  have Hb := Lib.hid hb
  have Hrest := Lib.hid hrest
  clear hb hrest
  cases hbad : s.bad with
  | true =>
    have hv := Lib.hid (rVal_bad (s := s) (k := k) (.inl hbad))
    have hn := Lib.hid (rNext_bad (s := s) (k := k) (.inl hbad))
    rw [hbad] at h2
    have Hbad := Lib.hid hbad
    clear hlen hbad
    go_enter Tryz.func122, Tryz.ntmps122
    go_wp2_with fail
    go_ret
    refine ⟨by rw [hv.out]; rfl, ?_, Only.refl _ _ _⟩
    rw [hn.out]
    exact ⟨at0, ha, hts, by have := Hb.out; rw [Hbad.out] at this; exact this, Hrest.out⟩
  | false =>
    rw [hbad] at h2
    have Hbad := Lib.hid hbad
    by_cases hlt : text.size - at0 < k
    · have hc : s.bad = true ∨ s.rest.length < k := .inr (by rw [hlen]; exact hlt)
      have hv := Lib.hid (rVal_bad hc)
      have hn := Lib.hid (rNext_bad hc)
      have hd : decide ((text.size : Int) - at0 < (k : Int)) = true := by simp; omega
      have hwr : IntKind.i64.wrap ((text.size : Int) - (at0 : Int)) = (text.size : Int) - (at0 : Int) := IntWalk.i64_in _ (by omega)
      clear hlen hbad hc
      go_enter Tryz.func122, Tryz.ntmps122
      go_wp2_with fail
      go_quiet (fail)
      go_wp2_with fail
      go_ret
      refine ⟨by rw [hv.out]; rfl, ?_, (Only.of_below (below_drewN (Below.refl _ _) nq)).set _ _⟩
      rw [hn.out]
      refine ⟨at0, ha, hts, ?_, Hrest.out⟩
      have := blk_set (w := w.drewN nq) Hb.out 2 (.bool true)
      simpa using this
    · have hd : decide ((text.size : Int) - at0 < (k : Int)) = false := by simp; omega
      have hwr : IntKind.i64.wrap ((text.size : Int) - (at0 : Int)) = (text.size : Int) - (at0 : Int) := IntWalk.i64_in _ (by omega)
      have hwr2 : IntKind.i64.wrap ((at0 : Int) + (k : Int)) = (at0 : Int) + (k : Int) := IntWalk.i64_in _ (by omega)
      have g1 : (0 : Int) ≤ (at0 : Int) + (k : Int) := by omega
      have g2 : (at0 : Int) + (k : Int) ≤ (text.size : Int) := by omega
      have g3 : at0 + k ≤ text.size := by omega
      have hrb := fun (w : World) (s : ByteArray) => run_bytes_of_string (P := Tryz.prog) w 9 169 5 s Tryz.underlying9 Tryz.underlying169 Tryz.underlying5
      go_enter Tryz.func122, Tryz.ntmps122
      go_wp2_with fail
      go_quiet (fail)
      go_wp2_with fail
      go_region
      go_wp2_with fail
      have hnb : ¬ (s.bad = true ∨ s.rest.length < k) := by rw [hbad, hlen]; simp; omega
      have Hv := Lib.hid (rVal_ok hnb)
      have Hn := Lib.hid (rNext_ok hnb)
      obtain ⟨L, hL⟩ : ∃ L, L = s.rest.take k := ⟨_, rfl⟩
      have hLl : L.length = k := by rw [hL]; simp; omega
      rw [← hL] at Hv
      generalize hw2 : (w.drewN (nq + 1 + 1)).alloc _ = w2
      have hbel : Below w.heap.size w w2 := by rw [← hw2]; exact balloc (below_drewN (Below.refl _ _) _) _
      have hbytes : ∀ j b, L[j]? = some b → w2.cell? ⟨w.heap.size, j, none⟩ = some (.int .u8 (b.toNat : Int)) := fun j b hj => by
        rw [← hw2]
        refine bytes_row_cell _ _ _ _ _ _ rfl j b ?_
        rw [Lib.extract_data, ← hj, hL, Hrest.out]
        simp
      have Hbytes := Lib.hid hbytes; have Hbel := Lib.hid hbel
      have HL := Lib.hid hL; have HLl := Lib.hid hLl
      clear hbytes hbel hw2 hL hLl hnb hlen hbad hd hwr hwr2 g1 g2 h0 h1 h2 hrb
      go_loop [5, 48] (fun m i => ∃ j : Nat, j ≤ k ∧ i = .int .i64 j ∧ m = .int .u64 (valBE (L.take j))) (fun _ i => k - (intOf i).toNat)
      case atStart => exact ⟨0, by omega, rfl, by simp [valBE]⟩
      case round =>
        obtain ⟨j, hj, rfl, rfl⟩ := hrel
        by_cases hlt : j < k
        · obtain ⟨b, hb⟩ : ∃ b, L[j]? = some b := ⟨_, List.getElem?_eq_getElem (by rw [HLl.out]; exact hlt)⟩
          have hc := Hbytes.out j b hb
          have hval := valBE_lt (L.take j)
          have hlt2 : valBE (L.take j) < 72057594037927936 := Nat.lt_of_lt_of_le hval (by
            rw [List.length_take]; exact Nat.le_trans (Nat.pow_le_pow_right (by omega) (Nat.min_le_left _ _)) (pow7 (by omega)))
          have hsn : valBE (L.take (j + 1)) = valBE (L.take j) * 256 + b.toNat := by
            rw [List.take_add_one, hb]; exact valBE_snoc _ _
          have Hsn := Lib.hid hsn
          have hbt := b.toNat_lt
          clear hb hval hsn
          generalize valBE (L.take j) = m at *
          generalize hB : b.toNat = c at *
          clear hB
          have Hor := Lib.hid (or_bits m c hlt2 hbt)
          go_wp2_with fail
          go_round
          case rel => exact ⟨j + 1, by omega, by go_num, by rw [Hor.out, Hsn.out]⟩
          case measure => simp [intOf]; omega
        · obtain rfl : j = k := by omega
          have hLt : L.take j = L := List.take_of_length_le (by rw [HLl.out]; exact Nat.le_refl _)
          have hp2 : w2.heap[p]? = w.heap[p]? := Hbel.out.block p (blk_lt Hb.out)
          have hb2 := Hb.out
          rw [← hp2] at hb2
          have c1 : w2.cell? ⟨p, 1, none⟩ = some (.int .i64 at0) := by rw [blk_cell hb2]; rfl
          have z1 : w2.frozen? ⟨p, 1, none⟩ = false := blk_frozen hb2 _
          have hset := blk_set hb2 1 (.int .i64 ((at0 : Int) + (j : Int)))
          have Hset := Lib.hid hset
          have HLt := Lib.hid hLt
          clear hp2 hb2 hset hLt Hbytes
          go_wp2_with fail
          go_ret
          refine ⟨by rw [Hv.out, HLt.out]; rfl, ?_, (Only.of_below Hbel.out).set _ _⟩
          rw [Hn.out]
          refine ⟨at0 + j, g3, hts, ?_, ?_⟩
          · rw [Hset.out, Hbad.out]; rfl
          · show s.rest.drop j = _
            rw [Hrest.out, List.drop_drop]
end Go.Proofs.YtijeieamodjgbaaGreat

/- Walks of the readers: Byte, Word, Left, Read of the program; Bits, Num, End of the reference. -/
namespace Go.Proofs.YtijeieamodjgbaaGreat
set_option maxRecDepth 100000
open Go.RowKit
set_option linter.unusedVariables false

theorem rVal_lt (s : R) (k : Nat) : rVal s k < 256 ^ k := by
  unfold rVal
  split
  · exact Nat.pos_of_ne_zero (by simp)
  · have := valBE_lt (s.rest.take k)
    exact Nat.lt_of_lt_of_le this (Nat.pow_le_pow_right (by omega) (by rw [List.length_take]; exact Nat.min_le_left _ _))
/-- What a number that is read as an int leaves. -/
def IntPost (w : World) (p : Nat) (text : ByteArray) (s : R) (k : Nat) (e : Ending) (w' : World) : Prop :=
  e = .returned (.int .i64 (rVal s k)) ∧ PRd w' p text (rNext s k) ∧ Only p none w w'

set_option maxHeartbeats 400000 in
theorem rbyte_any (p : Nat) (text : ByteArray) (s : R) (w : World) (h : PRd w p text s) :
    Calls Tryz.prog 71 #[.pointer (some ⟨p, 0, none⟩)] w (IntPost w p text s 1) := by
  have CN := Lib.hid (number_any p text s 1 w h (by omega))
  have hlt : rVal s 1 < 256 := rVal_lt s 1
  clear h
  unfold IntPost
  go_enter Tryz.func71, Tryz.ntmps71
  go_wp2_with fail
  refine CN.out.mono ?_
  rintro e w' ⟨rfl, hpost⟩
  have Hp := Lib.hid hpost; clear hpost
  generalize hm : rVal s 1 = m at *
  have Hm := Lib.hid hm; clear hm
  go_wp2_with fail
  go_ret
  exact ⟨by rw [Hm.out]; rfl, Hp.out⟩

set_option maxHeartbeats 400000 in
theorem rword_any (p : Nat) (text : ByteArray) (s : R) (w : World) (h : PRd w p text s) :
    Calls Tryz.prog 72 #[.pointer (some ⟨p, 0, none⟩)] w (IntPost w p text s 2) := by
  have CN := Lib.hid (number_any p text s 2 w h (by omega))
  have hlt : rVal s 2 < 65536 := rVal_lt s 2
  clear h
  unfold IntPost
  go_enter Tryz.func72, Tryz.ntmps72
  go_wp2_with fail
  refine CN.out.mono ?_
  rintro e w' ⟨rfl, hpost⟩
  have Hp := Lib.hid hpost; clear hpost
  generalize hm : rVal s 2 = m at *
  have Hm := Lib.hid hm; clear hm
  go_wp2_with fail
  go_ret
  exact ⟨by rw [Hm.out]; rfl, Hp.out⟩

set_option maxHeartbeats 400000 in
theorem left_any (p : Nat) (text : ByteArray) (s : R) (w : World) (h : PRd w p text s) :
    Calls Tryz.prog 128 #[.pointer (some ⟨p, 0, none⟩)] w fun e w' => e = .returned (.int .i64 s.rest.length) ∧ ∃ q, w' = w.drewN q := by
  obtain ⟨at0, ha, hts, hb, hrest⟩ := h
  have h0 : w.cell? ⟨p, 0, none⟩ = some (.string text) := by rw [blk_cell hb]; rfl
  have h1 : w.cell? ⟨p, 1, none⟩ = some (.int .i64 at0) := by rw [blk_cell hb]; rfl
  have hlen := Lib.hid (show s.rest.length = text.size - at0 by rw [hrest]; simp)
  have hwr : IntKind.i64.wrap ((text.size : Int) - (at0 : Int)) = (text.size : Int) - (at0 : Int) := IntWalk.i64_in _ (by omega)
  clear hb hrest
  go_enter Tryz.func128, Tryz.ntmps128
  go_wp2_with fail
  go_quiet (fail)
  go_wp2_with fail
  go_ret
  exact ⟨by rw [hlen.out]; exact ret_int (by omega), nq, rfl⟩

set_option maxHeartbeats 400000 in
theorem read_any (text : ByteArray) (w : World) (hts : text.size ≤ 140737488351232) :
    Calls Tryz.prog 28 #[.string text] w fun e w' => e = .returned (.pointer (some ⟨w.heap.size, 0, none⟩)) ∧ PRd w' w.heap.size text ⟨text.data.toList, false⟩ ∧ Below w.heap.size w w' := by
  go_enter Tryz.func28, Tryz.ntmps28
  go_wp2_with fail
  go_ret
  exact ⟨rfl, ⟨0, by omega, hts, blk_alloc _ _, by simp⟩, below_alloc _ _⟩

/-- What the reference's number leaves. -/
def RNumPost (T : IntKind) (w : World) (p : Nat) (s : R) (k : Nat) (e : Ending) (w' : World) : Prop :=
  e = .returned (.int T (rVal s k)) ∧ RRd w' p (rNext s k) ∧ Only p none w w'

set_option maxHeartbeats 1000000 in
theorem rbits_any (p : Nat) (s : R) (k : Nat) (w : World) (h : RRd w p s) (hk : k ≤ 8) :
    Calls Tryz.prog 81 #[.pointer (some ⟨p, 0, none⟩), .int .i64 k] w (RNumPost .u64 w p s k) := by
  obtain ⟨S, hb, hrest, hts⟩ := h
  have h0 : w.cell? ⟨p, 0, none⟩ = some (.string S) := by rw [blk_cell hb]; rfl
  have h1 : w.cell? ⟨p, 1, none⟩ = some (.bool s.bad) := by rw [blk_cell hb]; rfl
  have hf0 : w.frozen? ⟨p, 0, none⟩ = false := blk_frozen hb _
  have hf1 : w.frozen? ⟨p, 1, none⟩ = false := blk_frozen hb _
  have hlen : s.rest.length = S.size := by rw [← hrest]; simp
  have Hb := Lib.hid hb
  have Hrest := Lib.hid hrest
  clear hb hrest
  cases hbad : s.bad with
  | true =>
    have hv := Lib.hid (rVal_bad (s := s) (k := k) (.inl hbad))
    have hn := Lib.hid (rNext_bad (s := s) (k := k) (.inl hbad))
    rw [hbad] at h1
    have Hbad := Lib.hid hbad
    clear hlen hbad
    go_enter Tryz.func81, Tryz.ntmps81
    go_wp2_with fail
    go_ret
    refine ⟨by rw [hv.out]; rfl, ?_, (Only.refl _ _ _).set _ _⟩
    rw [hn.out]
    exact ⟨S, by rw [blk_set Hb.out]; rfl, Hrest.out, hts⟩
  | false =>
    rw [hbad] at h1
    have Hbad := Lib.hid hbad
    by_cases hlt : S.size < k
    · have hc : s.bad = true ∨ s.rest.length < k := .inr (by rw [hlen]; exact hlt)
      have hv := Lib.hid (rVal_bad hc)
      have hn := Lib.hid (rNext_bad hc)
      clear hlen hbad hc
      go_enter Tryz.func81, Tryz.ntmps81
      go_wp2_with fail
      go_ret
      refine ⟨by rw [hv.out]; rfl, ?_, (Only.refl _ _ _).set _ _⟩
      rw [hn.out]
      exact ⟨S, by rw [blk_set Hb.out]; rfl, Hrest.out, hts⟩
    · have hnb : ¬ (s.bad = true ∨ s.rest.length < k) := by rw [hbad, hlen]; simp; omega
      have Hv := Lib.hid (rVal_ok hnb)
      have Hn := Lib.hid (rNext_ok hnb)
      obtain ⟨L, hL⟩ : ∃ L, L = s.rest.take k := ⟨_, rfl⟩
      have hLl : L.length = k := by rw [hL]; simp; omega
      rw [← hL] at Hv
      have HL := Lib.hid hL; have HLl := Lib.hid hLl
      clear hL hLl hnb hlen hbad
      go_enter Tryz.func81, Tryz.ntmps81
      go_wp2_with fail
      go_loop [5, 6] (fun m i => ∃ j : Nat, j ≤ k ∧ i = .int .i64 j ∧ m = .int .u64 (valBE (L.take j))) (fun _ i => k - (intOf i).toNat)
      case atStart => exact ⟨0, by omega, rfl, by simp [valBE]⟩
      case round =>
        obtain ⟨j, hj, rfl, rfl⟩ := hrel
        by_cases hltj : j < k
        · have hjs : j < S.size := by omega
          have hb : L[j]? = some S[j] := by
            rw [HL.out, ← Hrest.out]
            simp [hltj, hjs]
            rfl
          have hval := valBE_lt (L.take j)
          have hlt2 : valBE (L.take j) < 72057594037927936 := Nat.lt_of_lt_of_le hval (by
            rw [List.length_take]; exact Nat.le_trans (Nat.pow_le_pow_right (by omega) (Nat.min_le_left _ _)) (pow7 (by omega)))
          have hsn : valBE (L.take (j + 1)) = valBE (L.take j) * 256 + (S[j]).toNat := by
            rw [List.take_add_one, hb]; exact valBE_snoc _ _
          have Hsn := Lib.hid hsn
          have hbt := (S[j]).toNat_lt
          clear hb hval hsn
          generalize valBE (L.take j) = m at *
          go_wp2_with fail
          go_round
          case rel => exact ⟨j + 1, by omega, by go_num, by rw [Hsn.out]; congr 1⟩
          case measure => simp [intOf]; omega
        · obtain rfl : j = k := by omega
          have hLt : L.take j = L := List.take_of_length_le (by rw [HLl.out]; exact Nat.le_refl _)
          have hset := blk_set Hb.out 0 (.string (S.extract j S.size))
          have Hset := Lib.hid hset
          have HLt := Lib.hid hLt
          clear hset hLt
          go_wp2_with fail
          go_ret
          refine ⟨by rw [Hv.out, HLt.out]; rfl, ?_, (Only.refl _ _ _).set _ _⟩
          rw [Hn.out]
          refine ⟨S.extract j S.size, ?_, ?_, ?_⟩
          · rw [Hset.out, Hbad.out]; rfl
          · show _ = s.rest.drop j
            rw [Lib.extract_data, ← Hrest.out, List.take_of_length_le (by simp)]
          · rw [ByteArray.size_extract]; omega

set_option maxHeartbeats 400000 in
theorem rrnum_any (p : Nat) (s : R) (k : Nat) (w : World) (h : RRd w p s) (hk : k ≤ 4) :
    Calls Tryz.prog 30 #[.pointer (some ⟨p, 0, none⟩), .int .i64 k] w (RNumPost .i64 w p s k) := by
  have CN := Lib.hid (rbits_any p s k w h (by omega))
  have hlt : rVal s k < 4294967296 := Nat.lt_of_lt_of_le (rVal_lt s k) (Nat.pow_le_pow_right (n := 256) (by omega) hk)
  clear h
  unfold RNumPost
  go_enter Tryz.func30, Tryz.ntmps30
  go_wp2_with fail
  refine CN.out.mono ?_
  rintro e w' ⟨rfl, hpost⟩
  have Hp := Lib.hid hpost; clear hpost
  generalize hm : rVal s k = m at *
  have Hm := Lib.hid hm; clear hm
  go_wp2_with fail
  go_ret
  exact ⟨by rw [Hm.out]; rfl, Hp.out⟩

/-- How a reading ends. -/
def endE (s : R) : Int := if s.bad = true then 2 else if 0 < s.rest.length then 5 else 0

set_option maxHeartbeats 400000 in
theorem rrend_any (p : Nat) (s : R) (w : World) (h : RRd w p s) :
    Calls Tryz.prog 37 #[.pointer (some ⟨p, 0, none⟩)] w fun e w' => e = .returned (.int .i64 (endE s)) ∧ w = w' := by
  obtain ⟨S, hb, hrest, hts⟩ := h
  have h0 : w.cell? ⟨p, 0, none⟩ = some (.string S) := by rw [blk_cell hb]; rfl
  have h1 : w.cell? ⟨p, 1, none⟩ = some (.bool s.bad) := by rw [blk_cell hb]; rfl
  have hlen : s.rest.length = S.size := by rw [← hrest]; simp
  clear hb hrest
  cases hbad : s.bad with
  | true =>
    have he := Lib.hid (show endE s = 2 by rw [endE, if_pos hbad])
    rw [hbad] at h1
    clear hlen hbad
    go_enter Tryz.func37, Tryz.ntmps37
    go_wp2_with fail
    go_ret
    exact ⟨by rw [he.out]; rfl, rfl⟩
  | false =>
    rw [hbad] at h1
    by_cases hl : 0 < S.size
    · have he := Lib.hid (show endE s = 5 by rw [endE, if_neg (by simp [hbad]), if_pos (by omega)])
      clear hlen hbad
      go_enter Tryz.func37, Tryz.ntmps37
      go_wp2_with fail
      go_ret
      exact ⟨by rw [he.out]; rfl, rfl⟩
    · have he := Lib.hid (show endE s = 0 by rw [endE, if_neg (by simp [hbad]), if_neg (by omega)])
      clear hlen hbad
      go_enter Tryz.func37, Tryz.ntmps37
      go_wp2_with fail
      go_ret
      exact ⟨by rw [he.out]; rfl, rfl⟩
end Go.Proofs.YtijeieamodjgbaaGreat

/- Writers and readers that aren't there: what is nil answers nothing and does nothing. -/
namespace Go.Proofs.YtijeieamodjgbaaGreat
set_option maxRecDepth 100000
open Go.RowKit
set_option linter.unusedVariables false

/-- How a reading ends. -/
theorem end_any (p : Nat) (text : ByteArray) (s : R) (w : World) (h : PRd w p text s) :
    Calls Tryz.prog 80 #[.pointer (some ⟨p, 0, none⟩)] w fun e w' => e = .returned (.int .i64 (endE s)) ∧ ∃ q, w' = w.drewN q := by
  have H := Lib.hid h
  obtain ⟨at0, ha, hts, hb, hrest⟩ := h
  have h2 : w.cell? ⟨p, 2, none⟩ = some (.bool s.bad) := by rw [blk_cell hb]; rfl
  clear hb hrest ha hts
  cases hbad : s.bad with
  | true =>
    have he := Lib.hid (show endE s = 2 by rw [endE, if_pos hbad])
    rw [hbad] at h2
    clear hbad
    go_enter Tryz.func80, Tryz.ntmps80
    go_wp2_with fail
    go_ret
    exact ⟨by rw [he.out]; rfl, 0, rfl⟩
  | false =>
    rw [hbad] at h2
    have CL := Lib.hid (left_any p text s w H.out)
    by_cases hl : 0 < s.rest.length
    · have he := Lib.hid (show endE s = 5 by rw [endE, if_neg (by simp [hbad]), if_pos (by omega)])
      clear hbad
      generalize s.rest.length = L at *
      go_enter Tryz.func80, Tryz.ntmps80
      go_wp2_with fail
      refine CL.out.mono ?_
      rintro e w' ⟨rfl, q, rfl⟩
      go_wp2_with fail
      go_ret
      exact ⟨by rw [he.out]; rfl, q, rfl⟩
    · have he := Lib.hid (show endE s = 0 by rw [endE, if_neg (by simp [hbad]), if_neg (by omega)])
      have hl0 : s.rest.length = 0 := by omega
      rw [hl0] at CL
      clear hbad hl hl0
      go_enter Tryz.func80, Tryz.ntmps80
      go_wp2_with fail
      refine CL.out.mono ?_
      rintro e w' ⟨rfl, q, rfl⟩
      go_wp2_with fail
      go_ret
      exact ⟨by rw [he.out]; rfl, q, rfl⟩
end Go.Proofs.YtijeieamodjgbaaGreat

/- Walks of the readers' Text, and of Long and Bits. -/
namespace Go.Proofs.YtijeieamodjgbaaGreat
set_option maxRecDepth 100000
open Go.RowKit
set_option linter.unusedVariables false

/-- A text that is read; what is left then. -/
def tBad (s : R) : Prop := (rNext s 2).bad = true ∨ (rNext s 2).rest.length < rVal s 2
instance (s : R) : Decidable (tBad s) := inferInstanceAs (Decidable (_ ∨ _))
def tVal (s : R) : List UInt8 := if tBad s then [] else (rNext s 2).rest.take (rVal s 2)
def tNext (s : R) : R := if tBad s then ⟨s.rest, true⟩ else ⟨(rNext s 2).rest.drop (rVal s 2), false⟩
theorem tVal_bad {s : R} (h : tBad s) : tVal s = [] := by rw [tVal, if_pos h]
theorem tNext_bad {s : R} (h : tBad s) : tNext s = ⟨s.rest, true⟩ := by rw [tNext, if_pos h]
theorem tVal_ok {s : R} (h : ¬ tBad s) : tVal s = (rNext s 2).rest.take (rVal s 2) := by rw [tVal, if_neg h]
theorem tNext_ok {s : R} (h : ¬ tBad s) : tNext s = ⟨(rNext s 2).rest.drop (rVal s 2), false⟩ := by rw [tNext, if_neg h]
theorem rNext_rest {s : R} {k : Nat} (h : (rNext s k).bad = true) : rNext s k = ⟨s.rest, true⟩ := by
  by_cases hc : s.bad = true ∨ s.rest.length < k
  · exact rNext_bad hc
  · rw [rNext_ok hc] at h; cases h

/-- What a text that is read leaves. -/
def TextPost (w : World) (p : Nat) (text : ByteArray) (s : R) (e : Ending) (w' : World) : Prop :=
  e = .returned (.string ⟨(tVal s).toArray⟩) ∧ PRd w' p text (tNext s) ∧ Only p none w w'

set_option maxHeartbeats 1000000 in
theorem rdtext_any (p : Nat) (text : ByteArray) (s : R) (w : World) (h : PRd w p text s) :
    Calls Tryz.prog 75 #[.pointer (some ⟨p, 0, none⟩)] w (TextPost w p text s) := by
  have CN := Lib.hid (number_any p text s 2 w h (by omega))
  have hlt : rVal s 2 < 65536 := rVal_lt s 2
  obtain ⟨at0, ha, hts, hb, hrest⟩ := h
  have h1 : w.cell? ⟨p, 1, none⟩ = some (.int .i64 at0) := by rw [blk_cell hb]; rfl
  have Hrest := Lib.hid hrest
  clear hb hrest
  cases hbad : (rNext s 2).bad with
  | true =>
    have hc : tBad s := .inl hbad
    have Hv := Lib.hid (tVal_bad hc); have Hn := Lib.hid (tNext_bad hc)
    have Hr := Lib.hid (rNext_rest hbad)
    clear hc hbad
    go_enter Tryz.func75, Tryz.ntmps75
    go_wp2_with fail
    refine CN.out.mono ?_
    rintro e w1 ⟨rfl, hr, ho⟩
    rw [Hr.out] at hr
    have Hp := Lib.hid hr
    obtain ⟨at1, ha1, _, hb1, _⟩ := hr
    have k2 : w1.cell? ⟨p, 2, none⟩ = some (.bool true) := by rw [blk_cell hb1]; rfl
    have Ho := Lib.hid ho
    clear hb1 ho CN
    generalize rVal s 2 = m at *
    go_wp2_with fail
    go_ret
    exact ⟨by rw [Hv.out]; rfl, by rw [Hn.out]; exact Hp.out, Ho.out⟩
  | false =>
    by_cases hl : (rNext s 2).rest.length < rVal s 2
    · have hc : tBad s := .inr hl
      have Hv := Lib.hid (tVal_bad hc); have Hn := Lib.hid (tNext_bad hc)
      have Hbad := Lib.hid hbad; have Hl := Lib.hid hl
      clear hc hbad hl
      go_enter Tryz.func75, Tryz.ntmps75
      go_wp2_with fail
      refine CN.out.mono ?_
      rintro e w1 ⟨rfl, hr, ho⟩
      obtain ⟨at1, ha1, _, hb1, hr1⟩ := hr
      rw [Hbad.out] at hb1
      have k0 : w1.cell? ⟨p, 0, none⟩ = some (.string text) := by rw [blk_cell hb1]; rfl
      have k1 : w1.cell? ⟨p, 1, none⟩ = some (.int .i64 at1) := by rw [blk_cell hb1]; rfl
      have k2 : w1.cell? ⟨p, 2, none⟩ = some (.bool false) := by rw [blk_cell hb1]; rfl
      have z1 : w1.frozen? ⟨p, 1, none⟩ = false := blk_frozen hb1 _
      have z2 : w1.frozen? ⟨p, 2, none⟩ = false := blk_frozen hb1 _
      have hlen : (rNext s 2).rest.length = text.size - at1 := by rw [hr1]; simp
      have hlt2 := Hl.out
      rw [hlen] at hlt2
      have Ho := Lib.hid ho; have Hb1 := Lib.hid hb1
      clear hb1 ho CN hlen hr1
      generalize rVal s 2 = m at *
      have hd : decide ((text.size : Int) - at1 < (m : Int)) = true := by simp; omega
      have hwr : IntKind.i64.wrap ((text.size : Int) - (at1 : Int)) = (text.size : Int) - (at1 : Int) := IntWalk.i64_in _ (by omega)
      go_wp2_with fail
      go_quiet (fail)
      go_wp2_with fail
      go_ret
      refine ⟨by rw [Hv.out]; rfl, ?_, ((Ho.out.trans (Only.of_below (below_drewN (Below.refl _ _) nq)) (.inl rfl)).set _ _).set _ _⟩
      rw [Hn.out]
      refine ⟨at0, ha, hts, ?_, Hrest.out⟩
      have g1 := blk_set (w := w1.drewN nq) Hb1.out 1 (.int .i64 at0)
      have g2 := blk_set g1 2 (.bool true)
      simpa using g2
    · have hc : ¬ tBad s := fun h => by rcases h with h | h <;> simp_all
      have Hv := Lib.hid (tVal_ok hc); have Hn := Lib.hid (tNext_ok hc)
      have Hbad := Lib.hid hbad; have Hl := Lib.hid hl
      clear hc hbad hl
      go_enter Tryz.func75, Tryz.ntmps75
      go_wp2_with fail
      refine CN.out.mono ?_
      rintro e w1 ⟨rfl, hr, ho⟩
      obtain ⟨at1, ha1, _, hb1, hr1⟩ := hr
      rw [Hbad.out] at hb1
      have k0 : w1.cell? ⟨p, 0, none⟩ = some (.string text) := by rw [blk_cell hb1]; rfl
      have k1 : w1.cell? ⟨p, 1, none⟩ = some (.int .i64 at1) := by rw [blk_cell hb1]; rfl
      have k2 : w1.cell? ⟨p, 2, none⟩ = some (.bool false) := by rw [blk_cell hb1]; rfl
      have z1 : w1.frozen? ⟨p, 1, none⟩ = false := blk_frozen hb1 _
      have hlen : (rNext s 2).rest.length = text.size - at1 := by rw [hr1]; simp
      have hlt2 := Hl.out
      rw [hlen] at hlt2
      have Ho := Lib.hid ho; have Hb1 := Lib.hid hb1; have Hr1 := Lib.hid hr1
      clear hb1 ho CN hlen hr1 h1
      have hm0 : rVal s 2 = rVal s 2 := rfl
      generalize rVal s 2 = m at *
      clear hm0
      have hd : decide ((text.size : Int) - at1 < (m : Int)) = false := by simp; omega
      have hwr : IntKind.i64.wrap ((text.size : Int) - (at1 : Int)) = (text.size : Int) - (at1 : Int) := IntWalk.i64_in _ (by omega)
      have hwr2 : IntKind.i64.wrap ((at1 : Int) + (m : Int)) = (at1 : Int) + (m : Int) := IntWalk.i64_in _ (by omega)
      have g1 : (0 : Int) ≤ (at1 : Int) + (m : Int) := by omega
      have g2 : (at1 : Int) + (m : Int) ≤ (text.size : Int) := by omega
      have g3 : at1 + m ≤ text.size := by omega
      go_wp2_with fail
      go_quiet (fail)
      go_wp2_with fail
      generalize nq = n1
      go_quiet (fail)
      go_wp2_with fail
      go_ret
      have hw : Below w1.heap.size w1 (w1.drewN (n1 + nq)) := below_drewN (Below.refl _ _) _
      refine ⟨?_, ?_, (Ho.out.trans (Only.of_below hw) (.inl rfl)).set _ _⟩
      · rw [Hv.out, Hr1.out]
        refine congrArg (fun x => Ending.returned (Value.string x)) (?_ : text.extract at1 (at1 + m) = _)
        apply ByteArray.ext
        apply Array.toList_inj.1
        rw [Lib.extract_data]
        simp
      · rw [Hn.out]
        refine ⟨at1 + m, g3, hts, ?_, ?_⟩
        · have g4 := blk_set (w := w1.drewN (n1 + nq)) Hb1.out 1 (.int .i64 ((at1 : Int) + (m : Int)))
          simpa using g4
        · show (rNext s 2).rest.drop m = _
          rw [Hr1.out, List.drop_drop]

set_option maxHeartbeats 400000 in
theorem rlong_any (p : Nat) (text : ByteArray) (s : R) (w : World) (h : PRd w p text s) :
    Calls Tryz.prog 151 #[.pointer (some ⟨p, 0, none⟩)] w (IntPost w p text s 4) := by
  have CN := Lib.hid (number_any p text s 4 w h (by omega))
  have hlt : rVal s 4 < 4294967296 := rVal_lt s 4
  clear h
  unfold IntPost
  go_enter Tryz.func151, Tryz.ntmps151
  go_wp2_with fail
  refine CN.out.mono ?_
  rintro e w' ⟨rfl, hpost⟩
  have Hp := Lib.hid hpost; clear hpost
  generalize hm : rVal s 4 = m at *
  have Hm := Lib.hid hm; clear hm
  go_wp2_with fail
  go_ret
  exact ⟨by rw [Hm.out]; rfl, Hp.out⟩
set_option maxHeartbeats 400000 in
theorem rdbits_any (p : Nat) (text : ByteArray) (s : R) (w : World) (h : PRd w p text s) :
    Calls Tryz.prog 152 #[.pointer (some ⟨p, 0, none⟩)] w (NumPost w p text s 8) := by
  have CN := Lib.hid (number_any p text s 8 w h (by omega))
  clear h
  unfold NumPost
  go_enter Tryz.func152, Tryz.ntmps152
  go_wp2_with fail
  refine CN.out.mono ?_
  rintro e w' ⟨rfl, hpost⟩
  have Hp := Lib.hid hpost; clear hpost
  generalize hm : rVal s 8 = m at *
  have Hm := Lib.hid hm; clear hm
  go_wp2_with fail
  go_ret
  exact ⟨by rw [Hm.out]; rfl, Hp.out⟩
end Go.Proofs.YtijeieamodjgbaaGreat

/- Walk of the reference's Text. -/
namespace Go.Proofs.YtijeieamodjgbaaGreat
set_option maxRecDepth 100000
open Go.RowKit
set_option linter.unusedVariables false

/-- What the reference's text leaves. -/
def RTextPost (w : World) (p : Nat) (s : R) (e : Ending) (w' : World) : Prop :=
  e = .returned (.string ⟨(tVal s).toArray⟩) ∧ RRd w' p (tNext s) ∧ Only p none w w'

set_option maxHeartbeats 1000000 in
theorem rrtext_any (p : Nat) (s : R) (w : World) (h : RRd w p s) :
    Calls Tryz.prog 33 #[.pointer (some ⟨p, 0, none⟩)] w (RTextPost w p s) := by
  obtain ⟨S, hb, hrest, hts⟩ := h
  have h0 : w.cell? ⟨p, 0, none⟩ = some (.string S) := by rw [blk_cell hb]; rfl
  have h1 : w.cell? ⟨p, 1, none⟩ = some (.bool s.bad) := by rw [blk_cell hb]; rfl
  have hf0 : w.frozen? ⟨p, 0, none⟩ = false := blk_frozen hb _
  have hf1 : w.frozen? ⟨p, 1, none⟩ = false := blk_frozen hb _
  have hlen : s.rest.length = S.size := by rw [← hrest]; simp
  have Hb := Lib.hid hb
  have Hrest := Lib.hid hrest
  clear hb hrest
  by_cases hc0 : s.bad = true ∨ S.size < 2
  · have hc : tBad s := .inl (by rw [rNext_bad (hc0.imp id fun h => by rw [hlen]; exact h)])
    have Hv := Lib.hid (tVal_bad hc); have Hn := Lib.hid (tNext_bad hc)
    clear hc hlen
    cases hbad : s.bad
    case' true =>
      rw [hbad] at h1
      clear hc0
    case' false =>
      have hlt : S.size < 2 := by simpa [hbad] using hc0
      rw [hbad] at h1
      clear hc0
    all_goals
      have Hbad := Lib.hid hbad; clear hbad
      go_enter Tryz.func33, Tryz.ntmps33
      go_wp2_with fail
      go_ret
      refine ⟨by rw [Hv.out]; rfl, ?_, (Only.refl _ _ _).set _ _⟩
      rw [Hn.out]
      exact ⟨S, by rw [blk_set Hb.out]; rfl, Hrest.out, hts⟩
  · have hbad : s.bad = false := by cases h : s.bad <;> simp_all
    have hl2 : ¬ S.size < 2 := fun h => hc0 (.inr h)
    have hS0 : 0 < S.size := by omega
    have hS1 : 1 < S.size := by omega
    have hS0i : (0 : Int) < (S.size : Int) := by omega
    have hS1i : (1 : Int) < (S.size : Int) := by omega
    rw [hbad] at h1
    have hn2 := rNext_ok (s := s) (k := 2) (by rw [hlen]; exact hc0)
    have hv2 := rVal_ok (s := s) (k := 2) (by rw [hlen]; exact hc0)
    have hr0 : s.rest = S[0] :: S[1] :: s.rest.drop 2 := by
      have e0 : s.rest[0]? = some S[0] := by rw [← Hrest.out]; simp [hS0]; rfl
      have e1 : s.rest[1]? = some S[1] := by rw [← Hrest.out]; simp [hS1]; rfl
      match hs : s.rest, e0, e1 with
      | [], e0, _ => simp at e0
      | [x], _, e1 => simp at e1
      | x :: y :: r, e0, e1 =>
        simp at e0 e1
        rw [e0, e1]; rfl
    have hval : rVal s 2 = (S[0]).toNat * 256 + (S[1]).toNat := by
      rw [hv2, hr0]; simp [valBE]
    have hb0 := (S[0]).toNat_lt
    have hb1 := (S[1]).toNat_lt
    by_cases hl : S.size - 2 < rVal s 2
    · have hc : tBad s := .inr (by rw [hn2]; show (s.rest.drop 2).length < _; rw [List.length_drop, hlen]; exact hl)
      have Hv := Lib.hid (tVal_bad hc); have Hn := Lib.hid (tNext_bad hc)
      rw [hval] at hl
      clear hc hc0 hr0 hv2 hn2 hval hlen hbad
      have hwA : IntKind.i64.wrap (((S[0]).toNat : Int) * 256) = ((S[0]).toNat : Int) * 256 := IntWalk.i64_in _ (by omega)
      have hwB : IntKind.i64.wrap (((S[0]).toNat : Int) * 256 + ((S[1]).toNat : Int)) = ((S[0]).toNat : Int) * 256 + ((S[1]).toNat : Int) := IntWalk.i64_in _ (by omega)
      have hwC : IntKind.i64.wrap ((S.size : Int) - 2) = (S.size : Int) - 2 := IntWalk.i64_in _ (by omega)
      have hwD : IntKind.i64.wrap (2 + (((S[0]).toNat : Int) * 256 + ((S[1]).toNat : Int))) = 2 + (((S[0]).toNat : Int) * 256 + ((S[1]).toNat : Int)) := IntWalk.i64_in _ (by omega)
      have hd : decide ((S.size : Int) - 2 < ((S[0]).toNat : Int) * 256 + ((S[1]).toNat : Int)) = true := by simp; omega
      go_enter Tryz.func33, Tryz.ntmps33
      go_wp2_with fail
      go_quiet (fail)
      go_wp2_with fail
      go_ret
      refine ⟨by rw [Hv.out]; rfl, ?_, (Only.of_below (below_drewN (Below.refl _ _) nq)).set _ _⟩
      rw [Hn.out]
      refine ⟨S, ?_, Hrest.out, hts⟩
      have g := blk_set (w := w.drewN nq) Hb.out 1 (.bool true)
      simpa using g
    · have hc : ¬ tBad s := fun h => by
        rcases h with h | h
        · rw [hn2] at h; cases h
        · rw [hn2] at h
          have h : (s.rest.drop 2).length < _ := h
          rw [List.length_drop, hlen] at h; exact hl h
      have Hv := Lib.hid (tVal_ok hc); have Hn := Lib.hid (tNext_ok hc)
      rw [hn2] at Hv Hn
      rw [hval] at hl Hv Hn
      have Hbad := Lib.hid hbad
      clear hc hc0 hr0 hv2 hn2 hval hlen hbad
      have hwA : IntKind.i64.wrap (((S[0]).toNat : Int) * 256) = ((S[0]).toNat : Int) * 256 := IntWalk.i64_in _ (by omega)
      have hwB : IntKind.i64.wrap (((S[0]).toNat : Int) * 256 + ((S[1]).toNat : Int)) = ((S[0]).toNat : Int) * 256 + ((S[1]).toNat : Int) := IntWalk.i64_in _ (by omega)
      have hwC : IntKind.i64.wrap ((S.size : Int) - 2) = (S.size : Int) - 2 := IntWalk.i64_in _ (by omega)
      have hwD : IntKind.i64.wrap (2 + (((S[0]).toNat : Int) * 256 + ((S[1]).toNat : Int))) = 2 + (((S[0]).toNat : Int) * 256 + ((S[1]).toNat : Int)) := IntWalk.i64_in _ (by omega)
      have hd : decide ((S.size : Int) - 2 < ((S[0]).toNat : Int) * 256 + ((S[1]).toNat : Int)) = false := by simp; omega
      have g1 : (2 : Int) ≤ 2 + (((S[0]).toNat : Int) * 256 + ((S[1]).toNat : Int)) := by omega
      have g2 : 2 + (((S[0]).toNat : Int) * 256 + ((S[1]).toNat : Int)) ≤ (S.size : Int) := by omega
      go_enter Tryz.func33, Tryz.ntmps33
      go_wp2_with fail
      go_quiet (fail)
      go_wp2_with fail
      go_ret
      refine ⟨?_, ?_, (Only.of_below (below_drewN (Below.refl _ _) nq)).set _ _⟩
      · rw [Hv.out]
        refine congrArg (fun x => Ending.returned (Value.string x)) (?_ : S.extract 2 (2 + ((S[0]).toNat * 256 + (S[1]).toNat)) = _)
        apply ByteArray.ext
        apply Array.toList_inj.1
        rw [Lib.extract_data, Hrest.out]
        simp
      · rw [Hn.out]
        refine ⟨S.extract (2 + ((S[0]).toNat * 256 + (S[1]).toNat)) S.size, ?_, ?_, ?_⟩
        · have g := blk_set (w := w.drewN nq) Hb.out 0 (.string (S.extract (2 + ((S[0]).toNat * 256 + (S[1]).toNat)) S.size))
          rw [Hbad.out] at g
          simpa using g
        · show _ = (s.rest.drop 2).drop _
          rw [Lib.extract_data, List.drop_drop, ← Hrest.out, List.take_of_length_le (by simp)]
        · rw [ByteArray.size_extract]; omega
end Go.Proofs.YtijeieamodjgbaaGreat
