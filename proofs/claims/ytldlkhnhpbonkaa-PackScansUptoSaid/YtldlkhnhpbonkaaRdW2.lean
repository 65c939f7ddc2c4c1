/- Walks of the readers: Byte, Word, Left, Read of the program; Bits, Num, End of the reference. -/
import Derived.Test.YtldlkhnhpbonkaaRdW
namespace Go.Proofs.Ytldlkhnhpbonkaa
open Go.RowKit
set_option linter.unusedVariables false

theorem rVal_lt (s : R) (k : Nat) : rVal s k < 256 ^ k := by
  unfold rVal
  split
  · exact Nat.pos_of_ne_zero (by simp)
  · have := valBE_lt (s.rest.take k)
    exact Nat.lt_of_lt_of_le this (Nat.pow_le_pow_right (by omega) (by rw [List.length_take]; exact Nat.min_le_left _ _))
/-- What a number that is read as an int leaves. -/
def IntPost (w : World) (p : Nat) (text : ByteArray) (s : R) (k : Nat) (e : Ending) (w' : World) : Prop :=
  e = .returned (.int .i64 (rVal s k)) ∧ PRd w' p text (rNext s k) ∧ Only p none w w'

set_option maxHeartbeats 400000 in
theorem rbyte_any (p : Nat) (text : ByteArray) (s : R) (w : World) (h : PRd w p text s) :
    Calls Try.prog 24 #[.pointer (some ⟨p, 0, none⟩)] w (IntPost w p text s 1) := by
  have CN := Lib.hid (number_any p text s 1 w h (by omega))
  have hlt : rVal s 1 < 256 := rVal_lt s 1
  clear h
  unfold IntPost
  go_enter Try.func24, Try.ntmps24
  go_wp2_with fail
  refine CN.out.mono ?_
  rintro e w' ⟨rfl, hpost⟩
  have Hp := Lib.hid hpost; clear hpost
  generalize hm : rVal s 1 = m at *
  have Hm := Lib.hid hm; clear hm
  go_wp2_with fail
  go_ret
  exact ⟨by rw [Hm.out]; rfl, Hp.out⟩

set_option maxHeartbeats 400000 in
theorem rword_any (p : Nat) (text : ByteArray) (s : R) (w : World) (h : PRd w p text s) :
    Calls Try.prog 25 #[.pointer (some ⟨p, 0, none⟩)] w (IntPost w p text s 2) := by
  have CN := Lib.hid (number_any p text s 2 w h (by omega))
  have hlt : rVal s 2 < 65536 := rVal_lt s 2
  clear h
  unfold IntPost
  go_enter Try.func25, Try.ntmps25
  go_wp2_with fail
  refine CN.out.mono ?_
  rintro e w' ⟨rfl, hpost⟩
  have Hp := Lib.hid hpost; clear hpost
  generalize hm : rVal s 2 = m at *
  have Hm := Lib.hid hm; clear hm
  go_wp2_with fail
  go_ret
  exact ⟨by rw [Hm.out]; rfl, Hp.out⟩

set_option maxHeartbeats 400000 in
theorem left_any (p : Nat) (text : ByteArray) (s : R) (w : World) (h : PRd w p text s) :
    Calls Try.prog 13 #[.pointer (some ⟨p, 0, none⟩)] w fun e w' => e = .returned (.int .i64 s.rest.length) ∧ ∃ q, w' = w.drewN q := by
  obtain ⟨at0, ha, hts, hb, hrest⟩ := h
  have h0 : w.cell? ⟨p, 0, none⟩ = some (.string text) := by rw [blk_cell hb]; rfl
  have h1 : w.cell? ⟨p, 1, none⟩ = some (.int .i64 at0) := by rw [blk_cell hb]; rfl
  have hlen := Lib.hid (show s.rest.length = text.size - at0 by rw [hrest]; simp)
  have hwr : IntKind.i64.wrap ((text.size : Int) - (at0 : Int)) = (text.size : Int) - (at0 : Int) := IntWalk.i64_in _ (by omega)
  clear hb hrest
  go_enter Try.func13, Try.ntmps13
  go_wp2_with fail
  go_quiet (fail)
  go_wp2_with fail
  go_ret
  exact ⟨by rw [hlen.out]; exact ret_int (by omega), nq, rfl⟩

set_option maxHeartbeats 400000 in
theorem read_any (text : ByteArray) (w : World) (hts : text.size ≤ 140737488351232) :
    Calls Try.prog 11 #[.string text] w fun e w' => e = .returned (.pointer (some ⟨w.heap.size, 0, none⟩)) ∧ PRd w' w.heap.size text ⟨text.data.toList, false⟩ ∧ Below w.heap.size w w' := by
  go_enter Try.func11, Try.ntmps11
  go_wp2_with fail
  go_ret
  exact ⟨rfl, ⟨0, by omega, hts, blk_alloc _ _, by simp⟩, below_alloc _ _⟩

/-- What the reference's number leaves. -/
def RNumPost (T : IntKind) (w : World) (p : Nat) (s : R) (k : Nat) (e : Ending) (w' : World) : Prop :=
  e = .returned (.int T (rVal s k)) ∧ RRd w' p (rNext s k) ∧ Only p none w w'

set_option maxHeartbeats 1000000 in
theorem rbits_any (p : Nat) (s : R) (k : Nat) (w : World) (h : RRd w p s) (hk : k ≤ 8) :
    Calls Try.prog 37 #[.pointer (some ⟨p, 0, none⟩), .int .i64 k] w (RNumPost .u64 w p s k) := by
  obtain ⟨S, hb, hrest, hts⟩ := h
  have h0 : w.cell? ⟨p, 0, none⟩ = some (.string S) := by rw [blk_cell hb]; rfl
  have h1 : w.cell? ⟨p, 1, none⟩ = some (.bool s.bad) := by rw [blk_cell hb]; rfl
  have hf0 : w.frozen? ⟨p, 0, none⟩ = false := blk_frozen hb _
  have hf1 : w.frozen? ⟨p, 1, none⟩ = false := blk_frozen hb _
  have hlen : s.rest.length = S.size := by rw [← hrest]; simp
  have Hb := Lib.hid hb
  have Hrest := Lib.hid hrest
  clear hb hrest
  cases hbad : s.bad with
  | true =>
    have hv := Lib.hid (rVal_bad (s := s) (k := k) (.inl hbad))
    have hn := Lib.hid (rNext_bad (s := s) (k := k) (.inl hbad))
    rw [hbad] at h1
    have Hbad := Lib.hid hbad
    clear hlen hbad
    go_enter Try.func37, Try.ntmps37
    go_wp2_with fail
    go_ret
    refine ⟨by rw [hv.out]; rfl, ?_, (Only.refl _ _ _).set _ _⟩
    rw [hn.out]
    exact ⟨S, by rw [blk_set Hb.out]; rfl, Hrest.out, hts⟩
  | false =>
    rw [hbad] at h1
    have Hbad := Lib.hid hbad
    by_cases hlt : S.size < k
    · have hc : s.bad = true ∨ s.rest.length < k := .inr (by rw [hlen]; exact hlt)
      have hv := Lib.hid (rVal_bad hc)
      have hn := Lib.hid (rNext_bad hc)
      clear hlen hbad hc
      go_enter Try.func37, Try.ntmps37
      go_wp2_with fail
      go_ret
      refine ⟨by rw [hv.out]; rfl, ?_, (Only.refl _ _ _).set _ _⟩
      rw [hn.out]
      exact ⟨S, by rw [blk_set Hb.out]; rfl, Hrest.out, hts⟩
    · have hnb : ¬ (s.bad = true ∨ s.rest.length < k) := by rw [hbad, hlen]; simp; omega
      have Hv := Lib.hid (rVal_ok hnb)
      have Hn := Lib.hid (rNext_ok hnb)
      obtain ⟨L, hL⟩ : ∃ L, L = s.rest.take k := ⟨_, rfl⟩
      have hLl : L.length = k := by rw [hL]; simp; omega
      rw [← hL] at Hv
      have HL := Lib.hid hL; have HLl := Lib.hid hLl
      clear hL hLl hnb hlen hbad
      go_enter Try.func37, Try.ntmps37
      go_wp2_with fail
      go_loop [5, 6] (fun m i => ∃ j : Nat, j ≤ k ∧ i = .int .i64 j ∧ m = .int .u64 (valBE (L.take j))) (fun _ i => k - (intOf i).toNat)
      case atStart => exact ⟨0, by omega, rfl, by simp [valBE]⟩
      case round =>
        obtain ⟨j, hj, rfl, rfl⟩ := hrel
        by_cases hltj : j < k
        · have hjs : j < S.size := by omega
          have hb : L[j]? = some S[j] := by
            rw [HL.out, ← Hrest.out]
            simp [hltj, hjs]
            rfl
          have hval := valBE_lt (L.take j)
          have hlt2 : valBE (L.take j) < 72057594037927936 := Nat.lt_of_lt_of_le hval (by
            rw [List.length_take]; exact Nat.le_trans (Nat.pow_le_pow_right (by omega) (Nat.min_le_left _ _)) (pow7 (by omega)))
          have hsn : valBE (L.take (j + 1)) = valBE (L.take j) * 256 + (S[j]).toNat := by
            rw [List.take_add_one, hb]; exact valBE_snoc _ _
          have Hsn := Lib.hid hsn
          have hbt := (S[j]).toNat_lt
          clear hb hval hsn
          generalize valBE (L.take j) = m at *
          go_wp2_with fail
          go_round
          case rel => exact ⟨j + 1, by omega, by go_num, by rw [Hsn.out]; congr 1⟩
          case measure => simp [intOf]; omega
        · obtain rfl : j = k := by omega
          have hLt : L.take j = L := List.take_of_length_le (by rw [HLl.out]; exact Nat.le_refl _)
          have hset := blk_set Hb.out 0 (.string (S.extract j S.size))
          have Hset := Lib.hid hset
          have HLt := Lib.hid hLt
          clear hset hLt
          go_wp2_with fail
          go_ret
          refine ⟨by rw [Hv.out, HLt.out]; rfl, ?_, (Only.refl _ _ _).set _ _⟩
          rw [Hn.out]
          refine ⟨S.extract j S.size, ?_, ?_, ?_⟩
          · rw [Hset.out, Hbad.out]; rfl
          · show _ = s.rest.drop j
            rw [Lib.extract_data, ← Hrest.out, List.take_of_length_le (by simp)]
          · rw [ByteArray.size_extract]; omega

set_option maxHeartbeats 400000 in
theorem rrnum_any (p : Nat) (s : R) (k : Nat) (w : World) (h : RRd w p s) (hk : k ≤ 4) :
    Calls Try.prog 36 #[.pointer (some ⟨p, 0, none⟩), .int .i64 k] w (RNumPost .i64 w p s k) := by
  have CN := Lib.hid (rbits_any p s k w h (by omega))
  have hlt : rVal s k < 4294967296 := Nat.lt_of_lt_of_le (rVal_lt s k) (Nat.pow_le_pow_right (n := 256) (by omega) hk)
  clear h
  unfold RNumPost
  go_enter Try.func36, Try.ntmps36
  go_wp2_with fail
  refine CN.out.mono ?_
  rintro e w' ⟨rfl, hpost⟩
  have Hp := Lib.hid hpost; clear hpost
  generalize hm : rVal s k = m at *
  have Hm := Lib.hid hm; clear hm
  go_wp2_with fail
  go_ret
  exact ⟨by rw [Hm.out]; rfl, Hp.out⟩

/-- How a reading ends. -/
def endE (s : R) : Int := if s.bad = true then 2 else if 0 < s.rest.length then 5 else 0

set_option maxHeartbeats 400000 in
theorem rrend_any (p : Nat) (s : R) (w : World) (h : RRd w p s) :
    Calls Try.prog 15 #[.pointer (some ⟨p, 0, none⟩)] w fun e w' => e = .returned (.int .i64 (endE s)) ∧ w = w' := by
  obtain ⟨S, hb, hrest, hts⟩ := h
  have h0 : w.cell? ⟨p, 0, none⟩ = some (.string S) := by rw [blk_cell hb]; rfl
  have h1 : w.cell? ⟨p, 1, none⟩ = some (.bool s.bad) := by rw [blk_cell hb]; rfl
  have hlen : s.rest.length = S.size := by rw [← hrest]; simp
  clear hb hrest
  cases hbad : s.bad with
  | true =>
    have he := Lib.hid (show endE s = 2 by rw [endE, if_pos hbad])
    rw [hbad] at h1
    clear hlen hbad
    go_enter Try.func15, Try.ntmps15
    go_wp2_with fail
    go_ret
    exact ⟨by rw [he.out]; rfl, rfl⟩
  | false =>
    rw [hbad] at h1
    by_cases hl : 0 < S.size
    · have he := Lib.hid (show endE s = 5 by rw [endE, if_neg (by simp [hbad]), if_pos (by omega)])
      clear hlen hbad
      go_enter Try.func15, Try.ntmps15
      go_wp2_with fail
      go_ret
      exact ⟨by rw [he.out]; rfl, rfl⟩
    · have he := Lib.hid (show endE s = 0 by rw [endE, if_neg (by simp [hbad]), if_neg (by omega)])
      clear hlen hbad
      go_enter Try.func15, Try.ntmps15
      go_wp2_with fail
      go_ret
      exact ⟨by rw [he.out]; rfl, rfl⟩
end Go.Proofs.Ytldlkhnhpbonkaa
