
/- Walks of the program's reader: number. -/
import Derived.Test.YtnmhmbfhaiaaoaaRows
import Derived.Test.YtnmhmbfhaiaaoaaRdM
import Derived.Deep.QuietTactic
import Derived.BigQuiet
namespace Go.Proofs.Ytnmhmbfhaiaaoaa
set_option maxRecDepth 100000
open Go.RowKit
set_option linter.unusedVariables false

def PRd (w : World) (p : Nat) (text : ByteArray) (s : R) : Prop := PRdT 111 w p text s
def RRd (w : World) (p : Nat) (s : R) : Prop := RRdT 84 w p s
/-- What a number that is read leaves. -/
def NumPost (w : World) (p : Nat) (text : ByteArray) (s : R) (k : Nat) (e : Ending) (w' : World) : Prop :=
  e = .returned (.int .u64 (rVal s k)) ∧ PRd w' p text (rNext s k) ∧ Only p none w w'

set_option maxHeartbeats 1000000 in
theorem number_any (p : Nat) (text : ByteArray) (s : R) (k : Nat) (w : World) (h : PRd w p text s) (hk : k ≤ 8) :
    Calls Try.prog 81 #[.pointer (some ⟨p, 0, none⟩), .int .i64 k] w (NumPost w p text s k) := by
  obtain ⟨at0, ha, hts, hb, hrest⟩ := h
  have h0 : w.cell? ⟨p, 0, none⟩ = some (.string text) := by rw [blk_cell hb]; rfl
  have h1 : w.cell? ⟨p, 1, none⟩ = some (.int .i64 at0) := by rw [blk_cell hb]; rfl
  have h2 : w.cell? ⟨p, 2, none⟩ = some (.bool s.bad) := by rw [blk_cell hb]; rfl
  have hf1 : w.frozen? ⟨p, 1, none⟩ = false := blk_frozen hb _
  have hf2 : w.frozen? ⟨p, 2, none⟩ = false := blk_frozen hb _
  have hlen : s.rest.length = text.size - at0 := by rw [hrest]; simp
  have Hb := Lib.hid hb
  have Hrest := Lib.hid hrest
  clear hb hrest
  cases hbad : s.bad with
  | true =>
    have hv := Lib.hid (rVal_bad (s := s) (k := k) (.inl hbad))
    have hn := Lib.hid (rNext_bad (s := s) (k := k) (.inl hbad))
    rw [hbad] at h2
    have Hbad := Lib.hid hbad
    clear hlen hbad
    go_enter Try.func81, Try.ntmps81
    go_wp2_with fail
    go_ret
    refine ⟨by rw [hv.out]; rfl, ?_, Only.refl _ _ _⟩
    rw [hn.out]
    exact ⟨at0, ha, hts, by have := Hb.out; rw [Hbad.out] at this; exact this, Hrest.out⟩
  | false =>
    rw [hbad] at h2
    have Hbad := Lib.hid hbad
    by_cases hlt : text.size - at0 < k
    · have hc : s.bad = true ∨ s.rest.length < k := .inr (by rw [hlen]; exact hlt)
      have hv := Lib.hid (rVal_bad hc)
      have hn := Lib.hid (rNext_bad hc)
      have hd : decide ((text.size : Int) - at0 < (k : Int)) = true := by simp; omega
      have hwr : IntKind.i64.wrap ((text.size : Int) - (at0 : Int)) = (text.size : Int) - (at0 : Int) := IntWalk.i64_in _ (by omega)
      clear hlen hbad hc
      go_enter Try.func81, Try.ntmps81
      go_wp2_with fail
      go_quiet (fail)
      go_wp2_with fail
      go_ret
      refine ⟨by rw [hv.out]; rfl, ?_, (Only.of_below (below_drewN (Below.refl _ _) nq)).set _ _⟩
      rw [hn.out]
      refine ⟨at0, ha, hts, ?_, Hrest.out⟩
      have := blk_set (w := w.drewN nq) Hb.out 2 (.bool true)
      simpa using this
    · have hd : decide ((text.size : Int) - at0 < (k : Int)) = false := by simp; omega
      have hwr : IntKind.i64.wrap ((text.size : Int) - (at0 : Int)) = (text.size : Int) - (at0 : Int) := IntWalk.i64_in _ (by omega)
      have hwr2 : IntKind.i64.wrap ((at0 : Int) + (k : Int)) = (at0 : Int) + (k : Int) := IntWalk.i64_in _ (by omega)
      have g1 : (0 : Int) ≤ (at0 : Int) + (k : Int) := by omega
      have g2 : (at0 : Int) + (k : Int) ≤ (text.size : Int) := by omega
      have g3 : at0 + k ≤ text.size := by omega
      have hrb := fun (w : World) (s : ByteArray) => run_bytes_of_string (P := Try.prog) w 9 62 5 s Try.underlying9 Try.underlying62 Try.underlying5
      go_enter Try.func81, Try.ntmps81
      go_wp2_with fail
      go_quiet (fail)
      go_wp2_with fail
      go_region
      go_wp2_with fail
      have hnb : ¬ (s.bad = true ∨ s.rest.length < k) := by rw [hbad, hlen]; simp; omega
      have Hv := Lib.hid (rVal_ok hnb)
      have Hn := Lib.hid (rNext_ok hnb)
      obtain ⟨L, hL⟩ : ∃ L, L = s.rest.take k := ⟨_, rfl⟩
      have hLl : L.length = k := by rw [hL]; simp; omega
      rw [← hL] at Hv
      generalize hw2 : (w.drewN (nq + 1 + 1)).alloc _ = w2
      have hbel : Below w.heap.size w w2 := by rw [← hw2]; exact balloc (below_drewN (Below.refl _ _) _) _
      have hbytes : ∀ j b, L[j]? = some b → w2.cell? ⟨w.heap.size, j, none⟩ = some (.int .u8 (b.toNat : Int)) := fun j b hj => by
        rw [← hw2]
        refine bytes_row_cell _ _ _ _ _ _ rfl j b ?_
        rw [Lib.extract_data, ← hj, hL, Hrest.out]
        simp
      have Hbytes := Lib.hid hbytes; have Hbel := Lib.hid hbel
      have HL := Lib.hid hL; have HLl := Lib.hid hLl
      clear hbytes hbel hw2 hL hLl hnb hlen hbad hd hwr hwr2 g1 g2 h0 h1 h2 hrb
      go_loop [5, 48] (fun m i => ∃ j : Nat, j ≤ k ∧ i = .int .i64 j ∧ m = .int .u64 (valBE (L.take j))) (fun _ i => k - (intOf i).toNat)
      case atStart => exact ⟨0, by omega, rfl, by simp [valBE]⟩
      case round =>
        obtain ⟨j, hj, rfl, rfl⟩ := hrel
        by_cases hlt : j < k
        · obtain ⟨b, hb⟩ : ∃ b, L[j]? = some b := ⟨_, List.getElem?_eq_getElem (by rw [HLl.out]; exact hlt)⟩
          have hc := Hbytes.out j b hb
          have hval := valBE_lt (L.take j)
          have hlt2 : valBE (L.take j) < 72057594037927936 := Nat.lt_of_lt_of_le hval (by
            rw [List.length_take]; exact Nat.le_trans (Nat.pow_le_pow_right (by omega) (Nat.min_le_left _ _)) (pow7 (by omega)))
          have hsn : valBE (L.take (j + 1)) = valBE (L.take j) * 256 + b.toNat := by
            rw [List.take_add_one, hb]; exact valBE_snoc _ _
          have Hsn := Lib.hid hsn
          have hbt := b.toNat_lt
          clear hb hval hsn
          generalize valBE (L.take j) = m at *
          generalize hB : b.toNat = c at *
          clear hB
          have Hor := Lib.hid (or_bits m c hlt2 hbt)
          go_wp2_with fail
          go_round
          case rel => exact ⟨j + 1, by omega, by go_num, by rw [Hor.out, Hsn.out]⟩
          case measure => simp [intOf]; omega
        · obtain rfl : j = k := by omega
          have hLt : L.take j = L := List.take_of_length_le (by rw [HLl.out]; exact Nat.le_refl _)
          have hp2 : w2.heap[p]? = w.heap[p]? := Hbel.out.block p (blk_lt Hb.out)
          have hb2 := Hb.out
          rw [← hp2] at hb2
          have c1 : w2.cell? ⟨p, 1, none⟩ = some (.int .i64 at0) := by rw [blk_cell hb2]; rfl
          have z1 : w2.frozen? ⟨p, 1, none⟩ = false := blk_frozen hb2 _
          have hset := blk_set hb2 1 (.int .i64 ((at0 : Int) + (j : Int)))
          have Hset := Lib.hid hset
          have HLt := Lib.hid hLt
          clear hp2 hb2 hset hLt Hbytes
          go_wp2_with fail
          go_ret
          refine ⟨by rw [Hv.out, HLt.out]; rfl, ?_, (Only.of_below Hbel.out).set _ _⟩
          rw [Hn.out]
          refine ⟨at0 + j, g3, hts, ?_, ?_⟩
          · rw [Hset.out, Hbad.out]; rfl
          · show s.rest.drop j = _
            rw [Hrest.out, List.drop_drop]
end Go.Proofs.Ytnmhmbfhaiaaoaa

/- Walks of the readers: Byte, Word, Left, Read of the program; Bits, Num, End of the reference. -/
namespace Go.Proofs.Ytnmhmbfhaiaaoaa
set_option maxRecDepth 100000
open Go.RowKit
set_option linter.unusedVariables false

theorem rVal_lt (s : R) (k : Nat) : rVal s k < 256 ^ k := by
  unfold rVal
  split
  · exact Nat.pos_of_ne_zero (by simp)
  · have := valBE_lt (s.rest.take k)
    exact Nat.lt_of_lt_of_le this (Nat.pow_le_pow_right (by omega) (by rw [List.length_take]; exact Nat.min_le_left _ _))
/-- What a number that is read as an int leaves. -/
def IntPost (w : World) (p : Nat) (text : ByteArray) (s : R) (k : Nat) (e : Ending) (w' : World) : Prop :=
  e = .returned (.int .i64 (rVal s k)) ∧ PRd w' p text (rNext s k) ∧ Only p none w w'

set_option maxHeartbeats 400000 in
theorem rbyte_any (p : Nat) (text : ByteArray) (s : R) (w : World) (h : PRd w p text s) :
    Calls Try.prog 75 #[.pointer (some ⟨p, 0, none⟩)] w (IntPost w p text s 1) := by
  have CN := Lib.hid (number_any p text s 1 w h (by omega))
  have hlt : rVal s 1 < 256 := rVal_lt s 1
  clear h
  unfold IntPost
  go_enter Try.func75, Try.ntmps75
  go_wp2_with fail
  refine CN.out.mono ?_
  rintro e w' ⟨rfl, hpost⟩
  have Hp := Lib.hid hpost; clear hpost
  generalize hm : rVal s 1 = m at *
  have Hm := Lib.hid hm; clear hm
  go_wp2_with fail
  go_ret
  exact ⟨by rw [Hm.out]; rfl, Hp.out⟩

set_option maxHeartbeats 400000 in
theorem rword_any (p : Nat) (text : ByteArray) (s : R) (w : World) (h : PRd w p text s) :
    Calls Try.prog 76 #[.pointer (some ⟨p, 0, none⟩)] w (IntPost w p text s 2) := by
  have CN := Lib.hid (number_any p text s 2 w h (by omega))
  have hlt : rVal s 2 < 65536 := rVal_lt s 2
  clear h
  unfold IntPost
  go_enter Try.func76, Try.ntmps76
  go_wp2_with fail
  refine CN.out.mono ?_
  rintro e w' ⟨rfl, hpost⟩
  have Hp := Lib.hid hpost; clear hpost
  generalize hm : rVal s 2 = m at *
  have Hm := Lib.hid hm; clear hm
  go_wp2_with fail
  go_ret
  exact ⟨by rw [Hm.out]; rfl, Hp.out⟩

set_option maxHeartbeats 400000 in
theorem left_any (p : Nat) (text : ByteArray) (s : R) (w : World) (h : PRd w p text s) :
    Calls Try.prog 80 #[.pointer (some ⟨p, 0, none⟩)] w fun e w' => e = .returned (.int .i64 s.rest.length) ∧ ∃ q, w' = w.drewN q := by
  obtain ⟨at0, ha, hts, hb, hrest⟩ := h
  have h0 : w.cell? ⟨p, 0, none⟩ = some (.string text) := by rw [blk_cell hb]; rfl
  have h1 : w.cell? ⟨p, 1, none⟩ = some (.int .i64 at0) := by rw [blk_cell hb]; rfl
  have hlen := Lib.hid (show s.rest.length = text.size - at0 by rw [hrest]; simp)
  have hwr : IntKind.i64.wrap ((text.size : Int) - (at0 : Int)) = (text.size : Int) - (at0 : Int) := IntWalk.i64_in _ (by omega)
  clear hb hrest
  go_enter Try.func80, Try.ntmps80
  go_wp2_with fail
  go_quiet (fail)
  go_wp2_with fail
  go_ret
  exact ⟨by rw [hlen.out]; exact ret_int (by omega), nq, rfl⟩

set_option maxHeartbeats 400000 in
theorem read_any (text : ByteArray) (w : World) (hts : text.size ≤ 140737488351232) :
    Calls Try.prog 71 #[.string text] w fun e w' => e = .returned (.pointer (some ⟨w.heap.size, 0, none⟩)) ∧ PRd w' w.heap.size text ⟨text.data.toList, false⟩ ∧ Below w.heap.size w w' := by
  go_enter Try.func71, Try.ntmps71
  go_wp2_with fail
  go_ret
  exact ⟨rfl, ⟨0, by omega, hts, blk_alloc _ _, by simp⟩, below_alloc _ _⟩

/-- What the reference's number leaves. -/
def RNumPost (T : IntKind) (w : World) (p : Nat) (s : R) (k : Nat) (e : Ending) (w' : World) : Prop :=
  e = .returned (.int T (rVal s k)) ∧ RRd w' p (rNext s k) ∧ Only p none w w'

set_option maxHeartbeats 1000000 in
theorem rbits_any (p : Nat) (s : R) (k : Nat) (w : World) (h : RRd w p s) (hk : k ≤ 8) :
    Calls Try.prog 56 #[.pointer (some ⟨p, 0, none⟩), .int .i64 k] w (RNumPost .u64 w p s k) := by
  obtain ⟨S, hb, hrest, hts⟩ := h
  have h0 : w.cell? ⟨p, 0, none⟩ = some (.string S) := by rw [blk_cell hb]; rfl
  have h1 : w.cell? ⟨p, 1, none⟩ = some (.bool s.bad) := by rw [blk_cell hb]; rfl
  have hf0 : w.frozen? ⟨p, 0, none⟩ = false := blk_frozen hb _
  have hf1 : w.frozen? ⟨p, 1, none⟩ = false := blk_frozen hb _
  have hlen : s.rest.length = S.size := by rw [← hrest]; simp
  have Hb := Lib.hid hb
  have Hrest := Lib.hid hrest
  clear hb hrest
  cases hbad : s.bad with
  | true =>
    have hv := Lib.hid (rVal_bad (s := s) (k := k) (.inl hbad))
    have hn := Lib.hid (rNext_bad (s := s) (k := k) (.inl hbad))
    rw [hbad] at h1
    have Hbad := Lib.hid hbad
    clear hlen hbad
    go_enter Try.func56, Try.ntmps56
    go_wp2_with fail
    go_ret
    refine ⟨by rw [hv.out]; rfl, ?_, (Only.refl _ _ _).set _ _⟩
    rw [hn.out]
    exact ⟨S, by rw [blk_set Hb.out]; rfl, Hrest.out, hts⟩
  | false =>
    rw [hbad] at h1
    have Hbad := Lib.hid hbad
    by_cases hlt : S.size < k
    · have hc : s.bad = true ∨ s.rest.length < k := .inr (by rw [hlen]; exact hlt)
      have hv := Lib.hid (rVal_bad hc)
      have hn := Lib.hid (rNext_bad hc)
      clear hlen hbad hc
      go_enter Try.func56, Try.ntmps56
      go_wp2_with fail
      go_ret
      refine ⟨by rw [hv.out]; rfl, ?_, (Only.refl _ _ _).set _ _⟩
      rw [hn.out]
      exact ⟨S, by rw [blk_set Hb.out]; rfl, Hrest.out, hts⟩
    · have hnb : ¬ (s.bad = true ∨ s.rest.length < k) := by rw [hbad, hlen]; simp; omega
      have Hv := Lib.hid (rVal_ok hnb)
      have Hn := Lib.hid (rNext_ok hnb)
      obtain ⟨L, hL⟩ : ∃ L, L = s.rest.take k := ⟨_, rfl⟩
      have hLl : L.length = k := by rw [hL]; simp; omega
      rw [← hL] at Hv
      have HL := Lib.hid hL; have HLl := Lib.hid hLl
      clear hL hLl hnb hlen hbad
      go_enter Try.func56, Try.ntmps56
      go_wp2_with fail
      go_loop [5, 6] (fun m i => ∃ j : Nat, j ≤ k ∧ i = .int .i64 j ∧ m = .int .u64 (valBE (L.take j))) (fun _ i => k - (intOf i).toNat)
      case atStart => exact ⟨0, by omega, rfl, by simp [valBE]⟩
      case round =>
        obtain ⟨j, hj, rfl, rfl⟩ := hrel
        by_cases hltj : j < k
        · have hjs : j < S.size := by omega
          have hb : L[j]? = some S[j] := by
            rw [HL.out, ← Hrest.out]
            simp [hltj, hjs]
            rfl
          have hval := valBE_lt (L.take j)
          have hlt2 : valBE (L.take j) < 72057594037927936 := Nat.lt_of_lt_of_le hval (by
            rw [List.length_take]; exact Nat.le_trans (Nat.pow_le_pow_right (by omega) (Nat.min_le_left _ _)) (pow7 (by omega)))
          have hsn : valBE (L.take (j + 1)) = valBE (L.take j) * 256 + (S[j]).toNat := by
            rw [List.take_add_one, hb]; exact valBE_snoc _ _
          have Hsn := Lib.hid hsn
          have hbt := (S[j]).toNat_lt
          clear hb hval hsn
          generalize valBE (L.take j) = m at *
          go_wp2_with fail
          go_round
          case rel => exact ⟨j + 1, by omega, by go_num, by rw [Hsn.out]; congr 1⟩
          case measure => simp [intOf]; omega
        · obtain rfl : j = k := by omega
          have hLt : L.take j = L := List.take_of_length_le (by rw [HLl.out]; exact Nat.le_refl _)
          have hset := blk_set Hb.out 0 (.string (S.extract j S.size))
          have Hset := Lib.hid hset
          have HLt := Lib.hid hLt
          clear hset hLt
          go_wp2_with fail
          go_ret
          refine ⟨by rw [Hv.out, HLt.out]; rfl, ?_, (Only.refl _ _ _).set _ _⟩
          rw [Hn.out]
          refine ⟨S.extract j S.size, ?_, ?_, ?_⟩
          · rw [Hset.out, Hbad.out]; rfl
          · show _ = s.rest.drop j
            rw [Lib.extract_data, ← Hrest.out, List.take_of_length_le (by simp)]
          · rw [ByteArray.size_extract]; omega

set_option maxHeartbeats 400000 in
theorem rrnum_any (p : Nat) (s : R) (k : Nat) (w : World) (h : RRd w p s) (hk : k ≤ 4) :
    Calls Try.prog 53 #[.pointer (some ⟨p, 0, none⟩), .int .i64 k] w (RNumPost .i64 w p s k) := by
  have CN := Lib.hid (rbits_any p s k w h (by omega))
  have hlt : rVal s k < 4294967296 := Nat.lt_of_lt_of_le (rVal_lt s k) (Nat.pow_le_pow_right (n := 256) (by omega) hk)
  clear h
  unfold RNumPost
  go_enter Try.func53, Try.ntmps53
  go_wp2_with fail
  refine CN.out.mono ?_
  rintro e w' ⟨rfl, hpost⟩
  have Hp := Lib.hid hpost; clear hpost
  generalize hm : rVal s k = m at *
  have Hm := Lib.hid hm; clear hm
  go_wp2_with fail
  go_ret
  exact ⟨by rw [Hm.out]; rfl, Hp.out⟩

/-- How a reading ends. -/
def endE (s : R) : Int := if s.bad = true then 2 else if 0 < s.rest.length then 5 else 0

set_option maxHeartbeats 400000 in
theorem rrend_any (p : Nat) (s : R) (w : World) (h : RRd w p s) :
    Calls Try.prog 57 #[.pointer (some ⟨p, 0, none⟩)] w fun e w' => e = .returned (.int .i64 (endE s)) ∧ w = w' := by
  obtain ⟨S, hb, hrest, hts⟩ := h
  have h0 : w.cell? ⟨p, 0, none⟩ = some (.string S) := by rw [blk_cell hb]; rfl
  have h1 : w.cell? ⟨p, 1, none⟩ = some (.bool s.bad) := by rw [blk_cell hb]; rfl
  have hlen : s.rest.length = S.size := by rw [← hrest]; simp
  clear hb hrest
  cases hbad : s.bad with
  | true =>
    have he := Lib.hid (show endE s = 2 by rw [endE, if_pos hbad])
    rw [hbad] at h1
    clear hlen hbad
    go_enter Try.func57, Try.ntmps57
    go_wp2_with fail
    go_ret
    exact ⟨by rw [he.out]; rfl, rfl⟩
  | false =>
    rw [hbad] at h1
    by_cases hl : 0 < S.size
    · have he := Lib.hid (show endE s = 5 by rw [endE, if_neg (by simp [hbad]), if_pos (by omega)])
      clear hlen hbad
      go_enter Try.func57, Try.ntmps57
      go_wp2_with fail
      go_ret
      exact ⟨by rw [he.out]; rfl, rfl⟩
    · have he := Lib.hid (show endE s = 0 by rw [endE, if_neg (by simp [hbad]), if_neg (by omega)])
      clear hlen hbad
      go_enter Try.func57, Try.ntmps57
      go_wp2_with fail
      go_ret
      exact ⟨by rw [he.out]; rfl, rfl⟩
end Go.Proofs.Ytnmhmbfhaiaaoaa
