
/- Walks of the readers' Text, and of Long and Bits. -/
import Derived.Test.YtnmhmbfhaiaaoaaPkN
namespace Go.Proofs.Ytnmhmbfhaiaaoaa
set_option maxRecDepth 100000
open Go.RowKit
set_option linter.unusedVariables false

/-- A text that is read; what is left then. -/
def tBad (s : R) : Prop := (rNext s 2).bad = true ∨ (rNext s 2).rest.length < rVal s 2
instance (s : R) : Decidable (tBad s) := inferInstanceAs (Decidable (_ ∨ _))
def tVal (s : R) : List UInt8 := if tBad s then [] else (rNext s 2).rest.take (rVal s 2)
def tNext (s : R) : R := if tBad s then ⟨s.rest, true⟩ else ⟨(rNext s 2).rest.drop (rVal s 2), false⟩
theorem tVal_bad {s : R} (h : tBad s) : tVal s = [] := by rw [tVal, if_pos h]
theorem tNext_bad {s : R} (h : tBad s) : tNext s = ⟨s.rest, true⟩ := by rw [tNext, if_pos h]
theorem tVal_ok {s : R} (h : ¬ tBad s) : tVal s = (rNext s 2).rest.take (rVal s 2) := by rw [tVal, if_neg h]
theorem tNext_ok {s : R} (h : ¬ tBad s) : tNext s = ⟨(rNext s 2).rest.drop (rVal s 2), false⟩ := by rw [tNext, if_neg h]
theorem rNext_rest {s : R} {k : Nat} (h : (rNext s k).bad = true) : rNext s k = ⟨s.rest, true⟩ := by
  by_cases hc : s.bad = true ∨ s.rest.length < k
  · exact rNext_bad hc
  · rw [rNext_ok hc] at h; cases h

/-- What a text that is read leaves. -/
def TextPost (w : World) (p : Nat) (text : ByteArray) (s : R) (e : Ending) (w' : World) : Prop :=
  e = .returned (.string ⟨(tVal s).toArray⟩) ∧ PRd w' p text (tNext s) ∧ Only p none w w'

set_option maxHeartbeats 1000000 in
theorem rdtext_any (p : Nat) (text : ByteArray) (s : R) (w : World) (h : PRd w p text s) :
    Calls Try.prog 79 #[.pointer (some ⟨p, 0, none⟩)] w (TextPost w p text s) := by
  have CN := Lib.hid (number_any p text s 2 w h (by omega))
  have hlt : rVal s 2 < 65536 := rVal_lt s 2
  obtain ⟨at0, ha, hts, hb, hrest⟩ := h
  have h1 : w.cell? ⟨p, 1, none⟩ = some (.int .i64 at0) := by rw [blk_cell hb]; rfl
  have Hrest := Lib.hid hrest
  clear hb hrest
  cases hbad : (rNext s 2).bad with
  | true =>
    have hc : tBad s := .inl hbad
    have Hv := Lib.hid (tVal_bad hc); have Hn := Lib.hid (tNext_bad hc)
    have Hr := Lib.hid (rNext_rest hbad)
    clear hc hbad
    go_enter Try.func79, Try.ntmps79
    go_wp2_with fail
    refine CN.out.mono ?_
    rintro e w1 ⟨rfl, hr, ho⟩
    rw [Hr.out] at hr
    have Hp := Lib.hid hr
    obtain ⟨at1, ha1, _, hb1, _⟩ := hr
    have k2 : w1.cell? ⟨p, 2, none⟩ = some (.bool true) := by rw [blk_cell hb1]; rfl
    have Ho := Lib.hid ho
    clear hb1 ho CN
    generalize rVal s 2 = m at *
    go_wp2_with fail
    go_ret
    exact ⟨by rw [Hv.out]; rfl, by rw [Hn.out]; exact Hp.out, Ho.out⟩
  | false =>
    by_cases hl : (rNext s 2).rest.length < rVal s 2
    · have hc : tBad s := .inr hl
      have Hv := Lib.hid (tVal_bad hc); have Hn := Lib.hid (tNext_bad hc)
      have Hbad := Lib.hid hbad; have Hl := Lib.hid hl
      clear hc hbad hl
      go_enter Try.func79, Try.ntmps79
      go_wp2_with fail
      refine CN.out.mono ?_
      rintro e w1 ⟨rfl, hr, ho⟩
      obtain ⟨at1, ha1, _, hb1, hr1⟩ := hr
      rw [Hbad.out] at hb1
      have k0 : w1.cell? ⟨p, 0, none⟩ = some (.string text) := by rw [blk_cell hb1]; rfl
      have k1 : w1.cell? ⟨p, 1, none⟩ = some (.int .i64 at1) := by rw [blk_cell hb1]; rfl
      have k2 : w1.cell? ⟨p, 2, none⟩ = some (.bool false) := by rw [blk_cell hb1]; rfl
      have z1 : w1.frozen? ⟨p, 1, none⟩ = false := blk_frozen hb1 _
      have z2 : w1.frozen? ⟨p, 2, none⟩ = false := blk_frozen hb1 _
      have hlen : (rNext s 2).rest.length = text.size - at1 := by rw [hr1]; simp
      have hlt2 := Hl.out
      rw [hlen] at hlt2
      have Ho := Lib.hid ho; have Hb1 := Lib.hid hb1
      clear hb1 ho CN hlen hr1
      generalize rVal s 2 = m at *
      have hd : decide ((text.size : Int) - at1 < (m : Int)) = true := by simp; omega
      have hwr : IntKind.i64.wrap ((text.size : Int) - (at1 : Int)) = (text.size : Int) - (at1 : Int) := IntWalk.i64_in _ (by omega)
      go_wp2_with fail
      go_quiet (fail)
      go_wp2_with fail
      go_ret
      refine ⟨by rw [Hv.out]; rfl, ?_, ((Ho.out.trans (Only.of_below (below_drewN (Below.refl _ _) nq)) (.inl rfl)).set _ _).set _ _⟩
      rw [Hn.out]
      refine ⟨at0, ha, hts, ?_, Hrest.out⟩
      have g1 := blk_set (w := w1.drewN nq) Hb1.out 1 (.int .i64 at0)
      have g2 := blk_set g1 2 (.bool true)
      simpa using g2
    · have hc : ¬ tBad s := fun h => by rcases h with h | h <;> simp_all
      have Hv := Lib.hid (tVal_ok hc); have Hn := Lib.hid (tNext_ok hc)
      have Hbad := Lib.hid hbad; have Hl := Lib.hid hl
      clear hc hbad hl
      go_enter Try.func79, Try.ntmps79
      go_wp2_with fail
      refine CN.out.mono ?_
      rintro e w1 ⟨rfl, hr, ho⟩
      obtain ⟨at1, ha1, _, hb1, hr1⟩ := hr
      rw [Hbad.out] at hb1
      have k0 : w1.cell? ⟨p, 0, none⟩ = some (.string text) := by rw [blk_cell hb1]; rfl
      have k1 : w1.cell? ⟨p, 1, none⟩ = some (.int .i64 at1) := by rw [blk_cell hb1]; rfl
      have k2 : w1.cell? ⟨p, 2, none⟩ = some (.bool false) := by rw [blk_cell hb1]; rfl
      have z1 : w1.frozen? ⟨p, 1, none⟩ = false := blk_frozen hb1 _
      have hlen : (rNext s 2).rest.length = text.size - at1 := by rw [hr1]; simp
      have hlt2 := Hl.out
      rw [hlen] at hlt2
      have Ho := Lib.hid ho; have Hb1 := Lib.hid hb1; have Hr1 := Lib.hid hr1
      clear hb1 ho CN hlen hr1 h1
      have hm0 : rVal s 2 = rVal s 2 := rfl
      generalize rVal s 2 = m at *
      clear hm0
      have hd : decide ((text.size : Int) - at1 < (m : Int)) = false := by simp; omega
      have hwr : IntKind.i64.wrap ((text.size : Int) - (at1 : Int)) = (text.size : Int) - (at1 : Int) := IntWalk.i64_in _ (by omega)
      have hwr2 : IntKind.i64.wrap ((at1 : Int) + (m : Int)) = (at1 : Int) + (m : Int) := IntWalk.i64_in _ (by omega)
      have g1 : (0 : Int) ≤ (at1 : Int) + (m : Int) := by omega
      have g2 : (at1 : Int) + (m : Int) ≤ (text.size : Int) := by omega
      have g3 : at1 + m ≤ text.size := by omega
      go_wp2_with fail
      go_quiet (fail)
      go_wp2_with fail
      generalize nq = n1
      go_quiet (fail)
      go_wp2_with fail
      go_ret
      have hw : Below w1.heap.size w1 (w1.drewN (n1 + nq)) := below_drewN (Below.refl _ _) _
      refine ⟨?_, ?_, (Ho.out.trans (Only.of_below hw) (.inl rfl)).set _ _⟩
      · rw [Hv.out, Hr1.out]
        refine congrArg (fun x => Ending.returned (Value.string x)) (?_ : text.extract at1 (at1 + m) = _)
        apply ByteArray.ext
        apply Array.toList_inj.1
        rw [Lib.extract_data]
        simp
      · rw [Hn.out]
        refine ⟨at1 + m, g3, hts, ?_, ?_⟩
        · have g4 := blk_set (w := w1.drewN (n1 + nq)) Hb1.out 1 (.int .i64 ((at1 : Int) + (m : Int)))
          simpa using g4
        · show (rNext s 2).rest.drop m = _
          rw [Hr1.out, List.drop_drop]

set_option maxHeartbeats 400000 in
theorem rlong_any (p : Nat) (text : ByteArray) (s : R) (w : World) (h : PRd w p text s) :
    Calls Try.prog 77 #[.pointer (some ⟨p, 0, none⟩)] w (IntPost w p text s 4) := by
  have CN := Lib.hid (number_any p text s 4 w h (by omega))
  have hlt : rVal s 4 < 4294967296 := rVal_lt s 4
  clear h
  unfold IntPost
  go_enter Try.func77, Try.ntmps77
  go_wp2_with fail
  refine CN.out.mono ?_
  rintro e w' ⟨rfl, hpost⟩
  have Hp := Lib.hid hpost; clear hpost
  generalize hm : rVal s 4 = m at *
  have Hm := Lib.hid hm; clear hm
  go_wp2_with fail
  go_ret
  exact ⟨by rw [Hm.out]; rfl, Hp.out⟩
set_option maxHeartbeats 400000 in
theorem rdbits_any (p : Nat) (text : ByteArray) (s : R) (w : World) (h : PRd w p text s) :
    Calls Try.prog 78 #[.pointer (some ⟨p, 0, none⟩)] w (NumPost w p text s 8) := by
  have CN := Lib.hid (number_any p text s 8 w h (by omega))
  clear h
  unfold NumPost
  go_enter Try.func78, Try.ntmps78
  go_wp2_with fail
  refine CN.out.mono ?_
  rintro e w' ⟨rfl, hpost⟩
  have Hp := Lib.hid hpost; clear hpost
  generalize hm : rVal s 8 = m at *
  have Hm := Lib.hid hm; clear hm
  go_wp2_with fail
  go_ret
  exact ⟨by rw [Hm.out]; rfl, Hp.out⟩
end Go.Proofs.Ytnmhmbfhaiaaoaa
