
/- Walk of the reference's Text. -/
import Derived.Test.YtnmhmbfhaiaaoaaRdT
namespace Go.Proofs.Ytnmhmbfhaiaaoaa
set_option maxRecDepth 100000
open Go.RowKit
set_option linter.unusedVariables false

/-- What the reference's text leaves. -/
def RTextPost (w : World) (p : Nat) (s : R) (e : Ending) (w' : World) : Prop :=
  e = .returned (.string ⟨(tVal s).toArray⟩) ∧ RRd w' p (tNext s) ∧ Only p none w w'

set_option maxHeartbeats 1000000 in
theorem rrtext_any (p : Nat) (s : R) (w : World) (h : RRd w p s) :
    Calls Try.prog 54 #[.pointer (some ⟨p, 0, none⟩)] w (RTextPost w p s) := by
  obtain ⟨S, hb, hrest, hts⟩ := h
  have h0 : w.cell? ⟨p, 0, none⟩ = some (.string S) := by rw [blk_cell hb]; rfl
  have h1 : w.cell? ⟨p, 1, none⟩ = some (.bool s.bad) := by rw [blk_cell hb]; rfl
  have hf0 : w.frozen? ⟨p, 0, none⟩ = false := blk_frozen hb _
  have hf1 : w.frozen? ⟨p, 1, none⟩ = false := blk_frozen hb _
  have hlen : s.rest.length = S.size := by rw [← hrest]; simp
  have Hb := Lib.hid hb
  have Hrest := Lib.hid hrest
  clear hb hrest
  by_cases hc0 : s.bad = true ∨ S.size < 2
  · have hc : tBad s := .inl (by rw [rNext_bad (hc0.imp id fun h => by rw [hlen]; exact h)])
    have Hv := Lib.hid (tVal_bad hc); have Hn := Lib.hid (tNext_bad hc)
    clear hc hlen
    cases hbad : s.bad
    case' true =>
      rw [hbad] at h1
      clear hc0
    case' false =>
      have hlt : S.size < 2 := by simpa [hbad] using hc0
      rw [hbad] at h1
      clear hc0
    all_goals
      have Hbad := Lib.hid hbad; clear hbad
      go_enter Try.func54, Try.ntmps54
      go_wp2_with fail
      go_ret
      refine ⟨by rw [Hv.out]; rfl, ?_, (Only.refl _ _ _).set _ _⟩
      rw [Hn.out]
      exact ⟨S, by rw [blk_set Hb.out]; rfl, Hrest.out, hts⟩
  · have hbad : s.bad = false := by cases h : s.bad <;> simp_all
    have hl2 : ¬ S.size < 2 := fun h => hc0 (.inr h)
    have hS0 : 0 < S.size := by omega
    have hS1 : 1 < S.size := by omega
    have hS0i : (0 : Int) < (S.size : Int) := by omega
    have hS1i : (1 : Int) < (S.size : Int) := by omega
    rw [hbad] at h1
    have hn2 := rNext_ok (s := s) (k := 2) (by rw [hlen]; exact hc0)
    have hv2 := rVal_ok (s := s) (k := 2) (by rw [hlen]; exact hc0)
    have hr0 : s.rest = S[0] :: S[1] :: s.rest.drop 2 := by
      have e0 : s.rest[0]? = some S[0] := by rw [← Hrest.out]; simp [hS0]; rfl
      have e1 : s.rest[1]? = some S[1] := by rw [← Hrest.out]; simp [hS1]; rfl
      match hs : s.rest, e0, e1 with
      | [], e0, _ => simp at e0
      | [x], _, e1 => simp at e1
      | x :: y :: r, e0, e1 =>
        simp at e0 e1
        rw [e0, e1]; rfl
    have hval : rVal s 2 = (S[0]).toNat * 256 + (S[1]).toNat := by
      rw [hv2, hr0]; simp [valBE]
    have hb0 := (S[0]).toNat_lt
    have hb1 := (S[1]).toNat_lt
    by_cases hl : S.size - 2 < rVal s 2
    · have hc : tBad s := .inr (by rw [hn2]; show (s.rest.drop 2).length < _; rw [List.length_drop, hlen]; exact hl)
      have Hv := Lib.hid (tVal_bad hc); have Hn := Lib.hid (tNext_bad hc)
      rw [hval] at hl
      clear hc hc0 hr0 hv2 hn2 hval hlen hbad
      have hwA : IntKind.i64.wrap (((S[0]).toNat : Int) * 256) = ((S[0]).toNat : Int) * 256 := IntWalk.i64_in _ (by omega)
      have hwB : IntKind.i64.wrap (((S[0]).toNat : Int) * 256 + ((S[1]).toNat : Int)) = ((S[0]).toNat : Int) * 256 + ((S[1]).toNat : Int) := IntWalk.i64_in _ (by omega)
      have hwC : IntKind.i64.wrap ((S.size : Int) - 2) = (S.size : Int) - 2 := IntWalk.i64_in _ (by omega)
      have hwD : IntKind.i64.wrap (2 + (((S[0]).toNat : Int) * 256 + ((S[1]).toNat : Int))) = 2 + (((S[0]).toNat : Int) * 256 + ((S[1]).toNat : Int)) := IntWalk.i64_in _ (by omega)
      have hd : decide ((S.size : Int) - 2 < ((S[0]).toNat : Int) * 256 + ((S[1]).toNat : Int)) = true := by simp; omega
      go_enter Try.func54, Try.ntmps54
      go_wp2_with fail
      go_quiet (fail)
      go_wp2_with fail
      go_ret
      refine ⟨by rw [Hv.out]; rfl, ?_, (Only.of_below (below_drewN (Below.refl _ _) nq)).set _ _⟩
      rw [Hn.out]
      refine ⟨S, ?_, Hrest.out, hts⟩
      have g := blk_set (w := w.drewN nq) Hb.out 1 (.bool true)
      simpa using g
    · have hc : ¬ tBad s := fun h => by
        rcases h with h | h
        · rw [hn2] at h; cases h
        · rw [hn2] at h
          have h : (s.rest.drop 2).length < _ := h
          rw [List.length_drop, hlen] at h; exact hl h
      have Hv := Lib.hid (tVal_ok hc); have Hn := Lib.hid (tNext_ok hc)
      rw [hn2] at Hv Hn
      rw [hval] at hl Hv Hn
      have Hbad := Lib.hid hbad
      clear hc hc0 hr0 hv2 hn2 hval hlen hbad
      have hwA : IntKind.i64.wrap (((S[0]).toNat : Int) * 256) = ((S[0]).toNat : Int) * 256 := IntWalk.i64_in _ (by omega)
      have hwB : IntKind.i64.wrap (((S[0]).toNat : Int) * 256 + ((S[1]).toNat : Int)) = ((S[0]).toNat : Int) * 256 + ((S[1]).toNat : Int) := IntWalk.i64_in _ (by omega)
      have hwC : IntKind.i64.wrap ((S.size : Int) - 2) = (S.size : Int) - 2 := IntWalk.i64_in _ (by omega)
      have hwD : IntKind.i64.wrap (2 + (((S[0]).toNat : Int) * 256 + ((S[1]).toNat : Int))) = 2 + (((S[0]).toNat : Int) * 256 + ((S[1]).toNat : Int)) := IntWalk.i64_in _ (by omega)
      have hd : decide ((S.size : Int) - 2 < ((S[0]).toNat : Int) * 256 + ((S[1]).toNat : Int)) = false := by simp; omega
      have g1 : (2 : Int) ≤ 2 + (((S[0]).toNat : Int) * 256 + ((S[1]).toNat : Int)) := by omega
      have g2 : 2 + (((S[0]).toNat : Int) * 256 + ((S[1]).toNat : Int)) ≤ (S.size : Int) := by omega
      go_enter Try.func54, Try.ntmps54
      go_wp2_with fail
      go_quiet (fail)
      go_wp2_with fail
      go_ret
      refine ⟨?_, ?_, (Only.of_below (below_drewN (Below.refl _ _) nq)).set _ _⟩
      · rw [Hv.out]
        refine congrArg (fun x => Ending.returned (Value.string x)) (?_ : S.extract 2 (2 + ((S[0]).toNat * 256 + (S[1]).toNat)) = _)
        apply ByteArray.ext
        apply Array.toList_inj.1
        rw [Lib.extract_data, Hrest.out]
        simp
      · rw [Hn.out]
        refine ⟨S.extract (2 + ((S[0]).toNat * 256 + (S[1]).toNat)) S.size, ?_, ?_, ?_⟩
        · have g := blk_set (w := w.drewN nq) Hb.out 0 (.string (S.extract (2 + ((S[0]).toNat * 256 + (S[1]).toNat)) S.size))
          rw [Hbad.out] at g
          simpa using g
        · show _ = (s.rest.drop 2).drop _
          rw [Lib.extract_data, List.drop_drop, ← Hrest.out, List.take_of_length_le (by simp)]
        · rw [ByteArray.size_extract]; omega
end Go.Proofs.Ytnmhmbfhaiaaoaa
