/- Writers and readers that aren't there: what is nil answers nothing and does nothing. -/
import Derived.Test.YtldlkhnhpbonkaaRdW2
import Derived.Test.YtldlkhnhpbonkaaPkR2
namespace Go.Proofs.Ytldlkhnhpbonkaa
open Go.RowKit
set_option linter.unusedVariables false

theorem wbyte_nil (n : Int) (w : World) : Calls Try.prog 19 #[.pointer none, .int .i64 n] w fun e w' => e = .returned (.tuple #[]) ∧ w = w' := by
  go_enter Try.func19, Try.ntmps19
  go_wp2_with fail
  refine bodyPost_ret (results_none rfl _ _ _) rfl ?_
  exact ⟨rfl, rfl⟩
theorem wword_nil (n : Int) (w : World) : Calls Try.prog 29 #[.pointer none, .int .i64 n] w fun e w' => e = .returned (.tuple #[]) ∧ w = w' := by
  go_enter Try.func29, Try.ntmps29
  go_wp2_with fail
  refine bodyPost_ret (results_none rfl _ _ _) rfl ?_
  exact ⟨rfl, rfl⟩
theorem wlong_nil (n : Int) (w : World) : Calls Try.prog 30 #[.pointer none, .int .i64 n] w fun e w' => e = .returned (.tuple #[]) ∧ w = w' := by
  go_enter Try.func30, Try.ntmps30
  go_wp2_with fail
  refine bodyPost_ret (results_none rfl _ _ _) rfl ?_
  exact ⟨rfl, rfl⟩
theorem wbits_nil (n : Int) (w : World) : Calls Try.prog 31 #[.pointer none, .int .u64 n] w fun e w' => e = .returned (.tuple #[]) ∧ w = w' := by
  go_enter Try.func31, Try.ntmps31
  go_wp2_with fail
  refine bodyPost_ret (results_none rfl _ _ _) rfl ?_
  exact ⟨rfl, rfl⟩
theorem wtext_nil (s : ByteArray) (w : World) : Calls Try.prog 32 #[.pointer none, .string s] w fun e w' => e = .returned (.tuple #[]) ∧ w = w' := by
  go_enter Try.func32, Try.ntmps32
  go_wp2_with fail
  refine bodyPost_ret (results_none rfl _ _ _) rfl ?_
  exact ⟨rfl, rfl⟩
theorem wlen_nil (w : World) : Calls Try.prog 20 #[.pointer none] w fun e w' => e = .returned (.int .i64 0) ∧ w = w' := by
  go_enter Try.func20, Try.ntmps20
  go_wp2_with fail
  go_ret
  exact ⟨rfl, rfl⟩
theorem wdone_nil (w : World) : Calls Try.prog 21 #[.pointer none] w fun e w' => e = .returned (.tuple #[.string ⟨#[]⟩, .int .i64 1]) ∧ w = w' := by
  go_enter Try.func21, Try.ntmps21
  go_wp2_with fail
  go_ret2
  exact ⟨rfl, rfl⟩
theorem number_nil (k : Int) (w : World) : Calls Try.prog 44 #[.pointer none, .int .i64 k] w fun e w' => e = .returned (.int .u64 0) ∧ w = w' := by
  go_enter Try.func44, Try.ntmps44
  go_wp2_with fail
  go_ret
  exact ⟨rfl, rfl⟩
theorem rbyte_nil (w : World) : Calls Try.prog 24 #[.pointer none] w fun e w' => e = .returned (.int .i64 0) ∧ w = w' := by
  go_enter Try.func24, Try.ntmps24
  go_wp2_with fail
  refine (number_nil _ _).mono ?_
  rintro e w' ⟨rfl, rfl⟩
  go_wp2_with fail
  go_ret
  exact ⟨rfl, rfl⟩
theorem rword_nil (w : World) : Calls Try.prog 25 #[.pointer none] w fun e w' => e = .returned (.int .i64 0) ∧ w = w' := by
  go_enter Try.func25, Try.ntmps25
  go_wp2_with fail
  refine (number_nil _ _).mono ?_
  rintro e w' ⟨rfl, rfl⟩
  go_wp2_with fail
  go_ret
  exact ⟨rfl, rfl⟩
theorem rlong_nil (w : World) : Calls Try.prog 26 #[.pointer none] w fun e w' => e = .returned (.int .i64 0) ∧ w = w' := by
  go_enter Try.func26, Try.ntmps26
  go_wp2_with fail
  refine (number_nil _ _).mono ?_
  rintro e w' ⟨rfl, rfl⟩
  go_wp2_with fail
  go_ret
  exact ⟨rfl, rfl⟩
theorem rbits_nil (w : World) : Calls Try.prog 27 #[.pointer none] w fun e w' => e = .returned (.int .u64 0) ∧ w = w' := by
  go_enter Try.func27, Try.ntmps27
  go_wp2_with fail
  refine (number_nil _ _).mono ?_
  rintro e w' ⟨rfl, rfl⟩
  go_wp2_with fail
  go_ret
  exact ⟨rfl, rfl⟩
theorem rtext_nil (w : World) : Calls Try.prog 28 #[.pointer none] w fun e w' => e = .returned (.string ⟨#[]⟩) ∧ w = w' := by
  go_enter Try.func28, Try.ntmps28
  go_wp2_with fail
  go_ret
  exact ⟨rfl, rfl⟩
theorem left_nil (w : World) : Calls Try.prog 13 #[.pointer none] w fun e w' => e = .returned (.int .i64 0) ∧ w = w' := by
  go_enter Try.func13, Try.ntmps13
  go_wp2_with fail
  go_ret
  exact ⟨rfl, rfl⟩
theorem end_nil (w : World) : Calls Try.prog 14 #[.pointer none] w fun e w' => e = .returned (.int .i64 1) ∧ w = w' := by
  go_enter Try.func14, Try.ntmps14
  go_wp2_with fail
  go_ret
  exact ⟨rfl, rfl⟩

/-- How many bytes were written. -/
theorem wlen_any (B p : Nat) (ob : Option Nat) (s : W) (w : World) (h : PWr w B p ob s) :
    Calls Try.prog 20 #[.pointer (some ⟨p, 0, none⟩)] w fun e w' => e = .returned (.int .i64 s.out.length) ∧ w = w' := by
  obtain ⟨v, h0, h1, h2, hf, ho, hob⟩ := h.cells
  obtain ⟨a, c, rfl⟩ := owns_slice ho
  clear h h1 h2 hf ho hob
  go_enter Try.func20, Try.ntmps20
  go_wp2_with fail
  go_ret
  exact ⟨rfl, rfl⟩

/-- How a reading ends. -/
theorem end_any (p : Nat) (text : ByteArray) (s : R) (w : World) (h : PRd w p text s) :
    Calls Try.prog 14 #[.pointer (some ⟨p, 0, none⟩)] w fun e w' => e = .returned (.int .i64 (endE s)) ∧ ∃ q, w' = w.drewN q := by
  have H := Lib.hid h
  obtain ⟨at0, ha, hts, hb, hrest⟩ := h
  have h2 : w.cell? ⟨p, 2, none⟩ = some (.bool s.bad) := by rw [blk_cell hb]; rfl
  clear hb hrest ha hts
  cases hbad : s.bad with
  | true =>
    have he := Lib.hid (show endE s = 2 by rw [endE, if_pos hbad])
    rw [hbad] at h2
    clear hbad
    go_enter Try.func14, Try.ntmps14
    go_wp2_with fail
    go_ret
    exact ⟨by rw [he.out]; rfl, 0, rfl⟩
  | false =>
    rw [hbad] at h2
    have CL := Lib.hid (left_any p text s w H.out)
    by_cases hl : 0 < s.rest.length
    · have he := Lib.hid (show endE s = 5 by rw [endE, if_neg (by simp [hbad]), if_pos (by omega)])
      clear hbad
      generalize s.rest.length = L at *
      go_enter Try.func14, Try.ntmps14
      go_wp2_with fail
      refine CL.out.mono ?_
      rintro e w' ⟨rfl, q, rfl⟩
      go_wp2_with fail
      go_ret
      exact ⟨by rw [he.out]; rfl, q, rfl⟩
    · have he := Lib.hid (show endE s = 0 by rw [endE, if_neg (by simp [hbad]), if_neg (by omega)])
      have hl0 : s.rest.length = 0 := by omega
      rw [hl0] at CL
      clear hbad hl hl0
      go_enter Try.func14, Try.ntmps14
      go_wp2_with fail
      refine CL.out.mono ?_
      rintro e w' ⟨rfl, q, rfl⟩
      go_wp2_with fail
      go_ret
      exact ⟨by rw [he.out]; rfl, q, rfl⟩
end Go.Proofs.Ytldlkhnhpbonkaa
