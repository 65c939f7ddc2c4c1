/- CouncilTexts: bytes of configurations, and what bytes are read as, are what the document says: for every input the law returns true, and its arguments read as before. No condition. -/
import Derived.Test.YtgkcgfckhmplaaaLift
import Derived.Test.YtgkcgfckhmplaaaJoW5
import Derived.Test.YtgkcgfckhmplaaaReR
namespace Go.Proofs.Ytgkcgfckhmplaaa.councilTexts
open Go.ChangeShapes Go.WideShapes Go.ChangeAt Go.RowKit
set_option linter.unusedVariables false

set_option maxHeartbeats 400000 in
theorem walk (w : World) (p : Int) (a : Option Addr) (n c : Nat) (l : List Int) (hp : i64 p) (hI : IntsAt w a n l) (hc : (a = none → c = 0) ∧ n ≤ c ∧ c * 8 ≤ 140737488351232) (text : ByteArray) (hts : text.size ≤ 140737488351232) :
    Calls Try.prog 9 #[.agg #[.int .i64 p, .slice a n c], .string text] w fun e w' => e = .returned (.bool true) ∧ Below w.heap.size w w' := by
  have HI := Lib.hid (hI.alloc (.cells #[.int .i64 p, .slice a n c] 30))
  have C1 := Lib.hid (fun w' => read_conf text w' hts)
  have C2 := Lib.hid (fun w' => rread_conf text w' hts)
  clear hI hts hc
  go_enter Try.func9, Try.ntmps9
  go_wp2_with fail
  refine (lives_any _).mono ?_
  rintro e w1 ⟨rfl, b1⟩
  have q0 := below_cell b1 (b := w.heap.size) (o := 0) (v := .int .i64 p) (by simp)
  have q1 := below_cell b1 (b := w.heap.size) (o := 1) (v := .slice a n c) (by simp)
  replace HI := Lib.hid (HI.out.below b1)
  have B := Lib.hid (bthen (below_alloc w _) b1); clear b1
  go_wp2_with fail
  refine (text_any p a n c l _ HI.out).mono ?_
  rintro e w2 ⟨rfl, b2⟩
  replace q0 := below_cell b2 q0; replace q1 := below_cell b2 q1; replace HI := Lib.hid (HI.out.below b2); replace B := Lib.hid (bthen B.out b2); clear b2
  go_wp2_with fail
  refine (rtext_any p a n c l _ HI.out).mono ?_
  rintro e w3 ⟨rfl, b3⟩
  replace B := Lib.hid (bthen B.out b3); clear b3 q0 q1 HI
  generalize textS p l = S
  generalize textE p l = E
  go_wp2_with fail
  refine (C1.out _).mono ?_
  rintro e w4 ⟨a4, n4, c4, rfl, h4, b4⟩
  replace B := Lib.hid (bthen B.out b4); clear b4
  replace h4 := Lib.hid (h4.alloc (.cells #[.int .i64 (readE text.data.toList), .slice a4 n4 c4] 30))
  have x0 : (w4.alloc (.cells #[.int .i64 (readE text.data.toList), .slice a4 n4 c4] 30)).cell? ⟨w4.heap.size, 0, none⟩ = some (.int .i64 (readE text.data.toList)) := by simp
  have x1 : (w4.alloc (.cells #[.int .i64 (readE text.data.toList), .slice a4 n4 c4] 30)).cell? ⟨w4.heap.size, 1, none⟩ = some (.slice a4 n4 c4) := by simp
  go_wp2_with fail
  refine (C2.out _).mono ?_
  rintro e w5 ⟨a5, n5, c5, rfl, h5, b5⟩
  replace x0 := below_cell b5 x0; replace x1 := below_cell b5 x1
  replace h4 := Lib.hid ((h4.out.below b5).alloc (.cells #[.int .i64 (readE text.data.toList), .slice a5 n5 c5] 30))
  replace h5 := Lib.hid (h5.alloc (.cells #[.int .i64 (readE text.data.toList), .slice a5 n5 c5] 30))
  replace B := Lib.hid (bthen B.out (bthen (below_alloc _ _) b5)); clear b5 C1 C2
  replace x0 := below_cell (below_alloc w5 (.cells #[.int .i64 (readE text.data.toList), .slice a5 n5 c5] 30)) x0
  replace x1 := below_cell (below_alloc w5 (.cells #[.int .i64 (readE text.data.toList), .slice a5 n5 c5] 30)) x1
  generalize readE text.data.toList = E2 at *
  generalize readC text.data.toList = C at *
  generalize readL text.data.toList = L at *
  go_wp2_with (refine (same_eq _ _ _ _ _ _ _ _ _ h4.out h5.out).mono ?_; rintro e w6 ⟨rfl, b6⟩)
  go_ret
  exact ⟨rfl, bthen (balloc B.out _) b6⟩

set_option maxRecDepth 100000 in
theorem lifted (os : Os) (started : os.Started) (H : Type) (enc : TypeId × Value → H) :
    ReturnsInHanded {} Try.checked os 9 .any (Rows.councilTextsSpec.pre6 enc Try.prog Try.f9 Rows.councilTextsRow.domain false) (Rows.councilTextsSpec.post enc Try.prog Try.f9 false true false false) := by
  refine returnsInHanded_of_change_sized (C := Try.checked) own started (by kernel_rfl) Try.func9
    (ChangeSpec.witness6 (enc := enc) (C := Try.checked) false ⟨#[], #[.agg #[.int .i64 0, .slice none 0 0], .string ⟨#[]⟩], []⟩ 8 (by kernel_rfl) (by kernel_rfl) (by kernel_rfl) (by kernel_rfl)) ?_
  intro W base args ds gs before hval0 hW hcnd hsz _
  have hval : ∀ (j : Nat) t v, Try.f9.params[j]? = some t → args[j]? = some v → Value.okWide Try.prog W .any base t v := hval0
  have hW' := hW
  obtain ⟨p, q, hA0, hV, rfl, hfz, hnd⟩ := hW
  have hA : DataW.TrodAll enc Try.prog W 0 (fun _ => true) true Try.f9.params.toList args.toList ds p := hA0
  rw [Try.params9] at hA hval hsz
  have hA2 := hA
  obtain ⟨v0, vs0, d0, ds0, p0, q0, hargs, rfl, rfl, h0, r0⟩ := trodAll_cons hA
  obtain ⟨v1, vs1, d1, ds1, p1, q1, rfl, rfl, rfl, h1, r1⟩ := trodAll_cons r0
  obtain ⟨rfl, rfl, rfl⟩ := trodAll_nil r1
  obtain rfl : args = #[v0, v1] := by cases args; simp_all
  obtain ⟨rfl, rfl⟩ := trodVars_none hV
  clear hargs
  have k0 := hval 0 30 v0 rfl rfl
  obtain ⟨fu0, m0⟩ := h0
  have w0 := weights_of hsz (j := 0) (t := 30) rfl rfl
  have s0 := cells_agg Try.underlying30 k0
  obtain ⟨p0, a0, n0, c0, l0, e0, g0, f0⟩ := view_conf Try.underlying30 rfl rfl (by kernel_rfl) (by kernel_rfl) (by kernel_rfl) Try.underlying3 Try.underlying28 Try.underlying3 (by kernel_rfl) (by kernel_rfl) m0 w0
  obtain ⟨z0, s01, s02⟩ := s0
  have e0' := agg_of ⟨s01, s02⟩ e0
  subst e0'
  have k1 := hval 1 9 v1 rfl rfl
  obtain ⟨fu1, m1⟩ := h1
  have w1 := weights_of hsz (j := 1) (t := 9) rfl rfl
  obtain ⟨a1, e1, f1⟩ := view_string Try.underlying9 m1 w1
  have e1' := string_of Try.underlying9 k1 e1
  subst e1'
  refine (walk W p0 a0 n0 c0 l0 g0 f0.1 f0.2 a1 f1).mono fun e W' ⟨he, bel⟩ => ?_
  subst he
  exact ⟨_, rfl, _, _, _, [], _, [], hW', trodAll_mk1 (shut_bool Try.underlying4 _), trodAll_again laidOut bel (by kernel_rfl) hA2, rfl, bel.frame _, fun h => by cases h⟩

theorem over : Rows.councilTextsRow.holds Try.pinned (OpenSpec.ofChange Rows.councilTextsSpec) :=
  OpenClaim.holds_of_wide 9 Try.f9 rfl rfl rfl rfl rfl rfl rfl ⟨rfl, rfl, rfl, rfl, rfl⟩ rfl rfl rfl rfl rfl (by kernel_rfl) Try.func9 (by kernel_rfl)
    (of_decide_eq_true (by kernel_rfl)) (by unfold Func.isWrapper; first | (rw [if_pos (by decide +kernel)]; kernel_rfl) | (rw [if_neg (by decide +kernel)]; exact ⟨rfl, rfl⟩))
    (fun os started H enc _ => lifted os started H enc)

theorem proved : Rows.CouncilTextsSaid := over
#print axioms proved
end Go.Proofs.Ytgkcgfckhmplaaa.councilTexts
