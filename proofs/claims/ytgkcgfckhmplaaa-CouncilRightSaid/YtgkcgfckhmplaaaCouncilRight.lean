/- CouncilRight: which configurations are right, and who is a member, is what the document says: for every input the law returns true, and its arguments read as before. No condition. -/
import Derived.Test.YtgkcgfckhmplaaaLift
import Derived.Test.YtgkcgfckhmplaaaCoW3
import Derived.Test.YtgkcgfckhmplaaaQuiet
namespace Go.Proofs.Ytgkcgfckhmplaaa.councilRight
open Go.ChangeShapes Go.WideShapes Go.ChangeAt Go.RowKit
set_option linter.unusedVariables false

set_option maxHeartbeats 400000 in
theorem walk (w : World) (p : Int) (a : Option Addr) (n c : Nat) (l : List Int) (hp : i64 p) (hI : IntsAt w a n l) (hc : (a = none → c = 0) ∧ n ≤ c ∧ c ≤ maxLen) (id : Int) (hid : i64 id) :
    Calls Try.prog 5 #[.agg #[.int .i64 p, .slice a n c], .int .i64 id] w fun e w' => e = .returned (.bool true) ∧ Below w.heap.size w w' := by
  have HI := Lib.hid hI; clear hI
  clear hc hp hid
  go_enter Try.func5, Try.ntmps5
  go_wp2_with fail
  refine (lives_any _).mono ?_
  rintro e w1 ⟨rfl, b1⟩
  have hz1 := b1.size
  simp only [World.size_alloc] at hz1
  have q0 := below_cell b1 (b := w.heap.size) (o := 0) (v := .int .i64 p) (by simp)
  have q1 := below_cell b1 (b := w.heap.size) (o := 1) (v := .slice a n c) (by simp)
  have HI1 := Lib.hid ((HI.out.alloc (.cells #[.int .i64 p, .slice a n c] 30)).below b1)
  have B1 := Lib.hid b1
  clear HI b1
  go_wp2_with fail
  have hz2 : w.heap.size < w1.heap.size := by omega
  refine wp_region_below (by kernel_rfl) (by kernel_rfl) ?_
  repeat (refine wpQuiet_step (fun K hK => ?_); go_simp; first | (refine hK _ ?_; clear hK K) | (apply Exists.intro; refine ⟨fun w' hw' => ?_, hK _ ?_⟩; (first | (go_at_call 19; exact Calls.quiet_below hw' (right_any p a n c l _ (HI1.out.below hw'))) | (go_at_call 20; exact Calls.quiet_below hw' (rright_any p a n c l _ (HI1.out.below hw'))) | (go_at_call 21; exact Calls.quiet_below hw' (has_any p a n c l id _ (HI1.out.below hw'))) | (go_at_call 22; exact Calls.quiet_below_same hw' (rhas_any a n c l id _ (HI1.out.below hw'))) | (obtain ⟨cc, dd⟩ := bcell hw'; go_simp; rfl) | (with_reducible rfl)); clear hK K))
  refine wpQuiet_nil ?_
  intro w2 hb
  go_wp2_with fail
  go_ret
  exact ⟨rfl, (((Below.refl _ _).alloc (Nat.le_refl _) _).trans (B1.out.mono (by simp))).trans (hb.mono (by omega))⟩

set_option maxRecDepth 100000 in
theorem lifted (os : Os) (started : os.Started) (H : Type) (enc : TypeId × Value → H) :
    ReturnsInHanded {} Try.checked os 5 .any (Rows.councilRightSpec.pre6 enc Try.prog Try.f5 Rows.councilRightRow.domain false) (Rows.councilRightSpec.post enc Try.prog Try.f5 false true false false) := by
  refine returnsInHanded_of_change (C := Try.checked) own started (by kernel_rfl) Try.func5
    (ChangeSpec.witness6 (enc := enc) (C := Try.checked) false ⟨#[], #[.agg #[.int .i64 0, .slice none 0 0], .int .i64 0], []⟩ 8 (by kernel_rfl) (by kernel_rfl) (by kernel_rfl) (by kernel_rfl)) ?_
  intro W base args ds gs before hval0 hW hcnd _
  have hval : ∀ (j : Nat) t v, Try.f5.params[j]? = some t → args[j]? = some v → Value.okWide Try.prog W .any base t v := hval0
  have hW' := hW
  obtain ⟨p, q, hA0, hV, rfl, hfz, hnd⟩ := hW
  have hA : DataW.TrodAll enc Try.prog W 0 (fun _ => true) true Try.f5.params.toList args.toList ds p := hA0
  rw [Try.params5] at hA hval
  have hA2 := hA
  obtain ⟨v0, vs0, d0, ds0, p0, q0, hargs, rfl, rfl, h0, r0⟩ := trodAll_cons hA
  obtain ⟨v1, vs1, d1, ds1, p1, q1, rfl, rfl, rfl, h1, r1⟩ := trodAll_cons r0
  obtain ⟨rfl, rfl, rfl⟩ := trodAll_nil r1
  obtain rfl : args = #[v0, v1] := by cases args; simp_all
  obtain ⟨rfl, rfl⟩ := trodVars_none hV
  clear hargs
  have k0 := hval 0 30 v0 rfl rfl
  obtain ⟨fu0, m0⟩ := h0
  have s0 := cells_agg Try.underlying30 k0
  obtain ⟨p0, a0, n0, c0, l0, e0, g0, f0⟩ := view_conf Try.underlying30 rfl rfl (by kernel_rfl) (by kernel_rfl) (by kernel_rfl) Try.underlying3 Try.underlying28 Try.underlying3 (by kernel_rfl) m0
  obtain ⟨z0, s01, s02⟩ := s0
  have e0' := agg_of ⟨s01, s02⟩ e0
  subst e0'
  have k1 := hval 1 3 v1 rfl rfl
  obtain ⟨fu1, m1⟩ := h1
  obtain ⟨a1, e1, f1⟩ := view_int Try.underlying3 m1
  have e1' := int_of Try.underlying3 k1 e1
  subst e1'
  refine (walk W p0 a0 n0 c0 l0 g0 f0.1 f0.2 a1 f1).mono fun e W' ⟨he, bel⟩ => ?_
  subst he
  exact ⟨_, rfl, _, _, _, [], _, [], hW', trodAll_mk1 (shut_bool Try.underlying4 _), trodAll_again laidOut bel (by kernel_rfl) hA2, rfl, bel.frame _, fun h => by cases h⟩

theorem over : Rows.councilRightRow.holds Try.pinned (OpenSpec.ofChange Rows.councilRightSpec) :=
  OpenClaim.holds_of_wide 5 Try.f5 rfl rfl rfl rfl rfl rfl rfl ⟨rfl, rfl, rfl, rfl, rfl⟩ rfl rfl rfl rfl rfl (by kernel_rfl) Try.func5 (by kernel_rfl)
    (of_decide_eq_true (by kernel_rfl)) (by unfold Func.isWrapper; first | (rw [if_pos (by decide +kernel)]; kernel_rfl) | (rw [if_neg (by decide +kernel)]; exact ⟨rfl, rfl⟩))
    (fun os started H enc _ => lifted os started H enc)

theorem proved : Rows.CouncilRightSaid := over
#print axioms proved
end Go.Proofs.Ytgkcgfckhmplaaa.councilRight
