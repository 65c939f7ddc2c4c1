/- CouncilMeets: any two sets of members that are quorums have a weak quorum in common: for every input the law returns true, and its arguments read as before. No condition. -/
import Derived.Test.YtgkcgfckhmplaaaLift
import Derived.Test.YtgkcgfckhmplaaaMeetW
namespace Go.Proofs.Ytgkcgfckhmplaaa.councilMeets
open Go.ChangeShapes Go.WideShapes Go.ChangeAt Go.RowKit
set_option linter.unusedVariables false

theorem num_of (n : Int) : ∃ m : Nat, wrap64 (1 + wrap64 ((IntKind.u64.wrap n).tmod 60)) = (m : Int) ∧ 1 ≤ m ∧ m ≤ 60 := by
  have h : 0 ≤ IntKind.u64.wrap n := by rw [IntKind.wrap_u64]; omega
  rw [Int.tmod_eq_emod_of_nonneg h]
  generalize IntKind.u64.wrap n = u at *
  have : wrap64 (u % 60) = u % 60 := by rw [wrap64]; omega
  rw [this]
  refine ⟨(1 + u % 60).toNat, ?_, by omega, by omega⟩
  rw [wrap64]; omega

theorem facts (m : Nat) (h1 : 1 ≤ m) : ∃ f q : Int, faultsP m = f ∧ quorumP m = q ∧ weakP m = f + 1 ∧ 0 ≤ f ∧ 3 * f ≤ m - 1 ∧ (m : Int) - 1 < 3 * f + 3 ∧ 2 * q ≥ m + f + 1 ∧ q ≤ m - f := by
  have h : ¬ (m : Int) < 1 := by omega
  refine ⟨_, _, rfl, rfl, weakP_hi m h, ?_⟩
  rw [quorumP_hi m h, faultsP_hi m h]; omega

set_option maxHeartbeats 400000 in
theorem walk (w : World) (n : Int) (hn : i64 n) (a : Int) (ha : 0 ≤ a ∧ a ≤ 18446744073709551615) (b : Int) (hb : 0 ≤ b ∧ b ≤ 18446744073709551615) :
    Calls Try.prog 4 #[.int .i64 n, .int .u64 a, .int .u64 b] w fun e w' => e = .returned (.bool true) ∧ Below w.heap.size w w' := by
  obtain ⟨h1, h2⟩ := hn
  obtain ⟨ha, ha2⟩ := ha
  obtain ⟨hb, hb2⟩ := hb
  obtain ⟨m, hm, m1, m2⟩ := num_of n
  have Hm := Lib.hid hm; clear hm
  obtain ⟨f, q, hf, hq, hw, f0, f1, f2, q1, q2⟩ := facts m m1
  have CF := fun w => faults_any m w (by omega) (by omega)
  have CQ := fun w => quorum_any m w (by omega) (by omega)
  have CW := fun w => weak_any m w (by omega) (by omega)
  have CA := fun w => picked_any m a a w (by omega) ha ha ha2 ha2
  have CB := fun w => picked_any m b b w (by omega) hb hb hb2 hb2
  have CAB := fun w => picked_any m a b w (by omega) ha hb ha2 hb2
  rw [hf] at CF
  rw [hq] at CQ
  rw [hw] at CW
  clear hf hq hw
  replace CF := Lib.hid CF; replace CQ := Lib.hid CQ; replace CW := Lib.hid CW
  have hA := cntB_le (bothB a a) m
  have hB := cntB_le (bothB b b) m
  have hAB := cntB_le (bothB a b) m
  have hmeet := cntB_meet (bitB a) (bitB b) m
  rw [show (fun i => bitB a i && bitB b i) = bothB a b from rfl, ← bothB_self a, ← bothB_self b] at hmeet
  generalize hcA : cntB (bothB a a) m = cA at *
  generalize hcB : cntB (bothB b b) m = cB at *
  generalize hcAB : cntB (bothB a b) m = cAB at *
  replace CA := Lib.hid CA; replace CB := Lib.hid CB; replace CAB := Lib.hid CAB
  clear hcA hcB hcAB
  go_enter Try.func4, Try.ntmps4
  go_wp2_with (first | (go_at_call 11; refine (lives_any _).mono ?_; rintro e w' ⟨rfl, hbel⟩))
  rw [Hm.out]
  go_wp2_with fail
  refine (CF.out _).mono ?_; rintro e w'' ⟨rfl, rfl⟩
  go_wp2_with fail
  refine (CQ.out _).mono ?_; rintro e w'' ⟨rfl, rfl⟩
  go_wp2_with fail
  refine (CW.out _).mono ?_; rintro e w'' ⟨rfl, rfl⟩
  by_cases g1 : (cA : Int) < q
  · go_wp2_with (refine (CA.out _).mono ?_; rintro e w'' ⟨rfl, rfl⟩)
    go_ret
    exact ⟨rfl, hbel⟩
  · by_cases g2 : (cB : Int) < q
    · go_wp2_with fail
      refine (CA.out _).mono ?_; rintro e w'' ⟨rfl, rfl⟩
      go_wp2_with fail
      refine (CB.out _).mono ?_; rintro e w'' ⟨rfl, rfl⟩
      go_wp2_with fail
      go_ret
      exact ⟨rfl, hbel⟩
    · have g3 : f + 1 ≤ (cAB : Int) := by omega
      go_wp2_with fail
      refine (CA.out _).mono ?_; rintro e w'' ⟨rfl, rfl⟩
      go_wp2_with fail
      refine (CB.out _).mono ?_; rintro e w'' ⟨rfl, rfl⟩
      go_wp2_with fail
      refine (CAB.out _).mono ?_; rintro e w'' ⟨rfl, rfl⟩
      go_wp2_with fail
      go_ret
      exact ⟨rfl, hbel⟩
set_option maxRecDepth 100000 in
theorem lifted (os : Os) (started : os.Started) (H : Type) (enc : TypeId × Value → H) :
    ReturnsInHanded {} Try.checked os 4 .any (Rows.councilMeetsSpec.pre6 enc Try.prog Try.f4 Rows.councilMeetsRow.domain false) (Rows.councilMeetsSpec.post enc Try.prog Try.f4 false true false false) := by
  refine returnsInHanded_of_change (C := Try.checked) own started (by kernel_rfl) Try.func4
    (ChangeSpec.witness6 (enc := enc) (C := Try.checked) false ⟨#[], #[.int .i64 0, .int .u64 0, .int .u64 0], []⟩ 8 (by kernel_rfl) (by kernel_rfl) (by kernel_rfl) (by kernel_rfl)) ?_
  intro W base args ds gs before hval0 hW hcnd _
  have hval : ∀ (j : Nat) t v, Try.f4.params[j]? = some t → args[j]? = some v → Value.okWide Try.prog W .any base t v := hval0
  have hW' := hW
  obtain ⟨p, q, hA0, hV, rfl, hfz, hnd⟩ := hW
  have hA : DataW.TrodAll enc Try.prog W 0 (fun _ => true) true Try.f4.params.toList args.toList ds p := hA0
  rw [Try.params4] at hA hval
  have hA2 := hA
  obtain ⟨v0, vs0, d0, ds0, p0, q0, hargs, rfl, rfl, h0, r0⟩ := trodAll_cons hA
  obtain ⟨v1, vs1, d1, ds1, p1, q1, rfl, rfl, rfl, h1, r1⟩ := trodAll_cons r0
  obtain ⟨v2, vs2, d2, ds2, p2, q2, rfl, rfl, rfl, h2, r2⟩ := trodAll_cons r1
  obtain ⟨rfl, rfl, rfl⟩ := trodAll_nil r2
  obtain rfl : args = #[v0, v1, v2] := by cases args; simp_all
  obtain ⟨rfl, rfl⟩ := trodVars_none hV
  clear hargs
  have k0 := hval 0 3 v0 rfl rfl
  obtain ⟨fu0, m0⟩ := h0
  obtain ⟨a0, e0, f0⟩ := view_int Try.underlying3 m0
  have e0' := int_of Try.underlying3 k0 e0
  subst e0'
  have k1 := hval 1 25 v1 rfl rfl
  obtain ⟨fu1, m1⟩ := h1
  obtain ⟨a1, e1, f1⟩ := view_uint Try.underlying25 m1
  have e1' := int_of Try.underlying25 k1 e1
  subst e1'
  have k2 := hval 2 25 v2 rfl rfl
  obtain ⟨fu2, m2⟩ := h2
  obtain ⟨a2, e2, f2⟩ := view_uint Try.underlying25 m2
  have e2' := int_of Try.underlying25 k2 e2
  subst e2'
  refine (walk W a0 f0 a1 f1 a2 f2).mono fun e W' ⟨he, bel⟩ => ?_
  subst he
  exact ⟨_, rfl, _, _, _, [], _, [], hW', trodAll_mk1 (shut_bool Try.underlying4 _), trodAll_again laidOut bel (by kernel_rfl) hA2, rfl, bel.frame _, fun h => by cases h⟩

theorem over : Rows.councilMeetsRow.holds Try.pinned (OpenSpec.ofChange Rows.councilMeetsSpec) :=
  OpenClaim.holds_of_wide 4 Try.f4 rfl rfl rfl rfl rfl rfl rfl ⟨rfl, rfl, rfl, rfl, rfl⟩ rfl rfl rfl rfl rfl (by kernel_rfl) Try.func4 (by kernel_rfl)
    (of_decide_eq_true (by kernel_rfl)) (by unfold Func.isWrapper; first | (rw [if_pos (by decide +kernel)]; kernel_rfl) | (rw [if_neg (by decide +kernel)]; exact ⟨rfl, rfl⟩))
    (fun os started H enc _ => lifted os started H enc)

theorem proved : Rows.CouncilMeetsSaid := over
#print axioms proved
end Go.Proofs.Ytgkcgfckhmplaaa.councilMeets
