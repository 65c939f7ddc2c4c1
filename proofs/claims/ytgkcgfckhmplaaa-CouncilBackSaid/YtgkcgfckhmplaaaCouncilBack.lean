/- CouncilBack: who joins is a member then, and no other one comes or goes; who joined and leaves leaves the members as they were, and the other way round: for every input the law returns true, and its arguments read as before. No condition. -/
import Derived.Test.YtgkcgfckhmplaaaLift
import Derived.Test.YtgkcgfckhmplaaaJoW6
import Derived.Test.YtgkcgfckhmplaaaBackP
namespace Go.Proofs.Ytgkcgfckhmplaaa.councilBack
open Go.ChangeShapes Go.WideShapes Go.ChangeAt Go.RowKit
set_option linter.unusedVariables false

set_option maxHeartbeats 400000 in
theorem walk_n (w : World) (p : Int) (a : Option Addr) (n c : Nat) (l : List Int) (hI : IntsAt w a n l) (hc : n ≤ c) (id : Int) (hid : i64 id) (other : Int) (h1 : joinE l id ≠ 0) (h2 : leaveE l id ≠ 0) :
    Calls Try.prog 8 #[.agg #[.int .i64 p, .slice a n c], .int .i64 id, .int .i64 other] w fun e w' => e = .returned (.bool true) ∧ Below w.heap.size w w' := by
  have HI := Lib.hid (hI.alloc (.cells #[.int .i64 p, .slice a n c] 30))
  have hfit := hI.fit
  have C1 := fun w' hw => join_any a n c l id w' hw hc hid
  have C2 := fun w' hw => leave_any a n c l id w' hw hc hid
  rw [joinP_no h1] at C1
  rw [leaveP_no h2] at C2
  replace C1 := Lib.hid C1; replace C2 := Lib.hid C2
  have e1 : (joinE l id == 0) = false := by simpa using h1
  have e2 : (leaveE l id == 0) = false := by simpa using h2
  generalize joinE l id = j1 at *
  generalize leaveE l id = j2 at *
  clear hI h1 h2 hfit
  go_enter Try.func8, Try.ntmps8
  go_wp2_with fail
  refine (lives_any _).mono ?_
  rintro e w1 ⟨rfl, b1⟩
  have q0 := below_cell b1 (b := w.heap.size) (o := 0) (v := .int .i64 p) (by simp)
  have q1 := below_cell b1 (b := w.heap.size) (o := 1) (v := .slice a n c) (by simp)
  replace HI := Lib.hid (HI.out.below b1)
  have B := Lib.hid (bthen (below_alloc w _) b1); clear b1
  go_wp2_with fail
  refine (C1.out _ HI.out).mono ?_
  intro e w2 hpost
  obtain ⟨ao, ca, rfl, _, _, _, b2⟩ := move_open hpost ⟨fun x hx => by (cases hx), by simp⟩
  replace q0 := below_cell b2 q0; replace q1 := below_cell b2 q1; replace HI := Lib.hid (HI.out.below b2); replace B := Lib.hid (bthen B.out b2); clear b2 hpost
  go_wp2_with fail
  refine (C2.out _ HI.out).mono ?_
  intro e w3 hpost
  obtain ⟨bo, cb, rfl, _, _, _, b3⟩ := move_open hpost ⟨fun x hx => by (cases hx), by simp⟩
  replace B := Lib.hid (bthen B.out b3); clear b3 hpost
  go_wp2_with fail
  go_ret
  exact ⟨rfl, B.out⟩

set_option maxHeartbeats 1000000 in
theorem walk_j (w : World) (p : Int) (a : Option Addr) (n c : Nat) (l : List Int) (hI : IntsAt w a n l) (hc : n ≤ c) (id : Int) (hid : i64 id) (other : Int) (h1 : joinE l id = 0) (h2 : leaveE l id ≠ 0) :
    Calls Try.prog 8 #[.agg #[.int .i64 p, .slice a n c], .int .i64 id, .int .i64 other] w fun e w' => e = .returned (.bool true) ∧ Below w.heap.size w w' := by
  have HI := Lib.hid (hI.alloc (.cells #[.int .i64 p, .slice a n c] 30))
  have hfit := hI.fit
  have C1 := fun w' hw => join_any a n c l id w' hw hc hid
  have C2 := fun w' hw => leave_any a n c l id w' hw hc hid
  rw [leaveP_no h2] at C2
  rw [h1] at C1
  have Fit := Lib.hid (joinP_fit (l := l) (id := id) hfit hid)
  have Bk := Lib.hid (back_join other h1)
  have Hfit := Lib.hid hfit
  have Hid0 := Lib.hid hid
  have e2 : (leaveE l id == 0) = false := by simpa using h2
  generalize leaveE l id = j2 at *
  generalize joinP l id = l' at *
  replace C1 := Lib.hid C1; replace C2 := Lib.hid C2
  clear hI h1 h2 hfit hid
  go_enter Try.func8, Try.ntmps8
  go_wp2_with fail
  refine (lives_any _).mono ?_
  rintro e w1 ⟨rfl, b1⟩
  have q0 := below_cell b1 (b := w.heap.size) (o := 0) (v := .int .i64 p) (by simp)
  have q1 := below_cell b1 (b := w.heap.size) (o := 1) (v := .slice a n c) (by simp)
  replace HI := Lib.hid (HI.out.below b1)
  have B := Lib.hid (bthen (below_alloc w _) b1); clear b1
  go_wp2_with fail
  refine (C1.out _ HI.out).mono ?_
  intro e w2 hpost
  obtain ⟨ao, ca, rfl, hia, hca, _, b2⟩ := move_open hpost Fit.out
  replace q0 := below_cell b2 q0; replace q1 := below_cell b2 q1; replace HI := Lib.hid (HI.out.below b2); replace B := Lib.hid (bthen B.out b2); clear b2 hpost
  have hn' := hia.len
  generalize l'.length = n' at *
  have HA := Lib.hid hia; clear hia hn'
  have hz2 := World.block_lt q0
  go_wp2_with fail
  have CL := leave_any ao n' ca l' id (w2.alloc (.cells #[.int .i64 p, .slice ao n' ca] 30)) (HA.out.alloc _) hca Hid0.out
  rw [Bk.out.err, Bk.out.back] at CL
  refine CL.mono ?_
  clear CL
  intro e w3 hpost
  have hlen := HI.out.len
  obtain ⟨bo, cb, rfl, hib, _, _, b3⟩ := move_open hpost ⟨Hfit.out, by have := (risingB_len Bk.out.ris).2; omega⟩
  rw [hlen] at hib
  have HB := Lib.hid hib
  have d0 := below_cell b3 (b := w2.heap.size) (o := 0) (v := .int .i64 p) (by simp)
  have d1 := below_cell b3 (b := w2.heap.size) (o := 1) (v := .slice ao n' ca) (by simp)
  have q0' := below_cell b3 (b := w.heap.size) (o := 0) (v := .int .i64 p) (by rw [World.cell?_alloc_past _ _ _ hz2]; exact q0)
  have q1' := below_cell b3 (b := w.heap.size) (o := 1) (v := .slice a n c) (by rw [World.cell?_alloc_past _ _ _ hz2]; exact q1)
  replace HI := Lib.hid ((HI.out.alloc _).below b3)
  replace HA := Lib.hid ((HA.out.alloc _).below b3)
  replace B := Lib.hid (bthen (balloc B.out _) b3)
  have hz3 := World.block_lt d0
  have hz3' := World.block_lt q0'
  have Hlen := Lib.hid hlen
  clear hpost b3 hib q0 q1 hlen
  rw [Hlen.out]
  go_wp2_with fail
  have S1 := fun w' (hw' : Below w3.heap.size w3 w') => Calls.quiet_below_drawn hw' (sameints_any bo n cb l a n c l w' (HB.out.below hw') (HI.out.below hw'))
  have H1 := fun w' (hw' : Below w3.heap.size w3 w') => Calls.quiet_below hw' (has_any p ao n' ca l' id w' (HA.out.below hw'))
  have H2 := fun w' (hw' : Below w3.heap.size w3 w') => Calls.quiet_below hw' (has_any p ao n' ca l' other w' (HA.out.below hw'))
  have H3 := fun w' (hw' : Below w3.heap.size w3 w') => Calls.quiet_below hw' (has_any p a n c l other w' (HI.out.below hw'))
  have R1 := fun w' (hw' : Below w3.heap.size w3 w') => Calls.quiet_below hw' (right_any p ao n' ca l' w' (HA.out.below hw'))
  have R2 := fun w' (hw' : Below w3.heap.size w3 w') => Calls.quiet_below hw' (right_any p a n c l w' (HI.out.below hw'))
  simp only [beq_self_eq_true] at S1
  simp only [Bk.out.has] at H1
  simp only [Bk.out.other] at H2
  simp only [rightB_same p Bk.out.ris Bk.out.ris'] at R1
  generalize hasB l other = h3 at *
  generalize rightB p l = r at *
  cases ho : other == id
  all_goals simp only [ho, Bool.true_or, Bool.false_or] at H2
  all_goals
    replace S1 := Lib.hid S1; replace H1 := Lib.hid H1; replace H2 := Lib.hid H2; replace H3 := Lib.hid H3; replace R1 := Lib.hid R1; replace R2 := Lib.hid R2
    refine wp_region_below (by kernel_rfl) (by kernel_rfl) ?_
    repeat (refine wpQuiet_step (fun K hK => ?_); go_simp; first | (refine hK _ ?_; clear hK K) | (apply Exists.intro; refine ⟨fun w' hw' => ?_, hK _ ?_⟩; (first | (go_at_call 29; exact S1.out _ hw') | (go_at_call 21; first | (with_reducible exact H1.out _ hw') | (with_reducible exact H2.out _ hw') | (with_reducible exact H3.out _ hw')) | (go_at_call 19; first | (with_reducible exact R1.out _ hw') | (with_reducible exact R2.out _ hw')) | (obtain ⟨cc, dd⟩ := bcell hw'; go_simp; rfl) | (with_reducible rfl)); clear hK K))
    refine wpQuiet_nil ?_
    intro w4 b4
    replace q0' := below_cell b4 q0'; replace q1' := below_cell b4 q1'; replace HI := Lib.hid (HI.out.below b4); replace B := Lib.hid (bthen B.out b4)
    clear b4 S1 H1 H2 H3 R1 R2 d0 d1
    go_wp2_with fail
    refine (C2.out _ HI.out).mono ?_
    intro e w5 hpost
    obtain ⟨co, cc, rfl, _, _, _, b5⟩ := move_open hpost ⟨fun x hx => by (cases hx), by simp⟩
    replace B := Lib.hid (bthen B.out b5); clear b5 hpost
    go_wp2_with fail
    go_ret
    exact ⟨rfl, B.out⟩

set_option maxHeartbeats 1000000 in
theorem walk_l (w : World) (p : Int) (a : Option Addr) (n c : Nat) (l : List Int) (hI : IntsAt w a n l) (hc : n ≤ c) (id : Int) (hid : i64 id) (other : Int) (h1 : joinE l id ≠ 0) (h2 : leaveE l id = 0) :
    Calls Try.prog 8 #[.agg #[.int .i64 p, .slice a n c], .int .i64 id, .int .i64 other] w fun e w' => e = .returned (.bool true) ∧ Below w.heap.size w w' := by
  have HI := Lib.hid (hI.alloc (.cells #[.int .i64 p, .slice a n c] 30))
  have hfit := hI.fit
  have C1 := fun w' hw => join_any a n c l id w' hw hc hid
  have C2 := fun w' hw => leave_any a n c l id w' hw hc hid
  rw [joinP_no h1] at C1
  rw [h2] at C2
  have Fit := Lib.hid (leaveP_fit (l := l) (id := id) hfit)
  have Bk := Lib.hid (back_leave other h2)
  have Hfit := Lib.hid hfit
  have Hid0 := Lib.hid hid
  have e1 : (joinE l id == 0) = false := by simpa using h1
  generalize joinE l id = j1 at *
  generalize leaveP l id = l' at *
  replace C1 := Lib.hid C1; replace C2 := Lib.hid C2
  clear hI h1 h2 hfit hid
  go_enter Try.func8, Try.ntmps8
  go_wp2_with fail
  refine (lives_any _).mono ?_
  rintro e w1 ⟨rfl, b1⟩
  have q0 := below_cell b1 (b := w.heap.size) (o := 0) (v := .int .i64 p) (by simp)
  have q1 := below_cell b1 (b := w.heap.size) (o := 1) (v := .slice a n c) (by simp)
  replace HI := Lib.hid (HI.out.below b1)
  have B := Lib.hid (bthen (below_alloc w _) b1); clear b1
  go_wp2_with fail
  refine (C1.out _ HI.out).mono ?_
  intro e wa hpost
  obtain ⟨aa, ca0, rfl, _, _, _, ba⟩ := move_open hpost ⟨fun x hx => by (cases hx), by simp⟩
  replace q0 := below_cell ba q0; replace q1 := below_cell ba q1; replace HI := Lib.hid (HI.out.below ba); replace B := Lib.hid (bthen B.out ba); clear ba hpost
  go_wp2_with fail
  refine (C2.out _ HI.out).mono ?_
  intro e w2 hpost
  obtain ⟨ao, ca, rfl, hia, hca, _, b2⟩ := move_open hpost Fit.out
  replace q0 := below_cell b2 q0; replace q1 := below_cell b2 q1; replace HI := Lib.hid (HI.out.below b2); replace B := Lib.hid (bthen B.out b2); clear b2 hpost
  have hn' := hia.len
  generalize l'.length = n' at *
  have HA := Lib.hid hia; clear hia hn'
  have hz2 := World.block_lt q0
  go_wp2_with fail
  have CL := join_any ao n' ca l' id (w2.alloc (.cells #[.int .i64 p, .slice ao n' ca] 30)) (HA.out.alloc _) hca Hid0.out
  rw [Bk.out.err, Bk.out.back] at CL
  refine CL.mono ?_
  clear CL
  intro e w3 hpost
  have hlen := HI.out.len
  obtain ⟨bo, cb, rfl, hib, _, _, b3⟩ := move_open hpost ⟨Hfit.out, by have := (risingB_len Bk.out.ris).2; omega⟩
  rw [hlen] at hib
  have HB := Lib.hid hib
  have d0 := below_cell b3 (b := w2.heap.size) (o := 0) (v := .int .i64 p) (by simp)
  have d1 := below_cell b3 (b := w2.heap.size) (o := 1) (v := .slice ao n' ca) (by simp)
  have q0' := below_cell b3 (b := w.heap.size) (o := 0) (v := .int .i64 p) (by rw [World.cell?_alloc_past _ _ _ hz2]; exact q0)
  have q1' := below_cell b3 (b := w.heap.size) (o := 1) (v := .slice a n c) (by rw [World.cell?_alloc_past _ _ _ hz2]; exact q1)
  replace HI := Lib.hid ((HI.out.alloc _).below b3)
  replace HA := Lib.hid ((HA.out.alloc _).below b3)
  replace B := Lib.hid (bthen (balloc B.out _) b3)
  have hz3 := World.block_lt d0
  have hz3' := World.block_lt q0'
  have Hlen := Lib.hid hlen
  clear hpost b3 hib q0 q1 hlen
  rw [Hlen.out]
  go_wp2_with fail
  have S1 := fun w' (hw' : Below w3.heap.size w3 w') => Calls.quiet_below_drawn hw' (sameints_any bo n cb l a n c l w' (HB.out.below hw') (HI.out.below hw'))
  have H1 := fun w' (hw' : Below w3.heap.size w3 w') => Calls.quiet_below hw' (has_any p ao n' ca l' id w' (HA.out.below hw'))
  have H2 := fun w' (hw' : Below w3.heap.size w3 w') => Calls.quiet_below hw' (has_any p ao n' ca l' other w' (HA.out.below hw'))
  have H3 := fun w' (hw' : Below w3.heap.size w3 w') => Calls.quiet_below hw' (has_any p a n c l other w' (HI.out.below hw'))
  simp only [beq_self_eq_true] at S1
  simp only [Bk.out.has] at H1
  simp only [Bk.out.other] at H2
  generalize hasB l other = h3 at *
  cases ho : other != id
  all_goals simp only [ho, Bool.true_and, Bool.false_and] at H2
  all_goals
    replace S1 := Lib.hid S1; replace H1 := Lib.hid H1; replace H2 := Lib.hid H2; replace H3 := Lib.hid H3
    refine (S1.out _ (Below.refl _ _)).mono ?_; rintro e w4 ⟨rfl, b4⟩
    have x0 := below_cell b4 d0; have x1 := below_cell b4 d1
    go_wp2_with fail
    refine (H1.out _ b4).mono ?_; rintro e w5 ⟨rfl, b5⟩
    clear x0 x1
    have x0 := below_cell b5 d0; have x1 := below_cell b5 d1; have y0 := below_cell b5 q0'; have y1 := below_cell b5 q1'
    go_wp2_with fail
    refine (H2.out _ b5).mono ?_; rintro e w6 ⟨rfl, b6⟩
    clear x0 x1 y0 y1
    have y0 := below_cell b6 q0'; have y1 := below_cell b6 q1'
    go_wp2_with (refine (H3.out _ b6).mono ?_; rintro e w7 ⟨rfl, b7⟩)
    go_ret
    first | exact ⟨rfl, bthen B.out b7⟩ | exact ⟨rfl, bthen B.out b6⟩

theorem walk (w : World) (p : Int) (a : Option Addr) (n c : Nat) (l : List Int) (hp : i64 p) (hI : IntsAt w a n l) (hc : (a = none → c = 0) ∧ n ≤ c ∧ c * 8 ≤ 140737488351232) (id : Int) (hid : i64 id) (other : Int) (hother : i64 other) :
    Calls Try.prog 8 #[.agg #[.int .i64 p, .slice a n c], .int .i64 id, .int .i64 other] w fun e w' => e = .returned (.bool true) ∧ Below w.heap.size w w' := by
  by_cases h1 : joinE l id = 0
  · refine walk_j w p a n c l hI hc.2.1 id hid other h1 fun h2 => ?_
    have a1 := (joinE_0 h1).2.1
    rw [(leaveE_0 h2).2.1] at a1
    cases a1
  · by_cases h2 : leaveE l id = 0
    · exact walk_l w p a n c l hI hc.2.1 id hid other h1 h2
    · exact walk_n w p a n c l hI hc.2.1 id hid other h1 h2

set_option maxRecDepth 100000 in
theorem lifted (os : Os) (started : os.Started) (H : Type) (enc : TypeId × Value → H) :
    ReturnsInHanded {} Try.checked os 8 .any (Rows.councilBackSpec.pre6 enc Try.prog Try.f8 Rows.councilBackRow.domain false) (Rows.councilBackSpec.post enc Try.prog Try.f8 false true false false) := by
  refine returnsInHanded_of_change_sized (C := Try.checked) own started (by kernel_rfl) Try.func8
    (ChangeSpec.witness6 (enc := enc) (C := Try.checked) false ⟨#[], #[.agg #[.int .i64 0, .slice none 0 0], .int .i64 0, .int .i64 0], []⟩ 8 (by kernel_rfl) (by kernel_rfl) (by kernel_rfl) (by kernel_rfl)) ?_
  intro W base args ds gs before hval0 hW hcnd hsz _
  have hval : ∀ (j : Nat) t v, Try.f8.params[j]? = some t → args[j]? = some v → Value.okWide Try.prog W .any base t v := hval0
  have hW' := hW
  obtain ⟨p, q, hA0, hV, rfl, hfz, hnd⟩ := hW
  have hA : DataW.TrodAll enc Try.prog W 0 (fun _ => true) true Try.f8.params.toList args.toList ds p := hA0
  rw [Try.params8] at hA hval hsz
  have hA2 := hA
  obtain ⟨v0, vs0, d0, ds0, p0, q0, hargs, rfl, rfl, h0, r0⟩ := trodAll_cons hA
  obtain ⟨v1, vs1, d1, ds1, p1, q1, rfl, rfl, rfl, h1, r1⟩ := trodAll_cons r0
  obtain ⟨v2, vs2, d2, ds2, p2, q2, rfl, rfl, rfl, h2, r2⟩ := trodAll_cons r1
  obtain ⟨rfl, rfl, rfl⟩ := trodAll_nil r2
  obtain rfl : args = #[v0, v1, v2] := by cases args; simp_all
  obtain ⟨rfl, rfl⟩ := trodVars_none hV
  clear hargs
  have k0 := hval 0 30 v0 rfl rfl
  obtain ⟨fu0, m0⟩ := h0
  have w0 := weights_of hsz (j := 0) (t := 30) rfl rfl
  have s0 := cells_agg Try.underlying30 k0
  obtain ⟨p0, a0, n0, c0, l0, e0, g0, f0⟩ := view_conf Try.underlying30 rfl rfl (by kernel_rfl) (by kernel_rfl) (by kernel_rfl) Try.underlying3 Try.underlying28 Try.underlying3 (by kernel_rfl) (by kernel_rfl) m0 w0
  obtain ⟨z0, s01, s02⟩ := s0
  have e0' := agg_of ⟨s01, s02⟩ e0
  subst e0'
  have k1 := hval 1 3 v1 rfl rfl
  obtain ⟨fu1, m1⟩ := h1
  have w1 := weights_of hsz (j := 1) (t := 3) rfl rfl
  obtain ⟨a1, e1, f1⟩ := view_int Try.underlying3 m1
  have e1' := int_of Try.underlying3 k1 e1
  subst e1'
  have k2 := hval 2 3 v2 rfl rfl
  obtain ⟨fu2, m2⟩ := h2
  have w2 := weights_of hsz (j := 2) (t := 3) rfl rfl
  obtain ⟨a2, e2, f2⟩ := view_int Try.underlying3 m2
  have e2' := int_of Try.underlying3 k2 e2
  subst e2'
  refine (walk W p0 a0 n0 c0 l0 g0 f0.1 f0.2 a1 f1 a2 f2).mono fun e W' ⟨he, bel⟩ => ?_
  subst he
  exact ⟨_, rfl, _, _, _, [], _, [], hW', trodAll_mk1 (shut_bool Try.underlying4 _), trodAll_again laidOut bel (by kernel_rfl) hA2, rfl, bel.frame _, fun h => by cases h⟩

theorem over : Rows.councilBackRow.holds Try.pinned (OpenSpec.ofChange Rows.councilBackSpec) :=
  OpenClaim.holds_of_wide 8 Try.f8 rfl rfl rfl rfl rfl rfl rfl ⟨rfl, rfl, rfl, rfl, rfl⟩ rfl rfl rfl rfl rfl (by kernel_rfl) Try.func8 (by kernel_rfl)
    (of_decide_eq_true (by kernel_rfl)) (by unfold Func.isWrapper; first | (rw [if_pos (by decide +kernel)]; kernel_rfl) | (rw [if_neg (by decide +kernel)]; exact ⟨rfl, rfl⟩))
    (fun os started H enc _ => lifted os started H enc)

theorem proved : Rows.CouncilBackSaid := over
#print axioms proved
end Go.Proofs.Ytgkcgfckhmplaaa.councilBack
