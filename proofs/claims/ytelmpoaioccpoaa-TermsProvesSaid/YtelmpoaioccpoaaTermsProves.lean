
/- TermsProves: which lists are proofs, and how many members signed, is what the document says, of any configuration, text and list: for every input the law returns true, and its argument reads as before. No condition. -/
import Derived.Test.YtelmpoaioccpoaaRg3
import Derived.Test.YtelmpoaioccpoaaPvR
import Derived.Test.YtelmpoaioccpoaaNews1
import Derived.Test.YtelmpoaioccpoaaLift
namespace Go.Proofs.Ytelmpoaioccpoaa.termsProves
set_option maxRecDepth 100000
open Go.ChangeShapes Go.WideShapes Go.ChangeAt Go.RowKit
attribute [local irreducible] wpQuiet
set_option linter.unusedVariables false
set_option linter.unusedSimpArgs false

theorem heard_at {w : World} {p : Nat} {e : Int} {a : Option Addr} {n c : Nat} {t : ByteArray} {b : Option Addr} {o q : Nat} {T : TypeId} {fr : Nat × Nat} (h : w.heap[p]? = some (.cells #[.int .i64 e, .slice a n c, .string t, .slice b o q] T fr)) :
    w.cell? ⟨p, 0, none⟩ = some (.int .i64 e) ∧ w.cell? ⟨p, 1, none⟩ = some (.slice a n c) ∧ w.cell? ⟨p, 2, none⟩ = some (.string t) ∧ w.cell? ⟨p, 3, none⟩ = some (.slice b o q) :=
  ⟨by rw [blk_cell h]; rfl, by rw [blk_cell h]; rfl, by rw [blk_cell h]; rfl, by rw [blk_cell h]; rfl⟩

set_option maxHeartbeats 2000000 in
theorem walk (w : World) (e : Int) (a : Option Addr) (n c : Nat) (l : List Int) (t : ByteArray) (b : Option Addr) (o q : Nat) (s : List Sg) (h : HeardIn w e a n c l t b o q s) :
    Calls Try.prog 3 #[.agg #[.int .i64 e, .slice a n c, .string t, .slice b o q]] w fun e w' => e = .returned (.bool true) ∧ Below w.heap.size w w' := by
  have HI := Lib.hid (ints_of_sl h.m); have HS := Lib.hid h.s; have HT := Lib.hid h.t
  have CL := Lib.hid lives09_any
  have KX := Lib.hid (blk_alloc w (.cells #[.int .i64 e, .slice a n c, .string t, .slice b o q] 27 (0, 0)))
  have BX := Lib.hid (below_alloc w (.cells #[.int .i64 e, .slice a n c, .string t, .slice b o q] 27 (0, 0)))
  clear h
  go_enter Try.func3, Try.ntmps3
  go_wp2_with fail
  refine (CL.out _).mono ?_
  rintro r w1 ⟨rfl, b1⟩
  have B1 := Lib.hid (bthen BX.out b1)
  obtain ⟨x0, x1, x2, x3⟩ := heard_at (blk_below KX.out b1)
  clear b1 KX BX CL
  have CP := Lib.hid (fun w' (hb : Below w1.heap.size w1 w') => proves_any e a n c l t b o q s w' (HI.out.below (bthen B1.out hb)) (HS.out.old (bthen B1.out hb)))
  have CR := Lib.hid (fun w' (hb : Below w1.heap.size w1 w') => rproves_any e a n c l t b o q s w' (HI.out.below (bthen B1.out hb)) (HS.out.old (bthen B1.out hb)))
  have CC := Lib.hid (fun w' (hb : Below w1.heap.size w1 w') => count_any e a n c l t b o q s w' (HI.out.below (bthen B1.out hb)) (HS.out.old (bthen B1.out hb)) HT.out)
  have CG := Lib.hid (fun w' (hb : Below w1.heap.size w1 w') => rgather_any e a n c l t b o q s w' (HI.out.below (bthen B1.out hb)) (HS.out.old (bthen B1.out hb)) HT.out)
  generalize provesB e l t s = pv at *
  generalize gatP t s l = G at *
  have hz := World.block_lt x0
  go_wp2_with fail
  refine wp_region_parts (by kernel_rfl) ?_
  refine wpAny_seg (Below w1.heap.size w1) 0 29 _ (by kernel_rfl) rfl rfl (below_drewN (Below.refl _ _) 1) ?_
  repeat (refine wpQuiet_step (fun K hK => ?_); go_simp; first | (refine hK _ ?_; clear hK K) | (apply Exists.intro; refine ⟨fun w' hw' => ?_, hK _ ?_⟩; (first | (go_at_call 11; exact Calls.quiet_below hw' (CP.out _ hw')) | (go_at_call 12; exact Calls.quiet_below hw' (CR.out _ hw')) | (go_at_call 13; exact Calls.quiet_below hw' (CC.out _ hw')) | (with_reducible rfl) | (obtain ⟨cc, dd⟩ := bcell hw'; go_simp; rfl)); clear hK K))
  refine wpQuiet_nil ?_
  intro w5 h5
  refine wpAny_tail 29 (by kernel_rfl) ?_
  simp only [List.drop_succ_cons, List.drop_zero]
  go_wp2_with fail
  refine (CG.out _ h5).mono ?_
  rintro r w6 ⟨v6, rfl, ho6, b6⟩
  obtain ⟨a6, c6, rfl⟩ := owns_form ho6
  have B6 := Lib.hid (bthen B1.out (bthen h5 b6))
  clear ho6 b6 h5
  go_wp2_with fail
  go_ret
  exact ⟨rfl, B6.out⟩
set_option maxRecDepth 100000 in
theorem lifted (os : Os) (started : os.Started) (H : Type) (enc : TypeId × Value → H) :
    ReturnsInHanded {} Try.checked os 3 .any (Rows.termsProvesSpec.pre6 enc Try.prog Try.f3 Rows.termsProvesRow.domain false) (Rows.termsProvesSpec.post enc Try.prog Try.f3 false true false false) := by
  refine returnsInHanded_of_change_sized (C := Try.checked) own started (by kernel_rfl) Try.func3
    (ChangeSpec.witness6 (enc := enc) (C := Try.checked) false ⟨#[], #[.agg #[.int .i64 0, .slice none 0 0, .string ⟨#[]⟩, .slice none 0 0]], []⟩ 8 (by kernel_rfl) (by kernel_rfl) (by kernel_rfl) (by kernel_rfl)) ?_
  intro W base args ds gs before hval0 hW hcnd hsz _
  have hval : ∀ (j : Nat) t v, Try.f3.params[j]? = some t → args[j]? = some v → Value.okWide Try.prog W .any base t v := hval0
  have hW' := hW
  obtain ⟨p, q, hA0, hV, rfl, hfz, hnd⟩ := hW
  have hA : DataW.TrodAll enc Try.prog W 0 (fun _ => true) true Try.f3.params.toList args.toList ds p := hA0
  rw [Try.params3] at hA hval hsz
  have hA2 := hA
  obtain ⟨v0, vs0, d0, ds0, p0, q0, hargs, rfl, rfl, h0, r0⟩ := trodAll_cons hA
  obtain ⟨rfl, rfl, rfl⟩ := trodAll_nil r0
  obtain rfl : args = #[v0] := by cases args; simp_all
  obtain ⟨rfl, rfl⟩ := trodVars_none hV
  clear hargs
  have k0 := hval 0 27 v0 rfl rfl
  obtain ⟨fu0, m0⟩ := h0
  have w0 := weights_of hsz (j := 0) (t := 27) rfl rfl
  have F0 : Fit Try.prog 27 d0 := .inl w0
  have s0 := cells_agg Try.underlying27 k0
  obtain ⟨y0, E0, g0⟩ := vwHeard.2.2 m0 F0
  obtain ⟨p0, l0, tx0, sg0, a0, n0, c0, bb0, oo0, qc0, rfl, e0, f0⟩ := heard_open E0
  obtain ⟨z0, s01, s02⟩ := s0
  have e0' := agg_of ⟨s01, s02⟩ e0
  subst e0'
  refine (walk W p0 a0 n0 c0 l0 tx0 bb0 oo0 qc0 sg0 f0).mono fun e W' ⟨he, bel⟩ => ?_
  subst he
  exact ⟨_, rfl, _, _, _, [], _, [], hW', trodAll_mk1 (shut_bool Try.underlying4 _), trodAll_again laidOut bel (by kernel_rfl) hA2, rfl, bel.frame _, fun h => by cases h⟩

theorem over : Rows.termsProvesRow.holds Try.pinned (OpenSpec.ofChange Rows.termsProvesSpec) :=
  OpenClaim.holds_of_wide 3 Try.f3 rfl rfl rfl rfl rfl rfl rfl ⟨rfl, rfl, rfl, rfl, rfl⟩ rfl rfl rfl rfl rfl (by kernel_rfl) Try.func3 (by kernel_rfl)
    (of_decide_eq_true (by kernel_rfl)) (by unfold Func.isWrapper; first | (rw [if_pos (by decide +kernel)]; kernel_rfl) | (rw [if_neg (by decide +kernel)]; exact ⟨rfl, rfl⟩))
    (fun os started H enc _ => lifted os started H enc)

theorem proved : Rows.TermsProvesSaid := over
#print axioms proved
end Go.Proofs.Ytelmpoaioccpoaa.termsProves
