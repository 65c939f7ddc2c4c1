
/- VotesTexts: what is signed is what the document says, of any configuration, bytes and members: for every input the law returns true, and its arguments read as before. No condition. -/
import Derived.Test.YtfhbjajhmegdmaaLv15
import Derived.Test.YtfhbjajhmegdmaaLift
namespace Go.Proofs.Ytfhbjajhmegdmaa.votesTexts
set_option maxRecDepth 100000
open Go.ChangeShapes Go.WideShapes Go.ChangeAt Go.RowKit
set_option linter.unusedVariables false
set_option linter.unusedSimpArgs false

set_option maxHeartbeats 1000000 in
theorem walk (w : World) (e : Int) (a : Option Addr) (n c : Nat) (l : List Int) (he : i64 e) (hl : SlAt Sh.int w a n c l) (t : ByteArray) (ht : t.size ≤ 140737488351232) (b : Option Addr) (m d : Nat) (nx : List Int) (hx : SlAt Sh.int w b m d nx) :
    Calls Try.prog 3 #[.agg #[.int .i64 e, .slice a n c], .string t, .slice b m d] w fun e w' => e = .returned (.bool true) ∧ Below w.heap.size w w' := by
  have BX := Lib.hid (below_alloc w (.cells #[.int .i64 e, .slice a n c] 24 (0, 0)))
  have KX := Lib.hid (blk_alloc w (.cells #[.int .i64 e, .slice a n c] 24 (0, 0)))
  have HL := Lib.hid (ints_of_sl hl); have HX := Lib.hid (ints_of_sl hx)
  have CL := Lib.hid lives15_any
  have C1 := Lib.hid (fun w' (hb : Below w.heap.size w w') => vtexts_any e a n c l t b m d nx w' he (HL.out.below hb) ht (HX.out.below hb))
  have C2 := Lib.hid (fun w' (hb : Below w.heap.size w w') => rvtexts_any e a n c l t b m d nx w' he (HL.out.below hb) ht (HX.out.below hb))
  generalize vS e l t nx = S at *
  generalize vC e l t nx = C at *
  generalize vE e l t nx = E at *
  clear hl hx ht he
  go_enter Try.func3, Try.ntmps3
  go_wp2_with fail
  refine (CL.out _).mono ?_
  rintro r w1 ⟨rfl, b1⟩
  have B1 := Lib.hid (bthen BX.out b1)
  have K1 := Lib.hid (blk_below KX.out b1)
  have k0 : w1.cell? ⟨w.heap.size, 0, none⟩ = some (.int .i64 e) := by rw [blk_cell K1.out]; rfl
  have k1 : w1.cell? ⟨w.heap.size, 1, none⟩ = some (.slice a n c) := by rw [blk_cell K1.out]; rfl
  clear b1
  go_wp2_with fail
  refine (C1.out _ B1.out).mono ?_
  rintro r w2 ⟨rfl, b2⟩
  have B2 := Lib.hid (bthen B1.out b2)
  have K2 := Lib.hid (blk_below K1.out b2)
  clear k0 k1 b2
  have k0 : w2.cell? ⟨w.heap.size, 0, none⟩ = some (.int .i64 e) := by rw [blk_cell K2.out]; rfl
  have k1 : w2.cell? ⟨w.heap.size, 1, none⟩ = some (.slice a n c) := by rw [blk_cell K2.out]; rfl
  go_wp2_with fail
  refine (C2.out _ B2.out).mono ?_
  rintro r w3 ⟨rfl, b3⟩
  have B3 := Lib.hid (bthen B2.out b3)
  clear k0 k1 b3
  go_wp2_with fail
  go_ret
  exact ⟨rfl, B3.out⟩
set_option maxRecDepth 100000 in
theorem lifted (os : Os) (started : os.Started) (H : Type) (enc : TypeId × Value → H) :
    ReturnsInHanded {} Try.checked os 3 .any (Rows.votesTextsSpec.pre6 enc Try.prog Try.f3 Rows.votesTextsRow.domain false) (Rows.votesTextsSpec.post enc Try.prog Try.f3 false true false false) := by
  refine returnsInHanded_of_change_sized (C := Try.checked) own started (by kernel_rfl) Try.func3
    (ChangeSpec.witness6 (enc := enc) (C := Try.checked) false ⟨#[], #[.agg #[.int .i64 0, .slice none 0 0], .string ⟨#[]⟩, .slice none 0 0], []⟩ 8 (by kernel_rfl) (by kernel_rfl) (by kernel_rfl) (by kernel_rfl)) ?_
  intro W base args ds gs before hval0 hW hcnd hsz _
  have hval : ∀ (j : Nat) t v, Try.f3.params[j]? = some t → args[j]? = some v → Value.okWide Try.prog W .any base t v := hval0
  have hW' := hW
  obtain ⟨p, q, hA0, hV, rfl, hfz, hnd⟩ := hW
  have hA : DataW.TrodAll enc Try.prog W 0 (fun _ => true) true Try.f3.params.toList args.toList ds p := hA0
  rw [Try.params3] at hA hval hsz
  have hA2 := hA
  obtain ⟨v0, vs0, d0, ds0, p0, q0, hargs, rfl, rfl, h0, r0⟩ := trodAll_cons hA
  obtain ⟨v1, vs1, d1, ds1, p1, q1, rfl, rfl, rfl, h1, r1⟩ := trodAll_cons r0
  obtain ⟨v2, vs2, d2, ds2, p2, q2, rfl, rfl, rfl, h2, r2⟩ := trodAll_cons r1
  obtain ⟨rfl, rfl, rfl⟩ := trodAll_nil r2
  obtain rfl : args = #[v0, v1, v2] := by cases args; simp_all
  obtain ⟨rfl, rfl⟩ := trodVars_none hV
  clear hargs
  have k0 := hval 0 24 v0 rfl rfl
  obtain ⟨fu0, m0⟩ := h0
  have w0 := weights_of hsz (j := 0) (t := 24) rfl rfl
  have F0 : Fit Try.prog 24 d0 := .inl w0
  have s0 := cells_agg Try.underlying24 k0
  obtain ⟨y0, E0, g0⟩ := vwConf.2.2 m0 F0
  obtain ⟨p0, l0, a0, n0, c0, rfl, e0, f0, j0⟩ := conf_open E0
  obtain ⟨z0, s01, s02⟩ := s0
  have e0' := agg_of ⟨s01, s02⟩ e0
  subst e0'
  have k1 := hval 1 9 v1 rfl rfl
  obtain ⟨fu1, m1⟩ := h1
  have w1 := weights_of hsz (j := 1) (t := 9) rfl rfl
  have F1 : Fit Try.prog 9 d1 := .inl w1
  obtain ⟨a1, ⟨e1, f1⟩, g1⟩ := vwStr.2.2 m1 F1
  have e1' := string_of Try.underlying9 k1 e1
  subst e1'
  have k2 := hval 2 22 v2 rfl rfl
  obtain ⟨fu2, m2⟩ := h2
  have w2 := weights_of hsz (j := 2) (t := 22) rfl rfl
  have F2 : Fit Try.prog 22 d2 := .inl w2
  obtain ⟨l2, ⟨a2, n2, c2, e2, f2⟩, g2⟩ := vwInts.2.2 m2 F2
  have e2' := slice_of Try.underlying22 k2 e2
  subst e2'
  refine (walk W p0 a0 n0 c0 l0 f0 j0 a1 f1 a2 n2 c2 l2 f2).mono fun e W' ⟨he, bel⟩ => ?_
  subst he
  exact ⟨_, rfl, _, _, _, [], _, [], hW', trodAll_mk1 (shut_bool Try.underlying4 _), trodAll_again laidOut bel (by kernel_rfl) hA2, rfl, bel.frame _, fun h => by cases h⟩

theorem over : Rows.votesTextsRow.holds Try.pinned (OpenSpec.ofChange Rows.votesTextsSpec) :=
  OpenClaim.holds_of_wide 3 Try.f3 rfl rfl rfl rfl rfl rfl rfl ⟨rfl, rfl, rfl, rfl, rfl⟩ rfl rfl rfl rfl rfl (by kernel_rfl) Try.func3 (by kernel_rfl)
    (of_decide_eq_true (by kernel_rfl)) (by unfold Func.isWrapper; first | (rw [if_pos (by decide +kernel)]; kernel_rfl) | (rw [if_neg (by decide +kernel)]; exact ⟨rfl, rfl⟩))
    (fun os started H enc _ => lifted os started H enc)

theorem proved : Rows.VotesTextsSaid := over
#print axioms proved
end Go.Proofs.Ytfhbjajhmegdmaa.votesTexts
