
/- LineageValid: which link is good behind which configuration, or the first error, is what the document says: for every input the law returns true, and its arguments read as before. No condition. -/
import Derived.Test.YtdeomokhjmnfhaaLi
namespace Go.Proofs.Ytdeomokhjmnfhaa.lineageValid
open Go.ChangeShapes Go.WideShapes Go.ChangeAt Go.RowKit
attribute [local irreducible] wpQuiet
set_option linter.unusedVariables false

set_option maxHeartbeats 1000000 in
theorem walk (w : World) (e0 : Int) (a0 : Option Addr) (n0 c0 : Nat) (l0 : List Int) (h0 : i64 e0) (s0 : SlAt Sh.int w a0 n0 c0 l0) (e1 : Int) (a1 : Option Addr) (n1 c1 : Nat) (l1 : List Int) (sa : Option Addr) (sn sc : Nat) (sigs : List Sg)
    (h1 : i64 e1) (s1 : SlAt Sh.int w a1 n1 c1 l1) (hs : SlAt shSig w sa sn sc sigs) :
    Calls Try.prog 3 #[.agg #[.int .i64 e0, .slice a0 n0 c0], .agg #[.int .i64 e1, .slice a1 n1 c1, .slice sa sn sc]] w fun e w' => e = .returned (.bool true) ∧ Below w.heap.size w w' := by
  obtain ⟨wl, hwl⟩ : ∃ wl, wl = (w.alloc (.cells #[.int .i64 e0, .slice a0 n0 c0] 24)).alloc (.cells #[.int .i64 e1, .slice a1 n1 c1, .slice sa sn sc] 27) := ⟨_, rfl⟩
  have b1 := below_alloc w (.cells #[.int .i64 e0, .slice a0 n0 c0] 24)
  have b2 := below_alloc (w.alloc (.cells #[.int .i64 e0, .slice a0 n0 c0] 24)) (.cells #[.int .i64 e1, .slice a1 n1 c1, .slice sa sn sc] 27)
  have bl : Below w.heap.size w wl := by rw [hwl]; exact bthen b1 b2
  have k0 : wl.heap[w.heap.size]? = some (.cells #[.int .i64 e0, .slice a0 n0 c0] 24 (0, 0)) := by rw [hwl]; exact blk_below (blk_alloc _ _) b2
  have k1 : wl.heap[w.heap.size + 1]? = some (.cells #[.int .i64 e1, .slice a1 n1 c1, .slice sa sn sc] 27 (0, 0)) := by
    have := blk_alloc (w.alloc (.cells #[.int .i64 e0, .slice a0 n0 c0] 24)) (.cells #[.int .i64 e1, .slice a1 n1 c1, .slice sa sn sc] 27)
    rw [World.size_alloc] at this
    rw [hwl]; exact this
  have x0 : wl.cell? ⟨w.heap.size, 0, none⟩ = some (.int .i64 e0) := by rw [blk_cell k0]; rfl
  have x1 : wl.cell? ⟨w.heap.size, 1, none⟩ = some (.slice a0 n0 c0) := by rw [blk_cell k0]; rfl
  have y0 : wl.cell? ⟨w.heap.size + 1, 0, none⟩ = some (.int .i64 e1) := by rw [blk_cell k1]; rfl
  have y1 : wl.cell? ⟨w.heap.size + 1, 1, none⟩ = some (.slice a1 n1 c1) := by rw [blk_cell k1]; rfl
  have y2 : wl.cell? ⟨w.heap.size + 1, 2, none⟩ = some (.slice sa sn sc) := by rw [blk_cell k1]; rfl
  have BL := Lib.hid bl
  have CV := Lib.hid (fun (w' : World) (hb : Below w.heap.size w w') => valid_any e0 a0 n0 c0 l0 e1 a1 n1 c1 l1 sa sn sc sigs w' (ints_of_sl (s0.old hb)) (ints_of_sl (s1.old hb)) (hs.old hb))
  have CR := Lib.hid (fun (w' : World) (hb : Below w.heap.size w w') => rvalid_any e0 a0 n0 c0 l0 e1 a1 n1 c1 l1 sa sn sc sigs w' (ints_of_sl (s0.old hb)) (ints_of_sl (s1.old hb)) (hs.old hb))
  generalize validC e0 l0 e1 l1 sigs = x at *
  clear s0 s1 hs k0 k1 b1 b2 bl h0 h1
  go_enter Try.func3, Try.ntmps3
  go_wp2_with fail
  rw [← hwl]
  clear hwl
  have hz0 := World.block_lt x0
  have hz1 := World.block_lt y0
  refine wp_region_below (by kernel_rfl) (by kernel_rfl) ?_
  repeat (refine wpQuiet_step (fun K hK => ?_); go_simp; first | (refine hK _ ?_; clear hK K) | (apply Exists.intro; refine ⟨fun w' hw' => ?_, hK _ ?_⟩; (first | (go_at_call 9; exact Calls.quiet_below hw' (lives10_any _)) | (go_at_call 10; exact Calls.quiet_below hw' (CV.out _ (bthen BL.out hw'))) | (go_at_call 11; exact Calls.quiet_below hw' (CR.out _ (bthen BL.out hw'))) | (with_reducible rfl) | (obtain ⟨cc, dd⟩ := bcell hw'; go_simp; rfl)); clear hK K))
  refine wpQuiet_nil ?_
  intro w7 h7
  go_wp2_with fail
  go_ret
  exact ⟨rfl, bthen BL.out h7⟩

set_option maxRecDepth 100000 in
theorem lifted (os : Os) (started : os.Started) (H : Type) (enc : TypeId × Value → H) :
    ReturnsInHanded {} Try.checked os 3 .any (Rows.lineageValidSpec.pre6 enc Try.prog Try.f3 Rows.lineageValidRow.domain false) (Rows.lineageValidSpec.post enc Try.prog Try.f3 false true false false) := by
  refine returnsInHanded_of_change_sized (C := Try.checked) own started (by kernel_rfl) Try.func3
    (ChangeSpec.witness6 (enc := enc) (C := Try.checked) false ⟨#[], #[.agg #[.int .i64 0, .slice none 0 0], .agg #[.int .i64 0, .slice none 0 0, .slice none 0 0]], []⟩ 8 (by kernel_rfl) (by kernel_rfl) (by kernel_rfl) (by kernel_rfl)) ?_
  intro W base args ds gs before hval0 hW hcnd hsz _
  have hval : ∀ (j : Nat) t v, Try.f3.params[j]? = some t → args[j]? = some v → Value.okWide Try.prog W .any base t v := hval0
  have hW' := hW
  obtain ⟨p, q, hA0, hV, rfl, hfz, hnd⟩ := hW
  have hA : DataW.TrodAll enc Try.prog W 0 (fun _ => true) true Try.f3.params.toList args.toList ds p := hA0
  rw [Try.params3] at hA hval hsz
  have hA2 := hA
  obtain ⟨v0, vs0, d0, ds0, p0, q0, hargs, rfl, rfl, h0, r0⟩ := trodAll_cons hA
  obtain ⟨v1, vs1, d1, ds1, p1, q1, rfl, rfl, rfl, h1, r1⟩ := trodAll_cons r0
  obtain ⟨rfl, rfl, rfl⟩ := trodAll_nil r1
  obtain rfl : args = #[v0, v1] := by cases args; simp_all
  obtain ⟨rfl, rfl⟩ := trodVars_none hV
  clear hargs
  have k0 := hval 0 24 v0 rfl rfl
  obtain ⟨fu0, m0⟩ := h0
  have w0 := weights_of hsz (j := 0) (t := 24) rfl rfl
  have F0 : Fit Try.prog 24 d0 := .inl w0
  have s0 := cells_agg Try.underlying24 k0
  obtain ⟨y0, E0, g0⟩ := vwConf.2.2 m0 F0
  obtain ⟨p0, l0, a0, n0, c0, rfl, e0, f0, j0⟩ := conf_open E0
  obtain ⟨z0, s01, s02⟩ := s0
  have e0' := agg_of ⟨s01, s02⟩ e0
  subst e0'
  have k1 := hval 1 27 v1 rfl rfl
  obtain ⟨fu1, m1⟩ := h1
  have w1 := weights_of hsz (j := 1) (t := 27) rfl rfl
  have F1 : Fit Try.prog 27 d1 := .inl w1
  have s1 := cells_agg Try.underlying27 k1
  obtain ⟨y1, E1, g1⟩ := vwLink.2.2 m1 F1
  obtain ⟨p1, l1, sg1, a1, n1, c1, sa1, sn1, sc1, rfl, e1, f1, j1, t1⟩ := link_open E1
  obtain ⟨z1, s11, s12⟩ := s1
  have e1' := agg_of ⟨s11, s12⟩ e1
  subst e1'
  refine (walk W p0 a0 n0 c0 l0 f0 j0 p1 a1 n1 c1 l1 sa1 sn1 sc1 sg1 f1 j1 t1).mono fun e W' ⟨he, bel⟩ => ?_
  subst he
  exact ⟨_, rfl, _, _, _, [], _, [], hW', trodAll_mk1 (shut_bool Try.underlying4 _), trodAll_again laidOut bel (by kernel_rfl) hA2, rfl, bel.frame _, fun h => by cases h⟩

theorem over : Rows.lineageValidRow.holds Try.pinned (OpenSpec.ofChange Rows.lineageValidSpec) :=
  OpenClaim.holds_of_wide 3 Try.f3 rfl rfl rfl rfl rfl rfl rfl ⟨rfl, rfl, rfl, rfl, rfl⟩ rfl rfl rfl rfl rfl (by kernel_rfl) Try.func3 (by kernel_rfl)
    (of_decide_eq_true (by kernel_rfl)) (by unfold Func.isWrapper; first | (rw [if_pos (by decide +kernel)]; kernel_rfl) | (rw [if_neg (by decide +kernel)]; exact ⟨rfl, rfl⟩))
    (fun os started H enc _ => lifted os started H enc)

theorem proved : Rows.LineageValidSaid := over
#print axioms proved
end Go.Proofs.Ytdeomokhjmnfhaa.lineageValid
