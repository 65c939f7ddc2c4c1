
/- DeedsSigned: the texts that are signed are what the document says: for every input the law returns true, and its arguments read as before. No condition. -/
import Derived.Test.YtnmhmbfhaiaaoaaDw
namespace Go.Proofs.Ytnmhmbfhaiaaoaa.deedsSigned
set_option maxRecDepth 100000
open Go.ChangeShapes Go.WideShapes Go.ChangeAt Go.RowKit
attribute [local irreducible] wpQuiet
set_option linter.unusedVariables false
set_option linter.unusedSimpArgs false

set_option maxHeartbeats 1000000 in
theorem walk (w : World) (ep v s : Int) (hp : i64 ep ∧ i64 v ∧ i64 s) (r : Rq) (hr : r.Ok) (bytes : ByteArray) (hb : bytes.size ≤ 140737488351232) :
    Calls Try.prog 8 #[.agg #[.int .i64 ep, .int .i64 v, .int .i64 s], .agg #[.int .i64 r.c, .int .i64 r.s, .int .i64 r.kind, .string r.key, .int .u64 r.b, .int .i64 r.id], .string bytes] w fun e w' => e = .returned (.bool true) ∧ Below w.heap.size w w' := by
  have CQ := Lib.hid (fun w => request_any r w)
  have C1 := Lib.hid (fun w => prepared_any ep v s r w hp.1 hp.2.1 hp.2.2 hr)
  have C2 := Lib.hid (fun w => rprepared_any ep v s r w hp.1 hp.2.1 hp.2.2 hr)
  have C3 := Lib.hid (fun w => state_any s bytes w hp.2.2 hb)
  have C4 := Lib.hid (fun w => rstate_any s bytes w hp.2.2 hb)
  generalize prepText ep v s r = T1 at *
  generalize prepErr ep v s r = E1 at *
  generalize hdText 83 [s] bytes = T2 at *
  generalize hdErr [s] = E2 at *
  clear hp hr hb
  obtain ⟨c, s', kind, key, b, id⟩ := r
  unfold Rq.v Rq.ask at *
  dsimp only at *
  obtain ⟨wl, hwl⟩ : ∃ wl, wl = (w.alloc (.cells #[.int .i64 ep, .int .i64 v, .int .i64 s] 51)).alloc (.cells #[.int .i64 c, .int .i64 s', .int .i64 kind, .string key, .int .u64 b, .int .i64 id] 24) := ⟨_, rfl⟩
  have b1 := below_alloc w (.cells #[.int .i64 ep, .int .i64 v, .int .i64 s] 51)
  have b2 := below_alloc (w.alloc (.cells #[.int .i64 ep, .int .i64 v, .int .i64 s] 51)) (.cells #[.int .i64 c, .int .i64 s', .int .i64 kind, .string key, .int .u64 b, .int .i64 id] 24)
  have bl : Below w.heap.size w wl := by rw [hwl]; exact bthen b1 b2
  have k0 : wl.heap[w.heap.size]? = some (.cells #[.int .i64 ep, .int .i64 v, .int .i64 s] 51 (0, 0)) := by rw [hwl]; exact blk_below (blk_alloc _ _) b2
  have k1 : wl.heap[w.heap.size + 1]? = some (.cells #[.int .i64 c, .int .i64 s', .int .i64 kind, .string key, .int .u64 b, .int .i64 id] 24 (0, 0)) := by
    have := blk_alloc (w.alloc (.cells #[.int .i64 ep, .int .i64 v, .int .i64 s] 51)) (.cells #[.int .i64 c, .int .i64 s', .int .i64 kind, .string key, .int .u64 b, .int .i64 id] 24)
    rw [World.size_alloc] at this
    rw [hwl]; exact this
  have BL := Lib.hid bl
  have HC := Lib.hid (show ∀ w', Below wl.heap.size wl w' → (w'.cell? ⟨w.heap.size, 0, none⟩ = some (.int .i64 ep) ∧ w'.cell? ⟨w.heap.size, 1, none⟩ = some (.int .i64 v) ∧ w'.cell? ⟨w.heap.size, 2, none⟩ = some (.int .i64 s)) ∧
      w'.cell? ⟨w.heap.size + 1, 0, none⟩ = some (.int .i64 c) ∧ w'.cell? ⟨w.heap.size + 1, 1, none⟩ = some (.int .i64 s') ∧ w'.cell? ⟨w.heap.size + 1, 2, none⟩ = some (.int .i64 kind) ∧ w'.cell? ⟨w.heap.size + 1, 3, none⟩ = some (.string key) ∧ w'.cell? ⟨w.heap.size + 1, 4, none⟩ = some (.int .u64 b) ∧ w'.cell? ⟨w.heap.size + 1, 5, none⟩ = some (.int .i64 id) from fun w' hb => by
    have q0 := blk_below k0 hb
    have q1 := blk_below k1 hb
    exact ⟨⟨by rw [blk_cell q0]; rfl, by rw [blk_cell q0]; rfl, by rw [blk_cell q0]; rfl⟩, by rw [blk_cell q1]; rfl, by rw [blk_cell q1]; rfl, by rw [blk_cell q1]; rfl, by rw [blk_cell q1]; rfl, by rw [blk_cell q1]; rfl, by rw [blk_cell q1]; rfl⟩)
  clear k0 k1 b1 b2 bl
  go_enter Try.func8, Try.ntmps8
  go_wp2_with fail
  rw [← hwl]
  clear hwl
  refine (lives11_any _).mono ?_
  rintro r w1 ⟨rfl, b1⟩
  have B1 := Lib.hid b1
  obtain ⟨⟨x0, x1, x2⟩, y0, y1, y2, y3, y4, y5⟩ := HC.out _ b1
  clear b1
  go_wp2_with fail
  have hz0 := World.block_lt x0
  have hz1 := World.block_lt y0
  refine wp_region_below (by kernel_rfl) (by kernel_rfl) ?_
  repeat (refine wpQuiet_step (fun K hK => ?_); go_simp; first | (refine hK _ ?_; clear hK K) | (apply Exists.intro; refine ⟨fun w' hw' => ?_, hK _ ?_⟩; (first | (go_at_call 11; exact Calls.quiet_below hw' (CQ.out _)) | (go_at_call 29; exact Calls.quiet_below hw' (C1.out _)) | (with_reducible rfl) | (obtain ⟨cc, dd⟩ := bcell hw'; go_simp; rfl)); clear hK K))
  refine wpQuiet_nil ?_
  intro w2 h2
  have B2 := Lib.hid (bthen B1.out h2)
  clear h2 x0 x1 x2 y0 y1 y2 y3 y4 y5 hz0 hz1 B1
  obtain ⟨⟨x0, x1, x2⟩, y0, y1, y2, y3, y4, y5⟩ := HC.out _ B2.out
  go_wp2_with fail
  have hz0 := World.block_lt x0
  have hz1 := World.block_lt y0
  refine wp_region_below (by kernel_rfl) (by kernel_rfl) ?_
  repeat (refine wpQuiet_step (fun K hK => ?_); go_simp; first | (refine hK _ ?_; clear hK K) | (apply Exists.intro; refine ⟨fun w' hw' => ?_, hK _ ?_⟩; (first | (go_at_call 11; exact Calls.quiet_below hw' (CQ.out _)) | (go_at_call 30; exact Calls.quiet_below hw' (C2.out _)) | (with_reducible rfl) | (obtain ⟨cc, dd⟩ := bcell hw'; go_simp; rfl)); clear hK K))
  refine wpQuiet_nil ?_
  intro w3 h3
  have B3 := Lib.hid (bthen B2.out h3)
  clear h3 x0 x1 x2 y0 y1 y2 y3 y4 y5 hz0 hz1 B2
  obtain ⟨⟨x0, x1, x2⟩, y0, y1, y2, y3, y4, y5⟩ := HC.out _ B3.out
  go_wp2_with fail
  refine (C3.out _).mono ?_
  rintro r w4 ⟨rfl, b4⟩
  have B4 := Lib.hid (bthen B3.out b4)
  clear b4 x0 x1 x2 y0 y1 y2 y3 y4 y5 B3
  obtain ⟨⟨x0, x1, x2⟩, y0, y1, y2, y3, y4, y5⟩ := HC.out _ B4.out
  go_wp2_with fail
  refine (C4.out _).mono ?_
  rintro r w5 ⟨rfl, b5⟩
  have B5 := Lib.hid (bthen BL.out (bthen B4.out b5))
  clear b5 x0 x1 x2 y0 y1 y2 y3 y4 y5 B4 C1 C2 C3 C4 CQ HC
  go_wp2_with fail
  go_ret
  exact ⟨rfl, B5.out⟩

set_option maxRecDepth 100000 in
theorem lifted (os : Os) (started : os.Started) (H : Type) (enc : TypeId × Value → H) :
    ReturnsInHanded {} Try.checked os 8 .any (Rows.deedsSignedSpec.pre6 enc Try.prog Try.f8 Rows.deedsSignedRow.domain false) (Rows.deedsSignedSpec.post enc Try.prog Try.f8 false true false false) := by
  refine returnsInHanded_of_change_sized (C := Try.checked) own started (by kernel_rfl) Try.func8
    (ChangeSpec.witness6 (enc := enc) (C := Try.checked) false ⟨#[], #[.agg #[.int .i64 0, .int .i64 0, .int .i64 0], .agg #[.int .i64 0, .int .i64 0, .int .i64 0, .string ⟨#[]⟩, .int .u64 0, .int .i64 0], .string ⟨#[]⟩], []⟩ 8 (by kernel_rfl) (by kernel_rfl) (by kernel_rfl) (by kernel_rfl)) ?_
  intro W base args ds gs before hval0 hW hcnd hsz _
  have hval : ∀ (j : Nat) t v, Try.f8.params[j]? = some t → args[j]? = some v → Value.okWide Try.prog W .any base t v := hval0
  have hW' := hW
  obtain ⟨p, q, hA0, hV, rfl, hfz, hnd⟩ := hW
  have hA : DataW.TrodAll enc Try.prog W 0 (fun _ => true) true Try.f8.params.toList args.toList ds p := hA0
  rw [Try.params8] at hA hval hsz
  have hA2 := hA
  obtain ⟨v0, vs0, d0, ds0, p0, q0, hargs, rfl, rfl, h0, r0⟩ := trodAll_cons hA
  obtain ⟨v1, vs1, d1, ds1, p1, q1, rfl, rfl, rfl, h1, r1⟩ := trodAll_cons r0
  obtain ⟨v2, vs2, d2, ds2, p2, q2, rfl, rfl, rfl, h2, r2⟩ := trodAll_cons r1
  obtain ⟨rfl, rfl, rfl⟩ := trodAll_nil r2
  obtain rfl : args = #[v0, v1, v2] := by cases args; simp_all
  obtain ⟨rfl, rfl⟩ := trodVars_none hV
  clear hargs
  have k0 := hval 0 51 v0 rfl rfl
  obtain ⟨fu0, m0⟩ := h0
  have w0 := weights_of hsz (j := 0) (t := 51) rfl rfl
  have F0 : Fit Try.prog 51 d0 := .inl w0
  have s0 := cells_agg Try.underlying51 k0
  obtain ⟨y0, E0, g0⟩ := vwSpot.2.2 m0 F0
  obtain ⟨x0, u0, t0, rfl, e0, f0⟩ := spot_open E0
  obtain ⟨z0, s01, s02⟩ := s0
  have e0' := agg_of ⟨s01, s02⟩ e0
  subst e0'
  have k1 := hval 1 24 v1 rfl rfl
  obtain ⟨fu1, m1⟩ := h1
  have w1 := weights_of hsz (j := 1) (t := 24) rfl rfl
  have F1 : Fit Try.prog 24 d1 := .inl w1
  have s1 := cells_agg Try.underlying24 k1
  obtain ⟨y1, E1, g1⟩ := vwAsk.2.2 m1 F1
  obtain ⟨x1, rfl, e1, f1⟩ := ask_open E1
  obtain ⟨z1, s11, s12⟩ := s1
  have e1' := agg_of ⟨s11, s12⟩ e1
  subst e1'
  have k2 := hval 2 9 v2 rfl rfl
  obtain ⟨fu2, m2⟩ := h2
  have w2 := weights_of hsz (j := 2) (t := 9) rfl rfl
  obtain ⟨a2, e2, f2⟩ := view_string Try.underlying9 m2 w2
  have e2' := string_of Try.underlying9 k2 e2
  subst e2'
  refine (walk W x0 u0 t0 f0 x1 f1 a2 f2).mono fun e W' ⟨he, bel⟩ => ?_
  subst he
  exact ⟨_, rfl, _, _, _, [], _, [], hW', trodAll_mk1 (shut_bool Try.underlying4 _), trodAll_again laidOut bel (by kernel_rfl) hA2, rfl, bel.frame _, fun h => by cases h⟩

theorem over : Rows.deedsSignedRow.holds Try.pinned (OpenSpec.ofChange Rows.deedsSignedSpec) :=
  OpenClaim.holds_of_wide 8 Try.f8 rfl rfl rfl rfl rfl rfl rfl ⟨rfl, rfl, rfl, rfl, rfl⟩ rfl rfl rfl rfl rfl (by kernel_rfl) Try.func8 (by kernel_rfl)
    (of_decide_eq_true (by kernel_rfl)) (by unfold Func.isWrapper; first | (rw [if_pos (by decide +kernel)]; kernel_rfl) | (rw [if_neg (by decide +kernel)]; exact ⟨rfl, rfl⟩))
    (fun os started H enc _ => lifted os started H enc)

theorem proved : Rows.DeedsSignedSaid := over
#print axioms proved
end Go.Proofs.Ytnmhmbfhaiaaoaa.deedsSigned
