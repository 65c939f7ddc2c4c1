
/- DeedsBack: what Text tells is read again as the same request; what is read is told as just these bytes: for every input the law returns true, and its arguments read as before. No condition. -/
import Derived.Test.YtnmhmbfhaiaaoaaDbP
import Derived.Test.YtnmhmbfhaiaaoaaDw
namespace Go.Proofs.Ytnmhmbfhaiaaoaa.deedsBack
set_option maxRecDepth 100000
open Go.ChangeShapes Go.WideShapes Go.ChangeAt Go.RowKit
attribute [local irreducible] wpQuiet
set_option linter.unusedVariables false
set_option linter.unusedSimpArgs false
attribute [local go_sem] run_store_float

set_option maxHeartbeats 2000000 in
theorem walk (w : World) (x : Rq) (hx : x.Ok) (text : ByteArray) (hts : text.size ≤ 140737488351232) :
    Calls Try.prog 4 #[.agg #[.int .i64 x.c, .int .i64 x.s, .int .i64 x.kind, .string x.key, .int .u64 x.b, .int .i64 x.id], .string text] w fun e w' => e = .returned (.bool true) ∧ Below w.heap.size w w' := by
  have CQ := Lib.hid (fun w => request_any x w)
  have CT := Lib.hid (fun w => text_rq x hx w)
  have CR := Lib.hid (fun w => right_rq x hx w)
  have CN := Lib.hid (fun w => null_rq x hx w)
  have CA := Lib.hid (fun w => qread_any text w hts)
  have CU := Lib.hid (fun w => text_rq (readRq text.data.toList) (readRq_ok _) w)
  have HT := Lib.hid (fun h => back_told (text := text) h)
  have HB := Lib.hid (fun h => back_read (r := x) hx h)
  have CS := Lib.hid (fun w => qread_any x.text w (by have := x.text_size; omega))
  have CC := Lib.hid (fun w => same_rq x (readRq x.text.data.toList) hx (readRq_ok _) w)
  have CZ := Lib.hid (fun w => right_rq (readRq x.text.data.toList) (readRq_ok _) w)
  have HE := Lib.hid (err_iff x)
  have he01 : x.err = 0 ∨ x.err = 1 := by unfold Rq.err rqErr; split <;> first | exact .inl rfl | (split <;> simp)
  have hg01 : readErr text.data.toList = 0 ∨ readErr text.data.toList = 5 := by unfold readErr; split <;> first | exact .inl rfl | (split <;> simp)
  unfold Rq.null at HE
  generalize nullQ x.c x.s x.kind x.key x.b x.id = nl at *
  generalize readRq x.text.data.toList = Y at *
  generalize readErr x.text.data.toList = ye at *
  generalize readRq text.data.toList = Z at *
  generalize readErr text.data.toList = ze at *
  generalize sameQ x Y = sm at *
  generalize Y.right = yr at *
  generalize x.right = rt at *
  generalize x.text = T at *
  generalize x.err = E at *
  generalize Z.text = zT at *
  generalize Z.err = zE at *
  clear hx hts
  obtain ⟨c, s, kind, key, b, id⟩ := x
  obtain ⟨yc, ys, yk, yt, yb, yi⟩ := Y
  obtain ⟨zc, zs, zk, zt, zb, zi⟩ := Z
  unfold Rq.v Rq.ask at *
  dsimp only at *
  have K0 := Lib.hid (blk_alloc w (.cells #[.int .i64 c, .int .i64 s, .int .i64 kind, .string key, .int .u64 b, .int .i64 id] 24 (0, 0)))
  go_enter Try.func4, Try.ntmps4
  go_wp2_with fail
  refine (lives11_any _).mono ?_
  rintro r w1 ⟨rfl, b1⟩
  have K1 := Lib.hid (blk_below K0.out b1)
  have B1 := Lib.hid (bthen (below_alloc _ _) b1)
  have a0 : w1.cell? ⟨w.heap.size, 0, none⟩ = some (.int .i64 c) := by rw [blk_cell K1.out]; rfl
  have a1 : w1.cell? ⟨w.heap.size, 1, none⟩ = some (.int .i64 s) := by rw [blk_cell K1.out]; rfl
  have a2 : w1.cell? ⟨w.heap.size, 2, none⟩ = some (.int .i64 kind) := by rw [blk_cell K1.out]; rfl
  have a3 : w1.cell? ⟨w.heap.size, 3, none⟩ = some (.string key) := by rw [blk_cell K1.out]; rfl
  have a4 : w1.cell? ⟨w.heap.size, 4, none⟩ = some (.int .u64 b) := by rw [blk_cell K1.out]; rfl
  have a5 : w1.cell? ⟨w.heap.size, 5, none⟩ = some (.int .i64 id) := by rw [blk_cell K1.out]; rfl
  clear b1 K0 K1
  go_wp2_with fail
  refine (CQ.out _).mono ?_
  rintro r w2 ⟨rfl, b2⟩
  have K2 := Lib.hid (blk_alloc w2 (.cells #[.int .i64 c, .int .i64 s, .int .i64 kind, .string key, .float .f64 b, .int .i64 id] 30 (0, 0)))
  have B2 := Lib.hid (balloc (bthen B1.out b2) (.cells #[.int .i64 c, .int .i64 s, .int .i64 kind, .string key, .float .f64 b, .int .i64 id] 30 (0, 0)))
  clear b2 B1 a0 a1 a2 a3 a4 a5 CQ
  go_wp2_with fail
  refine (CT.out _).mono ?_
  rintro r w3 ⟨rfl, b3⟩
  have K3 := Lib.hid (blk_below K2.out b3)
  have B3 := Lib.hid (bthen B2.out b3)
  clear b3 K2 B2 CT
  obtain ⟨x0, x1, x2, x3, x4, x5⟩ := rqAt_blk K3.out
  cases rt with
  | true =>
    obtain rfl : E = 0 := by have := HE.out; simpa using this
    obtain ⟨h1, h2, h3⟩ := HB.out rfl
    rw [h1] at CS
    rw [h2] at CC
    rw [h3] at CZ
    clear HB HE h1 h2 h3
    go_wp2_with fail
    refine (CR.out _).mono ?_
    rintro r w4 ⟨rfl, b4⟩
    have K4 := Lib.hid (blk_below K3.out b4)
    have B4 := Lib.hid (bthen B3.out b4)
    clear b4 x0 x1 x2 x3 x4 x5 K3 B3
    obtain ⟨x0, x1, x2, x3, x4, x5⟩ := rqAt_blk K4.out
    go_wp2_with fail
    refine (CS.out _).mono ?_
    rintro r w6 ⟨rfl, b6⟩
    have K6 := Lib.hid (blk_below (blk_below K4.out b6) (below_alloc w6 (.cells #[.int .i64 yc, .int .i64 ys, .int .i64 yk, .string yt, .float .f64 yb, .int .i64 yi] 30 (0, 0))))
    have Y6 := Lib.hid (blk_alloc w6 (.cells #[.int .i64 yc, .int .i64 ys, .int .i64 yk, .string yt, .float .f64 yb, .int .i64 yi] 30 (0, 0)))
    have B6 := Lib.hid (balloc (bthen B4.out b6) (.cells #[.int .i64 yc, .int .i64 ys, .int .i64 yk, .string yt, .float .f64 yb, .int .i64 yi] 30 (0, 0)))
    clear b6 K4 B4 x0 x1 x2 x3 x4 x5
    obtain ⟨x0, x1, x2, x3, x4, x5⟩ := rqAt_blk K6.out
    obtain ⟨y0, y1, y2, y3, y4, y5⟩ := rqAt_blk Y6.out
    go_wp2_with fail
    generalize w6.heap.size = q6 at *
    generalize w6.alloc (.cells #[.int .i64 yc, .int .i64 ys, .int .i64 yk, .string yt, .float .f64 yb, .int .i64 yi] 30 (0, 0)) = w6a at *
    have hz0 := World.block_lt x0
    have hz1 := World.block_lt y0
    refine wp_region_below (by kernel_rfl) (by kernel_rfl) ?_
    repeat (refine wpQuiet_step (fun K hK => ?_); go_simp; first | (refine hK _ ?_; clear hK K) | (apply Exists.intro; refine ⟨fun w' hw' => ?_, hK _ ?_⟩; (first | (go_at_call 18; exact Calls.quiet_below hw' (CC.out _)) | (go_at_call_of 14 (Value.agg #[.int .i64 yc, .int .i64 ys, .int .i64 yk, .string yt, .float .f64 yb, .int .i64 yi]); exact Calls.quiet_below hw' (CZ.out _)) | (go_at_call_of 14 (Value.agg #[.int .i64 c, .int .i64 s, .int .i64 kind, .string key, .float .f64 b, .int .i64 id]); exact Calls.quiet_below hw' (CR.out _)) | (with_reducible rfl) | (obtain ⟨cc, dd⟩ := bcell hw'; go_simp; rfl)); clear hK K))
    refine wpQuiet_nil ?_
    intro w7 h7
    have B7 := Lib.hid (bthen B6.out h7)
    clear h7 x0 x1 x2 x3 x4 x5 y0 y1 y2 y3 y4 y5 hz0 hz1 K6 Y6 B6 CC CZ CR CN CS
    go_wp2_with fail
    refine (CA.out _).mono ?_
    rintro r w9 ⟨rfl, b9⟩
    have K9 := Lib.hid (blk_alloc w9 (.cells #[.int .i64 zc, .int .i64 zs, .int .i64 zk, .string zt, .float .f64 zb, .int .i64 zi] 30 (0, 0)))
    have B9 := Lib.hid (balloc (bthen B7.out b9) (.cells #[.int .i64 zc, .int .i64 zs, .int .i64 zk, .string zt, .float .f64 zb, .int .i64 zi] 30 (0, 0)))
    clear b9 B7
    obtain ⟨x0, x1, x2, x3, x4, x5⟩ := rqAt_blk K9.out
    rcases hg01 with rfl | rfl
    · obtain ⟨t1, t2⟩ := HT.out rfl
      subst t1
      subst t2
      clear HT
      go_wp2_with fail
      refine (CU.out _).mono ?_
      rintro r w10 ⟨rfl, b10⟩
      have B10 := Lib.hid (bthen B9.out b10)
      clear b10 x0 x1 x2 x3 x4 x5
      go_wp2_with fail
      go_ret
      exact ⟨rfl, B10.out⟩
    · clear HT
      go_wp2_with fail
      go_ret
      exact ⟨rfl, B9.out⟩
  | false =>
    cases nl with
    | true =>
      obtain rfl : E = 0 := by have := HE.out; simpa using this
      obtain ⟨h1, h2, h3⟩ := HB.out rfl
      rw [h1] at CS
      rw [h2] at CC
      rw [h3] at CZ
      clear HB HE h1 h2 h3
      go_wp2_with fail
      refine (CR.out _).mono ?_
      rintro r w4 ⟨rfl, b4⟩
      have K4 := Lib.hid (blk_below K3.out b4)
      have B4 := Lib.hid (bthen B3.out b4)
      clear b4 x0 x1 x2 x3 x4 x5 K3 B3
      obtain ⟨x0, x1, x2, x3, x4, x5⟩ := rqAt_blk K4.out
      go_wp2_with fail
      refine (CN.out _).mono ?_
      rintro r w5 ⟨rfl, b5⟩
      have K4 := Lib.hid (blk_below K4.out b5)
      have B4 := Lib.hid (bthen B4.out b5)
      clear b5 x0 x1 x2 x3 x4 x5
      go_wp2_with fail
      refine (CS.out _).mono ?_
      rintro r w6 ⟨rfl, b6⟩
      have K6 := Lib.hid (blk_below (blk_below K4.out b6) (below_alloc w6 (.cells #[.int .i64 yc, .int .i64 ys, .int .i64 yk, .string yt, .float .f64 yb, .int .i64 yi] 30 (0, 0))))
      have Y6 := Lib.hid (blk_alloc w6 (.cells #[.int .i64 yc, .int .i64 ys, .int .i64 yk, .string yt, .float .f64 yb, .int .i64 yi] 30 (0, 0)))
      have B6 := Lib.hid (balloc (bthen B4.out b6) (.cells #[.int .i64 yc, .int .i64 ys, .int .i64 yk, .string yt, .float .f64 yb, .int .i64 yi] 30 (0, 0)))
      clear b6 K4 B4
      obtain ⟨x0, x1, x2, x3, x4, x5⟩ := rqAt_blk K6.out
      obtain ⟨y0, y1, y2, y3, y4, y5⟩ := rqAt_blk Y6.out
      go_wp2_with fail
      generalize w6.heap.size = q6 at *
      generalize w6.alloc (.cells #[.int .i64 yc, .int .i64 ys, .int .i64 yk, .string yt, .float .f64 yb, .int .i64 yi] 30 (0, 0)) = w6a at *
      have hz0 := World.block_lt x0
      have hz1 := World.block_lt y0
      refine wp_region_below (by kernel_rfl) (by kernel_rfl) ?_
      repeat (refine wpQuiet_step (fun K hK => ?_); go_simp; first | (refine hK _ ?_; clear hK K) | (apply Exists.intro; refine ⟨fun w' hw' => ?_, hK _ ?_⟩; (first | (go_at_call 18; exact Calls.quiet_below hw' (CC.out _)) | (go_at_call_of 14 (Value.agg #[.int .i64 yc, .int .i64 ys, .int .i64 yk, .string yt, .float .f64 yb, .int .i64 yi]); exact Calls.quiet_below hw' (CZ.out _)) | (go_at_call_of 14 (Value.agg #[.int .i64 c, .int .i64 s, .int .i64 kind, .string key, .float .f64 b, .int .i64 id]); exact Calls.quiet_below hw' (CR.out _)) | (with_reducible rfl) | (obtain ⟨cc, dd⟩ := bcell hw'; go_simp; rfl)); clear hK K))
      refine wpQuiet_nil ?_
      intro w7 h7
      have B7 := Lib.hid (bthen B6.out h7)
      clear h7 x0 x1 x2 x3 x4 x5 y0 y1 y2 y3 y4 y5 hz0 hz1 K6 Y6 B6 CC CZ CR CN CS
      go_wp2_with fail
      refine (CA.out _).mono ?_
      rintro r w9 ⟨rfl, b9⟩
      have K9 := Lib.hid (blk_alloc w9 (.cells #[.int .i64 zc, .int .i64 zs, .int .i64 zk, .string zt, .float .f64 zb, .int .i64 zi] 30 (0, 0)))
      have B9 := Lib.hid (balloc (bthen B7.out b9) (.cells #[.int .i64 zc, .int .i64 zs, .int .i64 zk, .string zt, .float .f64 zb, .int .i64 zi] 30 (0, 0)))
      clear b9 B7
      obtain ⟨x0, x1, x2, x3, x4, x5⟩ := rqAt_blk K9.out
      rcases hg01 with rfl | rfl
      · obtain ⟨t1, t2⟩ := HT.out rfl
        subst t1
        subst t2
        clear HT
        go_wp2_with fail
        refine (CU.out _).mono ?_
        rintro r w10 ⟨rfl, b10⟩
        have B10 := Lib.hid (bthen B9.out b10)
        clear b10 x0 x1 x2 x3 x4 x5
        go_wp2_with fail
        go_ret
        exact ⟨rfl, B10.out⟩
      · clear HT
        go_wp2_with fail
        go_ret
        exact ⟨rfl, B9.out⟩
    | false =>
      obtain rfl : E = 1 := by
        have := HE.out
        rcases he01 with h | h
        · rw [h] at this; cases this
        · exact h
      clear HB HE CC CZ CS
      go_wp2_with fail
      refine (CR.out _).mono ?_
      rintro r w4 ⟨rfl, b4⟩
      have K4 := Lib.hid (blk_below K3.out b4)
      have B4 := Lib.hid (bthen B3.out b4)
      clear b4 x0 x1 x2 x3 x4 x5 K3 B3
      obtain ⟨x0, x1, x2, x3, x4, x5⟩ := rqAt_blk K4.out
      go_wp2_with fail
      refine (CN.out _).mono ?_
      rintro r w5 ⟨rfl, b5⟩
      have B7 := Lib.hid (bthen B4.out b5)
      clear b5 x0 x1 x2 x3 x4 x5
      go_wp2_with fail
      refine (CA.out _).mono ?_
      rintro r w9 ⟨rfl, b9⟩
      have K9 := Lib.hid (blk_alloc w9 (.cells #[.int .i64 zc, .int .i64 zs, .int .i64 zk, .string zt, .float .f64 zb, .int .i64 zi] 30 (0, 0)))
      have B9 := Lib.hid (balloc (bthen B7.out b9) (.cells #[.int .i64 zc, .int .i64 zs, .int .i64 zk, .string zt, .float .f64 zb, .int .i64 zi] 30 (0, 0)))
      clear b9 B7
      obtain ⟨x0, x1, x2, x3, x4, x5⟩ := rqAt_blk K9.out
      rcases hg01 with rfl | rfl
      · obtain ⟨t1, t2⟩ := HT.out rfl
        subst t1
        subst t2
        clear HT
        go_wp2_with fail
        refine (CU.out _).mono ?_
        rintro r w10 ⟨rfl, b10⟩
        have B10 := Lib.hid (bthen B9.out b10)
        clear b10 x0 x1 x2 x3 x4 x5
        go_wp2_with fail
        go_ret
        exact ⟨rfl, B10.out⟩
      · clear HT
        go_wp2_with fail
        go_ret
        exact ⟨rfl, B9.out⟩
set_option maxRecDepth 100000 in
theorem lifted (os : Os) (started : os.Started) (H : Type) (enc : TypeId × Value → H) :
    ReturnsInHanded {} Try.checked os 4 .any (Rows.deedsBackSpec.pre6 enc Try.prog Try.f4 Rows.deedsBackRow.domain false) (Rows.deedsBackSpec.post enc Try.prog Try.f4 false true false false) := by
  refine returnsInHanded_of_change_sized (C := Try.checked) own started (by kernel_rfl) Try.func4
    (ChangeSpec.witness6 (enc := enc) (C := Try.checked) false ⟨#[], #[.agg #[.int .i64 0, .int .i64 0, .int .i64 0, .string ⟨#[]⟩, .int .u64 0, .int .i64 0], .string ⟨#[]⟩], []⟩ 8 (by kernel_rfl) (by kernel_rfl) (by kernel_rfl) (by kernel_rfl)) ?_
  intro W base args ds gs before hval0 hW hcnd hsz _
  have hval : ∀ (j : Nat) t v, Try.f4.params[j]? = some t → args[j]? = some v → Value.okWide Try.prog W .any base t v := hval0
  have hW' := hW
  obtain ⟨p, q, hA0, hV, rfl, hfz, hnd⟩ := hW
  have hA : DataW.TrodAll enc Try.prog W 0 (fun _ => true) true Try.f4.params.toList args.toList ds p := hA0
  rw [Try.params4] at hA hval hsz
  have hA2 := hA
  obtain ⟨v0, vs0, d0, ds0, p0, q0, hargs, rfl, rfl, h0, r0⟩ := trodAll_cons hA
  obtain ⟨v1, vs1, d1, ds1, p1, q1, rfl, rfl, rfl, h1, r1⟩ := trodAll_cons r0
  obtain ⟨rfl, rfl, rfl⟩ := trodAll_nil r1
  obtain rfl : args = #[v0, v1] := by cases args; simp_all
  obtain ⟨rfl, rfl⟩ := trodVars_none hV
  clear hargs
  have k0 := hval 0 24 v0 rfl rfl
  obtain ⟨fu0, m0⟩ := h0
  have w0 := weights_of hsz (j := 0) (t := 24) rfl rfl
  have F0 : Fit Try.prog 24 d0 := .inl w0
  have s0 := cells_agg Try.underlying24 k0
  obtain ⟨y0, E0, g0⟩ := vwAsk.2.2 m0 F0
  obtain ⟨x0, rfl, e0, f0⟩ := ask_open E0
  obtain ⟨z0, s01, s02⟩ := s0
  have e0' := agg_of ⟨s01, s02⟩ e0
  subst e0'
  have k1 := hval 1 9 v1 rfl rfl
  obtain ⟨fu1, m1⟩ := h1
  have w1 := weights_of hsz (j := 1) (t := 9) rfl rfl
  obtain ⟨a1, e1, f1⟩ := view_string Try.underlying9 m1 w1
  have e1' := string_of Try.underlying9 k1 e1
  subst e1'
  refine (walk W x0 f0 a1 f1).mono fun e W' ⟨he, bel⟩ => ?_
  subst he
  exact ⟨_, rfl, _, _, _, [], _, [], hW', trodAll_mk1 (shut_bool Try.underlying4 _), trodAll_again laidOut bel (by kernel_rfl) hA2, rfl, bel.frame _, fun h => by cases h⟩

theorem over : Rows.deedsBackRow.holds Try.pinned (OpenSpec.ofChange Rows.deedsBackSpec) :=
  OpenClaim.holds_of_wide 4 Try.f4 rfl rfl rfl rfl rfl rfl rfl ⟨rfl, rfl, rfl, rfl, rfl⟩ rfl rfl rfl rfl rfl (by kernel_rfl) Try.func4 (by kernel_rfl)
    (of_decide_eq_true (by kernel_rfl)) (by unfold Func.isWrapper; first | (rw [if_pos (by decide +kernel)]; kernel_rfl) | (rw [if_neg (by decide +kernel)]; exact ⟨rfl, rfl⟩))
    (fun os started H enc _ => lifted os started H enc)

theorem proved : Rows.DeedsBackSaid := over
#print axioms proved
end Go.Proofs.Ytnmhmbfhaiaaoaa.deedsBack
