
/- DeedsUnlike: requests that differ in a field have unlike texts, and aren't the same, by the bits of their reals: for every input the law returns true, and its arguments read as before. No condition. -/
import Derived.Test.YtnmhmbfhaiaaoaaDn
import Derived.Test.YtnmhmbfhaiaaoaaUlP
namespace Go.Proofs.Ytnmhmbfhaiaaoaa.deedsUnlike
set_option maxRecDepth 100000
open Go.ChangeShapes Go.WideShapes Go.ChangeAt Go.RowKit
set_option linter.unusedVariables false
set_option linter.unusedSimpArgs false
attribute [local go_sem] run_store_float

set_option maxHeartbeats 2000000 in
theorem walk (w : World) (x : Rq) (hx : x.Ok) (y : Rq) (hy : y.Ok) :
    Calls Try.prog 5 #[.agg #[.int .i64 x.c, .int .i64 x.s, .int .i64 x.kind, .string x.key, .int .u64 x.b, .int .i64 x.id], .agg #[.int .i64 y.c, .int .i64 y.s, .int .i64 y.kind, .string y.key, .int .u64 y.b, .int .i64 y.id]] w fun e w' => e = .returned (.bool true) ∧ Below w.heap.size w w' := by
  have CX := Lib.hid (fun c s kind key b id w => request_any ⟨c, s, kind, key, b, id⟩ w)
  have CT := Lib.hid (fun w => text_rq x hx w)
  have CU := Lib.hid (fun w => text_rq y hy w)
  have CS := Lib.hid (fun w => same_rq x y hx hy w)
  have CW := Lib.hid (fun w => whole_rq x y hx.b hy.b w)
  have HU := Lib.hid (fun ex ey => unlike hx hy ex ey)
  have HN := Lib.hid (@same_no x y)
  have e01 := err_01 x
  have f01 := err_01 y
  generalize x.text = T at *
  generalize x.err = E at *
  generalize y.text = U at *
  generalize y.err = F at *
  generalize sameQ x y = sm at *
  generalize wholeB x y = wh at *
  clear hx hy
  obtain ⟨c, s, kind, key, b, id⟩ := x
  obtain ⟨c', s', kind', key', b', id'⟩ := y
  unfold Rq.v Rq.ask at *
  dsimp only at *
  obtain ⟨wl, hwl⟩ : ∃ wl, wl = (w.alloc (.cells #[.int .i64 c, .int .i64 s, .int .i64 kind, .string key, .int .u64 b, .int .i64 id] 24)).alloc (.cells #[.int .i64 c', .int .i64 s', .int .i64 kind', .string key', .int .u64 b', .int .i64 id'] 24) := ⟨_, rfl⟩
  have b1 := below_alloc w (.cells #[.int .i64 c, .int .i64 s, .int .i64 kind, .string key, .int .u64 b, .int .i64 id] 24)
  have b2 := below_alloc (w.alloc (.cells #[.int .i64 c, .int .i64 s, .int .i64 kind, .string key, .int .u64 b, .int .i64 id] 24)) (.cells #[.int .i64 c', .int .i64 s', .int .i64 kind', .string key', .int .u64 b', .int .i64 id'] 24)
  have bl : Below w.heap.size w wl := by rw [hwl]; exact bthen b1 b2
  have k0 : wl.heap[w.heap.size]? = some (.cells #[.int .i64 c, .int .i64 s, .int .i64 kind, .string key, .int .u64 b, .int .i64 id] 24 (0, 0)) := by rw [hwl]; exact blk_below (blk_alloc _ _) b2
  have k1 : wl.heap[w.heap.size + 1]? = some (.cells #[.int .i64 c', .int .i64 s', .int .i64 kind', .string key', .int .u64 b', .int .i64 id'] 24 (0, 0)) := by
    have := blk_alloc (w.alloc (.cells #[.int .i64 c, .int .i64 s, .int .i64 kind, .string key, .int .u64 b, .int .i64 id] 24)) (.cells #[.int .i64 c', .int .i64 s', .int .i64 kind', .string key', .int .u64 b', .int .i64 id'] 24)
    rw [World.size_alloc] at this
    rw [hwl]; exact this
  have BL := Lib.hid bl
  have HC := Lib.hid (show ∀ w', Below wl.heap.size wl w' → (w'.cell? ⟨w.heap.size, 0, none⟩ = some (.int .i64 c) ∧ w'.cell? ⟨w.heap.size, 1, none⟩ = some (.int .i64 s) ∧ w'.cell? ⟨w.heap.size, 2, none⟩ = some (.int .i64 kind) ∧ w'.cell? ⟨w.heap.size, 3, none⟩ = some (.string key) ∧ w'.cell? ⟨w.heap.size, 4, none⟩ = some (.int .u64 b) ∧ w'.cell? ⟨w.heap.size, 5, none⟩ = some (.int .i64 id)) ∧
      w'.cell? ⟨w.heap.size + 1, 0, none⟩ = some (.int .i64 c') ∧ w'.cell? ⟨w.heap.size + 1, 1, none⟩ = some (.int .i64 s') ∧ w'.cell? ⟨w.heap.size + 1, 2, none⟩ = some (.int .i64 kind') ∧ w'.cell? ⟨w.heap.size + 1, 3, none⟩ = some (.string key') ∧ w'.cell? ⟨w.heap.size + 1, 4, none⟩ = some (.int .u64 b') ∧ w'.cell? ⟨w.heap.size + 1, 5, none⟩ = some (.int .i64 id') from fun w' hb => by
    have q0 := blk_below k0 hb
    have q1 := blk_below k1 hb
    exact ⟨⟨by rw [blk_cell q0]; rfl, by rw [blk_cell q0]; rfl, by rw [blk_cell q0]; rfl, by rw [blk_cell q0]; rfl, by rw [blk_cell q0]; rfl, by rw [blk_cell q0]; rfl⟩, by rw [blk_cell q1]; rfl, by rw [blk_cell q1]; rfl, by rw [blk_cell q1]; rfl, by rw [blk_cell q1]; rfl, by rw [blk_cell q1]; rfl, by rw [blk_cell q1]; rfl⟩)
  clear k0 k1 b1 b2 bl
  go_enter Try.func5, Try.ntmps5
  go_wp2_with fail
  rw [← hwl]
  clear hwl
  refine (lives11_any _).mono ?_
  rintro r w1 ⟨rfl, b1⟩
  have B1 := Lib.hid b1
  obtain ⟨⟨x0, x1, x2, x3, x4, x5⟩, y0, y1, y2, y3, y4, y5⟩ := HC.out _ b1
  clear b1
  go_wp2_with fail
  refine wp_region_news 6 (fun i => match i with
    | 0 => .fix (.agg #[.int .i64 c, .int .i64 s, .int .i64 kind, .string key, .int .u64 b, .int .i64 id])
    | 1 => .fix (.agg #[.int .i64 c, .int .i64 s, .int .i64 kind, .string key, .float .f64 b, .int .i64 id])
    | 2 => .fix (.agg #[.int .i64 c', .int .i64 s', .int .i64 kind', .string key', .int .u64 b', .int .i64 id'])
    | 3 => .fix (.agg #[.int .i64 c', .int .i64 s', .int .i64 kind', .string key', .float .f64 b', .int .i64 id'])
    | _ => .new (.cells #[.int .i64 0, .int .i64 0, .int .i64 0, .string ⟨#[]⟩, .float .f64 0, .int .i64 0] 30 (0, 0))) rfl (by kernel_rfl) (by kernel_rfl) (fun i o hi ho => ?_) (fun vs w2 hb hs hne => ?_)
  · intro a wa hba hE hF K hK
    have b2 := bthen B1.out (below_undrew hba)
    obtain ⟨⟨x0, x1, x2, x3, x4, x5⟩, y0, y1, y2, y3, y4, y5⟩ := HC.out _ b2
    have hi' : i = 0 ∨ i = 1 ∨ i = 2 ∨ i = 3 ∨ i = 4 ∨ i = 5 := by omega
    rcases hi' with rfl | rfl | rfl | rfl | rfl | rfl
    · obtain rfl := Option.some.inj ho
      have h2 : a.eval (.tmp 2) = .pointer (some ⟨w.heap.size, 0, none⟩) := hE 2 (by decide)
      exact news_val rfl rfl (by generalize a.eval = ρ at h2; simp only [execOp, h2]; go_simp) (hK _ (Below.refl _ _))
    · obtain rfl := Option.some.inj ho
      have h2 : a.eval (.tmp 13) = .agg #[.int .i64 c, .int .i64 s, .int .i64 kind, .string key, .int .u64 b, .int .i64 id] := hF ⟨0, .data⟩ (by simp) rfl 13 _ rfl rfl
      have h3 : a.eval (.func 11) = .func (.func 11) #[] #[] := rfl
      exact news_call rfl rfl 11 #[.agg #[.int .i64 c, .int .i64 s, .int .i64 kind, .string key, .int .u64 b, .int .i64 id]] (by generalize a.eval = ρ at h2 h3; simp only [execOp]; go_simp) (CX.out _ _ _ _ _ _ _) hK
    · obtain rfl := Option.some.inj ho
      have h2 : a.eval (.tmp 3) = .pointer (some ⟨w.heap.size + 1, 0, none⟩) := hE 3 (by decide)
      exact news_val rfl rfl (by generalize a.eval = ρ at h2; simp only [execOp, h2]; go_simp) (hK _ (Below.refl _ _))
    · obtain rfl := Option.some.inj ho
      have h2 : a.eval (.tmp 15) = .agg #[.int .i64 c', .int .i64 s', .int .i64 kind', .string key', .int .u64 b', .int .i64 id'] := hF ⟨2, .data⟩ (by simp) rfl 15 _ rfl rfl
      have h3 : a.eval (.func 11) = .func (.func 11) #[] #[] := rfl
      exact news_call rfl rfl 11 #[.agg #[.int .i64 c', .int .i64 s', .int .i64 kind', .string key', .int .u64 b', .int .i64 id']] (by generalize a.eval = ρ at h2 h3; simp only [execOp]; go_simp) (CX.out _ _ _ _ _ _ _) hK
    · obtain rfl := Option.some.inj ho
      exact news_val rfl rfl (by generalize a.eval = ρ at hF; simp only [execOp]; go_simp) hK
    · obtain rfl := Option.some.inj ho
      exact news_val rfl rfl (by generalize a.eval = ρ at hF; simp only [execOp]; go_simp) hK
  have e0 : vs 0 = _ := hs 0 (by omega)
  have e1 : vs 1 = _ := hs 1 (by omega)
  have e2 : vs 2 = _ := hs 2 (by omega)
  have e3 : vs 3 = _ := hs 3 (by omega)
  obtain ⟨p, e4, hp, kp⟩ : ∃ p, vs 4 = .pointer (some ⟨p, 0, none⟩) ∧ w1.heap.size ≤ p ∧ w2.heap[p]? = some (.cells #[.int .i64 0, .int .i64 0, .int .i64 0, .string ⟨#[]⟩, .float .f64 0, .int .i64 0] 30 (0, 0)) := hs 4 (by omega)
  obtain ⟨q, e5, hq, kq⟩ : ∃ p, vs 5 = .pointer (some ⟨p, 0, none⟩) ∧ w1.heap.size ≤ p ∧ w2.heap[p]? = some (.cells #[.int .i64 0, .int .i64 0, .int .i64 0, .string ⟨#[]⟩, .float .f64 0, .int .i64 0] 30 (0, 0)) := hs 5 (by omega)
  have hpq : p ≠ q := fun e => hne 4 5 _ _ (by omega) (by omega) (by omega) rfl rfl (by rw [e4, e5, e])
  show wpList _ _ _ _ ((((((Act.put _ (some 13) (vs 0)).put (some 14) (vs 1)).put (some 15) (vs 2)).put (some 16) (vs 3)).put (some 5) (vs 4)).put (some 6) (vs 5)) _
  rw [e0, e1, e2, e3, e4, e5]
  clear e0 e1 e2 e3 e4 e5 hs hne vs
  obtain ⟨u0, u1, u2, u3, u4, u5⟩ := rqAt_blk kp
  obtain ⟨v0, v1, v2, v3, v4, v5⟩ := rqAt_blk kq
  have f0 := blk_frozen kp 0; have f1 := blk_frozen kp 1; have f2 := blk_frozen kp 2; have f3 := blk_frozen kp 3; have f4 := blk_frozen kp 4; have f5 := blk_frozen kp 5
  have g0 := blk_frozen kq 0; have g1 := blk_frozen kq 1; have g2 := blk_frozen kq 2; have g3 := blk_frozen kq 3; have g4 := blk_frozen kq 4; have g5 := blk_frozen kq 5
  have hqp : q ≠ p := Ne.symm hpq
  simp only [List.drop_succ_cons, List.drop_zero, Act.put, List.setIfInBounds_toArray, List.set_cons_succ, List.set_cons_zero]
  go_wp2_with fail
  have B3 := Lib.hid (bthen BL.out (bthen B1.out (rq_below (rq_below hb hp ⟨c, s, kind, key, b, id⟩) hq ⟨c', s', kind', key', b', id'⟩)))
  have K3 := Lib.hid (rq_kept (rq_stored kp ⟨c, s, kind, key, b, id⟩) hpq ⟨c', s', kind', key', b', id'⟩)
  have L3 := Lib.hid (rq_stored (rq_kept kq hqp ⟨c, s, kind, key, b, id⟩) ⟨c', s', kind', key', b', id'⟩)
  dsimp only at B3 K3 L3
  clear u0 u1 u2 u3 u4 u5 v0 v1 v2 v3 v4 v5 f0 f1 f2 f3 f4 f5 g0 g1 g2 g3 g4 g5 kp kq hb hp hq x0 x1 x2 x3 x4 x5 y0 y1 y2 y3 y4 y5 HC BL B1 CX
  generalize (((((((((((w2.setCell ⟨p, 0, none⟩ (.int .i64 c)).setCell ⟨p, 1, none⟩ (.int .i64 s)).setCell ⟨p, 2, none⟩ (.int .i64 kind)).setCell ⟨p, 3, none⟩ (.string key)).setCell ⟨p, 4, none⟩ (.float .f64 b)).setCell ⟨p, 5, none⟩ (.int .i64 id)).setCell ⟨q, 0, none⟩ (.int .i64 c')).setCell ⟨q, 1, none⟩ (.int .i64 s')).setCell ⟨q, 2, none⟩ (.int .i64 kind')).setCell ⟨q, 3, none⟩ (.string key')).setCell ⟨q, 4, none⟩ (.float .f64 b')).setCell ⟨q, 5, none⟩ (.int .i64 id') = w3 at *
  refine (CT.out _).mono ?_
  rintro r w4 ⟨rfl, b4⟩
  have K4 := Lib.hid (blk_below K3.out b4)
  have L4 := Lib.hid (blk_below L3.out b4)
  have B4 := Lib.hid (bthen B3.out b4)
  clear b4 K3 L3 B3 CT
  obtain ⟨y0, y1, y2, y3, y4, y5⟩ := rqAt_blk L4.out
  go_wp2_with fail
  refine (CU.out _).mono ?_
  rintro r w5 ⟨rfl, b5⟩
  have K5 := Lib.hid (blk_below K4.out b5)
  have L5 := Lib.hid (blk_below L4.out b5)
  have B5 := Lib.hid (bthen B4.out b5)
  clear b5 K4 L4 B4 CU y0 y1 y2 y3 y4 y5
  obtain ⟨x0, x1, x2, x3, x4, x5⟩ := rqAt_blk K5.out
  obtain ⟨y0, y1, y2, y3, y4, y5⟩ := rqAt_blk L5.out
  rcases e01 with rfl | rfl
  · rcases f01 with rfl | rfl
    · obtain ⟨hq, hs⟩ := HU.out rfl rfl
      subst hs
      clear HU HN
      go_wp2_with fail
      refine (CW.out _).mono ?_
      rintro r w6 ⟨rfl, b6⟩
      have K6 := Lib.hid (blk_below K5.out b6)
      have L6 := Lib.hid (blk_below L5.out b6)
      have B6 := Lib.hid (bthen B5.out b6)
      clear b6 K5 L5 B5 CW x0 x1 x2 x3 x4 x5 y0 y1 y2 y3 y4 y5
      obtain ⟨x0, x1, x2, x3, x4, x5⟩ := rqAt_blk K6.out
      obtain ⟨y0, y1, y2, y3, y4, y5⟩ := rqAt_blk L6.out
      go_wp2_with fail
      refine (CS.out _).mono ?_
      rintro r w7 ⟨rfl, b7⟩
      have B7 := Lib.hid (bthen B6.out b7)
      clear b7 K6 L6 B6 CS x0 x1 x2 x3 x4 x5 y0 y1 y2 y3 y4 y5
      go_wp2_with fail
      go_ret
      exact ⟨by simp, B7.out⟩
    · obtain rfl := HN.out (by simp)
      clear HU HN CW
      go_wp2_with fail
      refine (CS.out _).mono ?_
      rintro r w7 ⟨rfl, b7⟩
      have B7 := Lib.hid (bthen B5.out b7)
      clear b7 K5 L5 B5 CS x0 x1 x2 x3 x4 x5 y0 y1 y2 y3 y4 y5
      go_wp2_with fail
      go_ret
      exact ⟨rfl, B7.out⟩
  · obtain rfl := HN.out (by simp)
    clear HU HN CW
    go_wp2_with fail
    refine (CS.out _).mono ?_
    rintro r w7 ⟨rfl, b7⟩
    have B7 := Lib.hid (bthen B5.out b7)
    clear b7 K5 L5 B5 CS x0 x1 x2 x3 x4 x5 y0 y1 y2 y3 y4 y5
    go_wp2_with fail
    go_ret
    exact ⟨rfl, B7.out⟩
set_option maxRecDepth 100000 in
theorem lifted (os : Os) (started : os.Started) (H : Type) (enc : TypeId × Value → H) :
    ReturnsInHanded {} Try.checked os 5 .any (Rows.deedsUnlikeSpec.pre6 enc Try.prog Try.f5 Rows.deedsUnlikeRow.domain false) (Rows.deedsUnlikeSpec.post enc Try.prog Try.f5 false true false false) := by
  refine returnsInHanded_of_change_sized (C := Try.checked) own started (by kernel_rfl) Try.func5
    (ChangeSpec.witness6 (enc := enc) (C := Try.checked) false ⟨#[], #[.agg #[.int .i64 0, .int .i64 0, .int .i64 0, .string ⟨#[]⟩, .int .u64 0, .int .i64 0], .agg #[.int .i64 0, .int .i64 0, .int .i64 0, .string ⟨#[]⟩, .int .u64 0, .int .i64 0]], []⟩ 8 (by kernel_rfl) (by kernel_rfl) (by kernel_rfl) (by kernel_rfl)) ?_
  intro W base args ds gs before hval0 hW hcnd hsz _
  have hval : ∀ (j : Nat) t v, Try.f5.params[j]? = some t → args[j]? = some v → Value.okWide Try.prog W .any base t v := hval0
  have hW' := hW
  obtain ⟨p, q, hA0, hV, rfl, hfz, hnd⟩ := hW
  have hA : DataW.TrodAll enc Try.prog W 0 (fun _ => true) true Try.f5.params.toList args.toList ds p := hA0
  rw [Try.params5] at hA hval hsz
  have hA2 := hA
  obtain ⟨v0, vs0, d0, ds0, p0, q0, hargs, rfl, rfl, h0, r0⟩ := trodAll_cons hA
  obtain ⟨v1, vs1, d1, ds1, p1, q1, rfl, rfl, rfl, h1, r1⟩ := trodAll_cons r0
  obtain ⟨rfl, rfl, rfl⟩ := trodAll_nil r1
  obtain rfl : args = #[v0, v1] := by cases args; simp_all
  obtain ⟨rfl, rfl⟩ := trodVars_none hV
  clear hargs
  have k0 := hval 0 24 v0 rfl rfl
  obtain ⟨fu0, m0⟩ := h0
  have w0 := weights_of hsz (j := 0) (t := 24) rfl rfl
  have F0 : Fit Try.prog 24 d0 := .inl w0
  have s0 := cells_agg Try.underlying24 k0
  obtain ⟨y0, E0, g0⟩ := vwAsk.2.2 m0 F0
  obtain ⟨x0, rfl, e0, f0⟩ := ask_open E0
  obtain ⟨z0, s01, s02⟩ := s0
  have e0' := agg_of ⟨s01, s02⟩ e0
  subst e0'
  have k1 := hval 1 24 v1 rfl rfl
  obtain ⟨fu1, m1⟩ := h1
  have w1 := weights_of hsz (j := 1) (t := 24) rfl rfl
  have F1 : Fit Try.prog 24 d1 := .inl w1
  have s1 := cells_agg Try.underlying24 k1
  obtain ⟨y1, E1, g1⟩ := vwAsk.2.2 m1 F1
  obtain ⟨x1, rfl, e1, f1⟩ := ask_open E1
  obtain ⟨z1, s11, s12⟩ := s1
  have e1' := agg_of ⟨s11, s12⟩ e1
  subst e1'
  refine (walk W x0 f0 x1 f1).mono fun e W' ⟨he, bel⟩ => ?_
  subst he
  exact ⟨_, rfl, _, _, _, [], _, [], hW', trodAll_mk1 (shut_bool Try.underlying4 _), trodAll_again laidOut bel (by kernel_rfl) hA2, rfl, bel.frame _, fun h => by cases h⟩

theorem over : Rows.deedsUnlikeRow.holds Try.pinned (OpenSpec.ofChange Rows.deedsUnlikeSpec) :=
  OpenClaim.holds_of_wide 5 Try.f5 rfl rfl rfl rfl rfl rfl rfl ⟨rfl, rfl, rfl, rfl, rfl⟩ rfl rfl rfl rfl rfl (by kernel_rfl) Try.func5 (by kernel_rfl)
    (of_decide_eq_true (by kernel_rfl)) (by unfold Func.isWrapper; first | (rw [if_pos (by decide +kernel)]; kernel_rfl) | (rw [if_neg (by decide +kernel)]; exact ⟨rfl, rfl⟩))
    (fun os started H enc _ => lifted os started H enc)

theorem proved : Rows.DeedsUnlikeSaid := over
#print axioms proved
end Go.Proofs.Ytnmhmbfhaiaaoaa.deedsUnlike
