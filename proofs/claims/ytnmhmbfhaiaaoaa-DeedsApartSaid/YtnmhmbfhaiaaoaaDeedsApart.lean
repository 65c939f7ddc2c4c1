
/- DeedsApart: what is prepared elsewhere, or is another request, has another text; none of these is a state's, a configuration's, a request's: for every input the law returns true, and its arguments read as before. No condition. -/
import Derived.Test.YtnmhmbfhaiaaoaaDn
import Derived.Test.YtnmhmbfhaiaaoaaApP
import Derived.Test.YtnmhmbfhaiaaoaaSg
import Derived.Laws.StructEq
namespace Go.Proofs.Ytnmhmbfhaiaaoaa.deedsApart
set_option maxRecDepth 100000
open Go.ChangeShapes Go.WideShapes Go.ChangeAt Go.RowKit
set_option linter.unusedVariables false
set_option linter.unusedSimpArgs false
attribute [local go_sem] run_store_float

theorem run_eq_spot (w : World) (e v s e' v' s' : Int) : (binOp .eql 51 (.agg #[.int .i64 e, .int .i64 v, .int .i64 s]) (.agg #[.int .i64 e', .int .i64 v', .int .i64 s'])).run Try.prog w = .ok (.bool (decide (e = e') && decide (v = v') && decide (s = s'))) w := by
  rw [run_eql_struct, run_equalIn_struct _ _ _ _ _ (by kernel_rfl) (by kernel_rfl)]
  have h1 : (part 3 #[.int .i64 e, .int .i64 v, .int .i64 s] 0).run Try.prog w = .ok (.int .i64 e) w := by kernel_rfl
  have h2 : (part 3 #[.int .i64 e, .int .i64 v, .int .i64 s] 1).run Try.prog w = .ok (.int .i64 v) w := by kernel_rfl
  have h3 : (part 3 #[.int .i64 e, .int .i64 v, .int .i64 s] 2).run Try.prog w = .ok (.int .i64 s) w := by kernel_rfl
  have h4 : (part 3 #[.int .i64 e', .int .i64 v', .int .i64 s'] 0).run Try.prog w = .ok (.int .i64 e') w := by kernel_rfl
  have h5 : (part 3 #[.int .i64 e', .int .i64 v', .int .i64 s'] 1).run Try.prog w = .ok (.int .i64 v') w := by kernel_rfl
  have h6 : (part 3 #[.int .i64 e', .int .i64 v', .int .i64 s'] 2).run Try.prog w = .ok (.int .i64 s') w := by kernel_rfl
  simp [Program.fieldsOf, Try.underlying51, Op.eqFields, h1, h2, h3, h4, h5, h6, run_equalIn_int _ _ _ _ _ _ _ Try.underlying3, Result.andThen]
  by_cases he : e = e'
  · by_cases hv : v = v'
    · by_cases hs : s = s' <;> simp [he, hv, hs]
    · simp [he, hv]
  · simp [he]

theorem case_at {w : World} {p : Nat} {e v s c1 c2 c3 : Int} {key : ByteArray} {b : Nat} {id : Int} {t : TypeId} {fr : Nat × Nat} (h : w.heap[p]? = some (.cells #[.int .i64 e, .int .i64 v, .int .i64 s, .int .i64 c1, .int .i64 c2, .int .i64 c3, .string key, .int .u64 b, .int .i64 id] t fr)) :
    w.cell? ⟨p, 0, none⟩ = some (.int .i64 e) ∧ w.cell? ⟨p, 1, none⟩ = some (.int .i64 v) ∧ w.cell? ⟨p, 2, none⟩ = some (.int .i64 s) ∧ w.cell? ⟨p, 3, none⟩ = some (.int .i64 c1) ∧ w.cell? ⟨p, 4, none⟩ = some (.int .i64 c2) ∧ w.cell? ⟨p, 5, none⟩ = some (.int .i64 c3) ∧ w.cell? ⟨p, 6, none⟩ = some (.string key) ∧ w.cell? ⟨p, 7, none⟩ = some (.int .u64 b) ∧ w.cell? ⟨p, 8, none⟩ = some (.int .i64 id) :=
  ⟨by rw [blk_cell h]; rfl, by rw [blk_cell h]; rfl, by rw [blk_cell h]; rfl, by rw [blk_cell h]; rfl, by rw [blk_cell h]; rfl, by rw [blk_cell h]; rfl, by rw [blk_cell h]; rfl, by rw [blk_cell h]; rfl, by rw [blk_cell h]; rfl⟩

set_option maxHeartbeats 4000000 in
theorem walk (w : World) (ep v s : Int) (r : Rq) (hp : i64 ep ∧ i64 v ∧ i64 s) (hr : r.Ok) (ep' v' s' : Int) (r' : Rq) (hp' : i64 ep' ∧ i64 v' ∧ i64 s') (hr' : r'.Ok) (ce : Int) (ca : Option Addr) (cn cc : Nat) (cl : List Int) (hce : i64 ce) (hcl : SlAt Sh.int w ca cn cc cl) :
    Calls Try.prog 9 #[.agg #[.int .i64 ep, .int .i64 v, .int .i64 s, .int .i64 r.c, .int .i64 r.s, .int .i64 r.kind, .string r.key, .int .u64 r.b, .int .i64 r.id], .agg #[.int .i64 ep', .int .i64 v', .int .i64 s', .int .i64 r'.c, .int .i64 r'.s, .int .i64 r'.kind, .string r'.key, .int .u64 r'.b, .int .i64 r'.id], .agg #[.int .i64 ce, .slice ca cn cc]] w fun e w' => e = .returned (.bool true) ∧ Below w.heap.size w w' := by
  have CX := Lib.hid (fun c s kind key b id w => request_any ⟨c, s, kind, key, b, id⟩ w)
  have C1 := Lib.hid (fun w => prepared_any ep v s r w hp.1 hp.2.1 hp.2.2 hr)
  have C2 := Lib.hid (fun w => prepared_any ep' v' s' r' w hp'.1 hp'.2.1 hp'.2.2 hr')
  have CS := Lib.hid (fun w => same_rq r r' hr hr' w)
  have CT := Lib.hid (fun w => text_rq r' hr' w)
  have CU := Lib.hid (fun w => state_any s' r'.key w hp'.2.2 hr'.key)
  have CC := Lib.hid (fun (w' : World) (hb : Below w.heap.size w w') => text_any ce ca cn cc cl w' (ints_of_sl (hcl.old hb)))
  have hE01 : prepErr ep v s r = 0 ∨ prepErr ep v s r = 1 := by unfold prepErr hdErr; rcases err_01 r with h | h <;> simp [h] <;> split <;> simp
  have hF01 : prepErr ep' v' s' r' = 0 ∨ prepErr ep' v' s' r' = 1 := by unfold prepErr hdErr; rcases err_01 r' with h | h <;> simp [h] <;> split <;> simp
  have hG01 : hdErr [s'] = 0 ∨ hdErr [s'] = 1 := by unfold hdErr; split <;> simp
  have hH01 : textE ce cl = 0 ∨ textE ce cl = 1 := by unfold textE; split <;> simp
  have hI01 := err_01 r'
  have HS := Lib.hid (fun hx hy => @prep_same ep v s ep' v' s' r r' hx hy)
  have HN := Lib.hid (fun h => @prep_none ep v s r h)
  have hSU := Lib.hid (fun (h1 : prepErr ep v s r = 0) (h2 : hdErr [s'] = 0) => headB_ne (prep_head h1) (state_head (t := r'.key) h2) (by decide))
  have hSV := Lib.hid (fun (h1 : prepErr ep v s r = 0) (h2 : textE ce cl = 0) => headB_ne (prep_head h1) (conf_head h2) (by decide))
  have hUV := Lib.hid (fun (h1 : hdErr [s'] = 0) (h2 : textE ce cl = 0) => headB_ne (state_head (t := r'.key) h1) (conf_head h2) (by decide))
  have hSW := Lib.hid (fun (h1 : prepErr ep v s r = 0) (h2 : r'.err = 0) => show ((prepText ep v s r).toList == r'.text.toList) = false by
    rcases rq_head h2 with h | h
    · exact headB_ne (prep_head h1) h (by decide)
    · exact headB_ne (prep_head h1) h (by decide))
  have hq := Lib.hid (fun w => run_eq_spot w ep v s ep' v' s')
  generalize prepText ep v s r = S at *
  generalize prepErr ep v s r = E at *
  generalize prepText ep' v' s' r' = T at *
  generalize prepErr ep' v' s' r' = F at *
  generalize hdText 83 [s'] r'.key = U at *
  generalize hdErr [s'] = G at *
  generalize textS ce cl = V at *
  generalize textE ce cl = H at *
  generalize r'.text = W at *
  generalize r'.err = I at *
  generalize sameQ r r' = sm at *
  generalize (decide (ep = ep') && decide (v = v') && decide (s = s')) = eqp at *
  clear hp hr hp' hr' hce hcl
  obtain ⟨c, s0, kind, key, b, id⟩ := r
  obtain ⟨c', s0', kind', key', b', id'⟩ := r'
  unfold Rq.v Rq.ask at *
  dsimp only at *
  obtain ⟨wl, hwl⟩ : ∃ wl, wl = ((w.alloc (.cells #[.int .i64 ep, .int .i64 v, .int .i64 s, .int .i64 c, .int .i64 s0, .int .i64 kind, .string key, .int .u64 b, .int .i64 id] 56)).alloc (.cells #[.int .i64 ep', .int .i64 v', .int .i64 s', .int .i64 c', .int .i64 s0', .int .i64 kind', .string key', .int .u64 b', .int .i64 id'] 56)).alloc (.cells #[.int .i64 ce, .slice ca cn cc] 59) := ⟨_, rfl⟩
  have b1 := below_alloc w (.cells #[.int .i64 ep, .int .i64 v, .int .i64 s, .int .i64 c, .int .i64 s0, .int .i64 kind, .string key, .int .u64 b, .int .i64 id] 56)
  have b2 := below_alloc (w.alloc (.cells #[.int .i64 ep, .int .i64 v, .int .i64 s, .int .i64 c, .int .i64 s0, .int .i64 kind, .string key, .int .u64 b, .int .i64 id] 56)) (.cells #[.int .i64 ep', .int .i64 v', .int .i64 s', .int .i64 c', .int .i64 s0', .int .i64 kind', .string key', .int .u64 b', .int .i64 id'] 56)
  have b3 := below_alloc ((w.alloc (.cells #[.int .i64 ep, .int .i64 v, .int .i64 s, .int .i64 c, .int .i64 s0, .int .i64 kind, .string key, .int .u64 b, .int .i64 id] 56)).alloc (.cells #[.int .i64 ep', .int .i64 v', .int .i64 s', .int .i64 c', .int .i64 s0', .int .i64 kind', .string key', .int .u64 b', .int .i64 id'] 56)) (.cells #[.int .i64 ce, .slice ca cn cc] 59)
  have BL := Lib.hid (show Below w.heap.size w wl by rw [hwl]; exact bthen (bthen b1 b2) b3)
  have K0 := Lib.hid (show wl.heap[w.heap.size]? = some (.cells #[.int .i64 ep, .int .i64 v, .int .i64 s, .int .i64 c, .int .i64 s0, .int .i64 kind, .string key, .int .u64 b, .int .i64 id] 56 (0, 0)) by rw [hwl]; exact blk_below (blk_below (blk_alloc _ _) b2) b3)
  have K1 := Lib.hid (show wl.heap[w.heap.size + 1]? = some (.cells #[.int .i64 ep', .int .i64 v', .int .i64 s', .int .i64 c', .int .i64 s0', .int .i64 kind', .string key', .int .u64 b', .int .i64 id'] 56 (0, 0)) by
    have := blk_alloc (w.alloc (.cells #[.int .i64 ep, .int .i64 v, .int .i64 s, .int .i64 c, .int .i64 s0, .int .i64 kind, .string key, .int .u64 b, .int .i64 id] 56)) (.cells #[.int .i64 ep', .int .i64 v', .int .i64 s', .int .i64 c', .int .i64 s0', .int .i64 kind', .string key', .int .u64 b', .int .i64 id'] 56)
    rw [World.size_alloc] at this
    rw [hwl]; exact blk_below this b3)
  have K2 := Lib.hid (show wl.heap[w.heap.size + 1 + 1]? = some (.cells #[.int .i64 ce, .slice ca cn cc] 59 (0, 0)) by
    have := blk_alloc ((w.alloc (.cells #[.int .i64 ep, .int .i64 v, .int .i64 s, .int .i64 c, .int .i64 s0, .int .i64 kind, .string key, .int .u64 b, .int .i64 id] 56)).alloc (.cells #[.int .i64 ep', .int .i64 v', .int .i64 s', .int .i64 c', .int .i64 s0', .int .i64 kind', .string key', .int .u64 b', .int .i64 id'] 56)) (.cells #[.int .i64 ce, .slice ca cn cc] 59)
    rw [World.size_alloc, World.size_alloc] at this
    rw [hwl]; exact this)
  clear b1 b2 b3
  go_enter Try.func9, Try.ntmps9
  go_wp2_with fail
  rw [← hwl]
  clear hwl
  refine (lives11_any _).mono ?_
  rintro r w1 ⟨rfl, b1⟩
  have B1 := Lib.hid b1
  clear b1
  go_wp2_with fail
  refine wp_region_news 8 (fun i => match i with
    | 0 => .fix (.pointer (some ⟨w.heap.size, 3, none⟩))
    | 1 => .fix (.agg #[.int .i64 c, .int .i64 s0, .int .i64 kind, .string key, .int .u64 b, .int .i64 id])
    | 2 => .fix (.agg #[.int .i64 c, .int .i64 s0, .int .i64 kind, .string key, .float .f64 b, .int .i64 id])
    | 3 => .fix (.pointer (some ⟨w.heap.size + 1, 3, none⟩))
    | 4 => .fix (.agg #[.int .i64 c', .int .i64 s0', .int .i64 kind', .string key', .int .u64 b', .int .i64 id'])
    | 5 => .fix (.agg #[.int .i64 c', .int .i64 s0', .int .i64 kind', .string key', .float .f64 b', .int .i64 id'])
    | _ => .new (.cells #[.int .i64 0, .int .i64 0, .int .i64 0, .string ⟨#[]⟩, .float .f64 0, .int .i64 0] 30 (0, 0))) rfl (by kernel_rfl) (by kernel_rfl) (fun i o hi ho => ?_) (fun vs w2 hb hs hne => ?_)
  · intro a wa hba hE hF K hK
    have b2 := bthen B1.out (below_undrew hba)
    obtain ⟨x0, x1, x2, x3, x4, x5, x6, x7, x8⟩ := case_at (blk_below K0.out b2)
    obtain ⟨y0, y1, y2, y3, y4, y5, y6, y7, y8⟩ := case_at (blk_below K1.out b2)
    have hi' : i = 0 ∨ i = 1 ∨ i = 2 ∨ i = 3 ∨ i = 4 ∨ i = 5 ∨ i = 6 ∨ i = 7 := by omega
    rcases hi' with rfl | rfl | rfl | rfl | rfl | rfl | rfl | rfl
    · obtain rfl := Option.some.inj ho
      have h2 : a.eval (.tmp 3) = .pointer (some ⟨w.heap.size, 0, none⟩) := hE 3 (by decide)
      exact news_val rfl rfl (by generalize a.eval = ρ at h2; simp only [execOp, h2]; go_simp) (hK _ (Below.refl _ _))
    · obtain rfl := Option.some.inj ho
      have h2 : a.eval (.tmp 21) = .pointer (some ⟨w.heap.size, 3, none⟩) := hF ⟨0, .data⟩ (by simp) rfl 21 _ rfl rfl
      exact news_val rfl rfl (by generalize a.eval = ρ at h2; simp only [execOp, h2]; go_simp) (hK _ (Below.refl _ _))
    · obtain rfl := Option.some.inj ho
      have h2 : a.eval (.tmp 22) = .agg #[.int .i64 c, .int .i64 s0, .int .i64 kind, .string key, .int .u64 b, .int .i64 id] := hF ⟨1, .data⟩ (by simp) rfl 22 _ rfl rfl
      have h3 : a.eval (.func 11) = .func (.func 11) #[] #[] := rfl
      exact news_call rfl rfl 11 #[.agg #[.int .i64 c, .int .i64 s0, .int .i64 kind, .string key, .int .u64 b, .int .i64 id]] (by generalize a.eval = ρ at h2 h3; simp only [execOp]; go_simp) (CX.out _ _ _ _ _ _ _) hK
    · obtain rfl := Option.some.inj ho
      have h2 : a.eval (.tmp 4) = .pointer (some ⟨w.heap.size + 1, 0, none⟩) := hE 4 (by decide)
      exact news_val rfl rfl (by generalize a.eval = ρ at h2; simp only [execOp, h2]; go_simp) (hK _ (Below.refl _ _))
    · obtain rfl := Option.some.inj ho
      have h2 : a.eval (.tmp 24) = .pointer (some ⟨w.heap.size + 1, 3, none⟩) := hF ⟨3, .data⟩ (by simp) rfl 24 _ rfl rfl
      exact news_val rfl rfl (by generalize a.eval = ρ at h2; simp only [execOp, h2]; go_simp) (hK _ (Below.refl _ _))
    · obtain rfl := Option.some.inj ho
      have h2 : a.eval (.tmp 25) = .agg #[.int .i64 c', .int .i64 s0', .int .i64 kind', .string key', .int .u64 b', .int .i64 id'] := hF ⟨4, .data⟩ (by simp) rfl 25 _ rfl rfl
      have h3 : a.eval (.func 11) = .func (.func 11) #[] #[] := rfl
      exact news_call rfl rfl 11 #[.agg #[.int .i64 c', .int .i64 s0', .int .i64 kind', .string key', .int .u64 b', .int .i64 id']] (by generalize a.eval = ρ at h2 h3; simp only [execOp]; go_simp) (CX.out _ _ _ _ _ _ _) hK
    · obtain rfl := Option.some.inj ho
      exact news_val rfl rfl (by generalize a.eval = ρ at hF; simp only [execOp]; go_simp) hK
    · obtain rfl := Option.some.inj ho
      exact news_val rfl rfl (by generalize a.eval = ρ at hF; simp only [execOp]; go_simp) hK
  have e0 : vs 0 = _ := hs 0 (by omega)
  have e1 : vs 1 = _ := hs 1 (by omega)
  have e2 : vs 2 = _ := hs 2 (by omega)
  have e3 : vs 3 = _ := hs 3 (by omega)
  have e4 : vs 4 = _ := hs 4 (by omega)
  have e5 : vs 5 = _ := hs 5 (by omega)
  obtain ⟨p, e6, hp, kp⟩ : ∃ p, vs 6 = .pointer (some ⟨p, 0, none⟩) ∧ w1.heap.size ≤ p ∧ w2.heap[p]? = some (.cells #[.int .i64 0, .int .i64 0, .int .i64 0, .string ⟨#[]⟩, .float .f64 0, .int .i64 0] 30 (0, 0)) := hs 6 (by omega)
  obtain ⟨q, e7, hq0, kq⟩ : ∃ p, vs 7 = .pointer (some ⟨p, 0, none⟩) ∧ w1.heap.size ≤ p ∧ w2.heap[p]? = some (.cells #[.int .i64 0, .int .i64 0, .int .i64 0, .string ⟨#[]⟩, .float .f64 0, .int .i64 0] 30 (0, 0)) := hs 7 (by omega)
  have hpq : p ≠ q := fun e => hne 6 7 _ _ (by omega) (by omega) (by omega) rfl rfl (by rw [e6, e7, e])
  show wpList _ _ _ _ ((((((((Act.put _ (some 21) (vs 0)).put (some 22) (vs 1)).put (some 23) (vs 2)).put (some 24) (vs 3)).put (some 25) (vs 4)).put (some 26) (vs 5)).put (some 7) (vs 6)).put (some 8) (vs 7)) _
  rw [e0, e1, e2, e3, e4, e5, e6, e7]
  clear e0 e1 e2 e3 e4 e5 e6 e7 hs hne vs
  obtain ⟨u0, u1, u2, u3, u4, u5⟩ := rqAt_blk kp
  obtain ⟨v0, v1, v2, v3, v4, v5⟩ := rqAt_blk kq
  have f0 := blk_frozen kp 0; have f1 := blk_frozen kp 1; have f2 := blk_frozen kp 2; have f3 := blk_frozen kp 3; have f4 := blk_frozen kp 4; have f5 := blk_frozen kp 5
  have g0 := blk_frozen kq 0; have g1 := blk_frozen kq 1; have g2 := blk_frozen kq 2; have g3 := blk_frozen kq 3; have g4 := blk_frozen kq 4; have g5 := blk_frozen kq 5
  have hqp : q ≠ p := Ne.symm hpq
  simp only [List.drop_succ_cons, List.drop_zero, Act.put, List.setIfInBounds_toArray, List.set_cons_succ, List.set_cons_zero]
  have B3 := Lib.hid (bthen B1.out (rq_below (rq_below hb hp ⟨c, s0, kind, key, b, id⟩) hq0 ⟨c', s0', kind', key', b', id'⟩))
  have M3 := Lib.hid (rq_kept (rq_stored kp ⟨c, s0, kind, key, b, id⟩) hpq ⟨c', s0', kind', key', b', id'⟩)
  have L3 := Lib.hid (rq_stored (rq_kept kq hqp ⟨c, s0, kind, key, b, id⟩) ⟨c', s0', kind', key', b', id'⟩)
  dsimp only at B3 M3 L3
  go_upto_region 4 with (fail)
  clear u0 u1 u2 u3 u4 u5 v0 v1 v2 v3 v4 v5 f0 f1 f2 f3 f4 f5 g0 g1 g2 g3 g4 g5 kp kq hb hp hq0 B1 CX
  generalize (((((((((((w2.setCell ⟨p, 0, none⟩ (.int .i64 c)).setCell ⟨p, 1, none⟩ (.int .i64 s0)).setCell ⟨p, 2, none⟩ (.int .i64 kind)).setCell ⟨p, 3, none⟩ (.string key)).setCell ⟨p, 4, none⟩ (.float .f64 b)).setCell ⟨p, 5, none⟩ (.int .i64 id)).setCell ⟨q, 0, none⟩ (.int .i64 c')).setCell ⟨q, 1, none⟩ (.int .i64 s0')).setCell ⟨q, 2, none⟩ (.int .i64 kind')).setCell ⟨q, 3, none⟩ (.string key')).setCell ⟨q, 4, none⟩ (.float .f64 b')).setCell ⟨q, 5, none⟩ (.int .i64 id') = w3 at *
  obtain ⟨x0, x1, x2, -⟩ := case_at (blk_below K0.out B3.out)
  obtain ⟨z0, z1, z2, z3, z4, z5⟩ := rqAt_blk M3.out
  go_wp2_with fail
  refine (C1.out _).mono ?_
  rintro r w4 ⟨rfl, b4⟩
  have M4 := Lib.hid (blk_below M3.out b4)
  have L4 := Lib.hid (blk_below L3.out b4)
  have B4 := Lib.hid (bthen B3.out b4)
  clear b4 M3 L3 B3 C1 x0 x1 x2 z0 z1 z2 z3 z4 z5
  obtain ⟨y0, y1, y2, -⟩ := case_at (blk_below K1.out B4.out)
  obtain ⟨z0, z1, z2, z3, z4, z5⟩ := rqAt_blk L4.out
  go_wp2_with fail
  refine (C2.out _).mono ?_
  rintro r w5 ⟨rfl, b5⟩
  have M5 := Lib.hid (blk_below M4.out b5)
  have L5 := Lib.hid (blk_below L4.out b5)
  have B5 := Lib.hid (bthen B4.out b5)
  clear b5 M4 L4 B4 C2 y0 y1 y2 z0 z1 z2 z3 z4 z5
  obtain ⟨x0, x1, x2, -⟩ := case_at (blk_below K0.out B5.out)
  obtain ⟨y0, y1, y2, -, -, -, y6, -, -⟩ := case_at (blk_below K1.out B5.out)
  obtain ⟨u0, u1, u2, u3, u4, u5⟩ := rqAt_blk M5.out
  obtain ⟨z0, z1, z2, z3, z4, z5⟩ := rqAt_blk L5.out
  rcases hE01 with rfl | rfl
  · clear HN
    rcases hF01 with rfl | rfl
    · have hst := HS.out (by simp) (by simp)
      have hqq := hq.out
      clear HS hq
      cases eqp with
      | true =>
        simp only [Bool.true_and] at hst
        go_wp2_with fail
        refine (CS.out _).mono ?_
        rintro r w6 ⟨rfl, b6⟩
        have L6 := Lib.hid (blk_below L5.out b6)
        have B6 := Lib.hid (bthen B5.out b6)
        clear b6 CS hqq x0 x1 x2 y0 y1 y2 y6 u0 u1 u2 u3 u4 u5 z0 z1 z2 z3 z4 z5 L5 M5 B5
        obtain ⟨y0, y1, y2, -, -, -, y6, -, -⟩ := case_at (blk_below K1.out B6.out)
        go_wp2_with fail
        refine (CU.out _).mono ?_
        rintro r w8 ⟨rfl, b8⟩
        have L8 := Lib.hid (blk_below L6.out b8)
        have B8 := Lib.hid (bthen B6.out b8)
        clear b8 CU L6 B6 hst y0 y1 y2 y6
        have c0 : w8.cell? ⟨w.heap.size + 1 + 1, 0, none⟩ = some (.int .i64 ce) := by rw [blk_cell (blk_below K2.out B8.out)]; rfl
        have c1 : w8.cell? ⟨w.heap.size + 1 + 1, 1, none⟩ = some (.slice ca cn cc) := by rw [blk_cell (blk_below K2.out B8.out)]; rfl
        go_wp2_with fail
        refine (CC.out _ (bthen BL.out B8.out)).mono ?_
        rintro r w9 ⟨rfl, b9⟩
        have B9 := Lib.hid (bthen B8.out b9)
        obtain ⟨z0, z1, z2, z3, z4, z5⟩ := rqAt_blk (blk_below L8.out b9)
        clear b9 CC c0 c1 B8 L8
        go_wp2_with fail
        refine (CT.out _).mono ?_
        rintro r w10 ⟨rfl, b10⟩
        have B10 := Lib.hid (bthen BL.out (bthen B9.out b10))
        clear b10 B9 CT z0 z1 z2 z3 z4 z5 K0 K1 K2 BL
        rcases hG01 with rfl | rfl <;> rcases hH01 with rfl | rfl <;> rcases hI01 with rfl | rfl
        · have k1 := hSU.out (by simp) (by simp)
          have k2 := hSV.out (by simp) (by simp)
          have k3 := hSW.out (by simp) (by simp)
          have k4 := hUV.out (by simp) (by simp)
          clear hSU hSV hSW hUV
          go_wp2_with fail
          go_ret
          exact ⟨rfl, B10.out⟩
        · have k1 := hSU.out (by simp) (by simp)
          have k2 := hSV.out (by simp) (by simp)
          have k4 := hUV.out (by simp) (by simp)
          clear hSU hSV hSW hUV
          go_wp2_with fail
          go_ret
          exact ⟨rfl, B10.out⟩
        · have k1 := hSU.out (by simp) (by simp)
          have k3 := hSW.out (by simp) (by simp)
          clear hSU hSV hSW hUV
          go_wp2_with fail
          go_ret
          exact ⟨rfl, B10.out⟩
        · have k1 := hSU.out (by simp) (by simp)
          clear hSU hSV hSW hUV
          go_wp2_with fail
          go_ret
          exact ⟨rfl, B10.out⟩
        · have k2 := hSV.out (by simp) (by simp)
          have k3 := hSW.out (by simp) (by simp)
          clear hSU hSV hSW hUV
          go_wp2_with fail
          go_ret
          exact ⟨rfl, B10.out⟩
        · have k2 := hSV.out (by simp) (by simp)
          clear hSU hSV hSW hUV
          go_wp2_with fail
          go_ret
          exact ⟨rfl, B10.out⟩
        · have k3 := hSW.out (by simp) (by simp)
          clear hSU hSV hSW hUV
          go_wp2_with fail
          go_ret
          exact ⟨rfl, B10.out⟩
        · clear hSU hSV hSW hUV
          go_wp2_with fail
          go_ret
          exact ⟨rfl, B10.out⟩
      | false =>
        simp only [Bool.false_and] at hst
        clear CS
        go_wp2_with fail
        refine (CU.out _).mono ?_
        rintro r w8 ⟨rfl, b8⟩
        have L8 := Lib.hid (blk_below L5.out b8)
        have B8 := Lib.hid (bthen B5.out b8)
        clear b8 CU L5 B5 M5 hst hqq x0 x1 x2 y0 y1 y2 y6 u0 u1 u2 u3 u4 u5 z0 z1 z2 z3 z4 z5
        have c0 : w8.cell? ⟨w.heap.size + 1 + 1, 0, none⟩ = some (.int .i64 ce) := by rw [blk_cell (blk_below K2.out B8.out)]; rfl
        have c1 : w8.cell? ⟨w.heap.size + 1 + 1, 1, none⟩ = some (.slice ca cn cc) := by rw [blk_cell (blk_below K2.out B8.out)]; rfl
        go_wp2_with fail
        refine (CC.out _ (bthen BL.out B8.out)).mono ?_
        rintro r w9 ⟨rfl, b9⟩
        have B9 := Lib.hid (bthen B8.out b9)
        obtain ⟨z0, z1, z2, z3, z4, z5⟩ := rqAt_blk (blk_below L8.out b9)
        clear b9 CC c0 c1 B8 L8
        go_wp2_with fail
        refine (CT.out _).mono ?_
        rintro r w10 ⟨rfl, b10⟩
        have B10 := Lib.hid (bthen BL.out (bthen B9.out b10))
        clear b10 B9 CT z0 z1 z2 z3 z4 z5 K0 K1 K2 BL
        rcases hG01 with rfl | rfl <;> rcases hH01 with rfl | rfl <;> rcases hI01 with rfl | rfl
        · have k1 := hSU.out (by simp) (by simp)
          have k2 := hSV.out (by simp) (by simp)
          have k3 := hSW.out (by simp) (by simp)
          have k4 := hUV.out (by simp) (by simp)
          clear hSU hSV hSW hUV
          go_wp2_with fail
          go_ret
          exact ⟨rfl, B10.out⟩
        · have k1 := hSU.out (by simp) (by simp)
          have k2 := hSV.out (by simp) (by simp)
          have k4 := hUV.out (by simp) (by simp)
          clear hSU hSV hSW hUV
          go_wp2_with fail
          go_ret
          exact ⟨rfl, B10.out⟩
        · have k1 := hSU.out (by simp) (by simp)
          have k3 := hSW.out (by simp) (by simp)
          clear hSU hSV hSW hUV
          go_wp2_with fail
          go_ret
          exact ⟨rfl, B10.out⟩
        · have k1 := hSU.out (by simp) (by simp)
          clear hSU hSV hSW hUV
          go_wp2_with fail
          go_ret
          exact ⟨rfl, B10.out⟩
        · have k2 := hSV.out (by simp) (by simp)
          have k3 := hSW.out (by simp) (by simp)
          clear hSU hSV hSW hUV
          go_wp2_with fail
          go_ret
          exact ⟨rfl, B10.out⟩
        · have k2 := hSV.out (by simp) (by simp)
          clear hSU hSV hSW hUV
          go_wp2_with fail
          go_ret
          exact ⟨rfl, B10.out⟩
        · have k3 := hSW.out (by simp) (by simp)
          clear hSU hSV hSW hUV
          go_wp2_with fail
          go_ret
          exact ⟨rfl, B10.out⟩
        · clear hSU hSV hSW hUV
          go_wp2_with fail
          go_ret
          exact ⟨rfl, B10.out⟩
    · clear HS hq CS
      go_wp2_with fail
      refine (CU.out _).mono ?_
      rintro r w8 ⟨rfl, b8⟩
      have L8 := Lib.hid (blk_below L5.out b8)
      have B8 := Lib.hid (bthen B5.out b8)
      clear b8 CU L5 B5 M5 x0 x1 x2 y0 y1 y2 y6 u0 u1 u2 u3 u4 u5 z0 z1 z2 z3 z4 z5
      have c0 : w8.cell? ⟨w.heap.size + 1 + 1, 0, none⟩ = some (.int .i64 ce) := by rw [blk_cell (blk_below K2.out B8.out)]; rfl
      have c1 : w8.cell? ⟨w.heap.size + 1 + 1, 1, none⟩ = some (.slice ca cn cc) := by rw [blk_cell (blk_below K2.out B8.out)]; rfl
      go_wp2_with fail
      refine (CC.out _ (bthen BL.out B8.out)).mono ?_
      rintro r w9 ⟨rfl, b9⟩
      have B9 := Lib.hid (bthen B8.out b9)
      obtain ⟨z0, z1, z2, z3, z4, z5⟩ := rqAt_blk (blk_below L8.out b9)
      clear b9 CC c0 c1 B8 L8
      go_wp2_with fail
      refine (CT.out _).mono ?_
      rintro r w10 ⟨rfl, b10⟩
      have B10 := Lib.hid (bthen BL.out (bthen B9.out b10))
      clear b10 B9 CT z0 z1 z2 z3 z4 z5 K0 K1 K2 BL
      rcases hG01 with rfl | rfl <;> rcases hH01 with rfl | rfl <;> rcases hI01 with rfl | rfl
      · have k1 := hSU.out (by simp) (by simp)
        have k2 := hSV.out (by simp) (by simp)
        have k3 := hSW.out (by simp) (by simp)
        have k4 := hUV.out (by simp) (by simp)
        clear hSU hSV hSW hUV
        go_wp2_with fail
        go_ret
        exact ⟨rfl, B10.out⟩
      · have k1 := hSU.out (by simp) (by simp)
        have k2 := hSV.out (by simp) (by simp)
        have k4 := hUV.out (by simp) (by simp)
        clear hSU hSV hSW hUV
        go_wp2_with fail
        go_ret
        exact ⟨rfl, B10.out⟩
      · have k1 := hSU.out (by simp) (by simp)
        have k3 := hSW.out (by simp) (by simp)
        clear hSU hSV hSW hUV
        go_wp2_with fail
        go_ret
        exact ⟨rfl, B10.out⟩
      · have k1 := hSU.out (by simp) (by simp)
        clear hSU hSV hSW hUV
        go_wp2_with fail
        go_ret
        exact ⟨rfl, B10.out⟩
      · have k2 := hSV.out (by simp) (by simp)
        have k3 := hSW.out (by simp) (by simp)
        clear hSU hSV hSW hUV
        go_wp2_with fail
        go_ret
        exact ⟨rfl, B10.out⟩
      · have k2 := hSV.out (by simp) (by simp)
        clear hSU hSV hSW hUV
        go_wp2_with fail
        go_ret
        exact ⟨rfl, B10.out⟩
      · have k3 := hSW.out (by simp) (by simp)
        clear hSU hSV hSW hUV
        go_wp2_with fail
        go_ret
        exact ⟨rfl, B10.out⟩
      · clear hSU hSV hSW hUV
        go_wp2_with fail
        go_ret
        exact ⟨rfl, B10.out⟩
  · obtain rfl := HN.out (by simp)
    clear HS hq CS CU CC CT hSU hSV hUV hSW
    go_wp2_with fail
    go_ret
    exact ⟨rfl, bthen BL.out B5.out⟩
set_option maxRecDepth 100000 in
theorem lifted (os : Os) (started : os.Started) (H : Type) (enc : TypeId × Value → H) :
    ReturnsInHanded {} Try.checked os 9 .any (Rows.deedsApartSpec.pre6 enc Try.prog Try.f9 Rows.deedsApartRow.domain false) (Rows.deedsApartSpec.post enc Try.prog Try.f9 false true false false) := by
  refine returnsInHanded_of_change_sized (C := Try.checked) own started (by kernel_rfl) Try.func9
    (ChangeSpec.witness6 (enc := enc) (C := Try.checked) false ⟨#[], #[.agg #[.int .i64 0, .int .i64 0, .int .i64 0, .int .i64 0, .int .i64 0, .int .i64 0, .string ⟨#[]⟩, .int .u64 0, .int .i64 0], .agg #[.int .i64 0, .int .i64 0, .int .i64 0, .int .i64 0, .int .i64 0, .int .i64 0, .string ⟨#[]⟩, .int .u64 0, .int .i64 0], .agg #[.int .i64 0, .slice none 0 0]], []⟩ 8 (by kernel_rfl) (by kernel_rfl) (by kernel_rfl) (by kernel_rfl)) ?_
  intro W base args ds gs before hval0 hW hcnd hsz _
  have hval : ∀ (j : Nat) t v, Try.f9.params[j]? = some t → args[j]? = some v → Value.okWide Try.prog W .any base t v := hval0
  have hW' := hW
  obtain ⟨p, q, hA0, hV, rfl, hfz, hnd⟩ := hW
  have hA : DataW.TrodAll enc Try.prog W 0 (fun _ => true) true Try.f9.params.toList args.toList ds p := hA0
  rw [Try.params9] at hA hval hsz
  have hA2 := hA
  obtain ⟨v0, vs0, d0, ds0, p0, q0, hargs, rfl, rfl, h0, r0⟩ := trodAll_cons hA
  obtain ⟨v1, vs1, d1, ds1, p1, q1, rfl, rfl, rfl, h1, r1⟩ := trodAll_cons r0
  obtain ⟨v2, vs2, d2, ds2, p2, q2, rfl, rfl, rfl, h2, r2⟩ := trodAll_cons r1
  obtain ⟨rfl, rfl, rfl⟩ := trodAll_nil r2
  obtain rfl : args = #[v0, v1, v2] := by cases args; simp_all
  obtain ⟨rfl, rfl⟩ := trodVars_none hV
  clear hargs
  have k0 := hval 0 56 v0 rfl rfl
  obtain ⟨fu0, m0⟩ := h0
  have w0 := weights_of hsz (j := 0) (t := 56) rfl rfl
  have F0 : Fit Try.prog 56 d0 := .inl w0
  have s0 := cells_agg Try.underlying56 k0
  obtain ⟨y0, E0, g0⟩ := vwCase.2.2 m0 F0
  obtain ⟨x0, u0, t0, r0q, rfl, e0, f0, j0⟩ := case_open E0
  obtain ⟨z0, s01, s02⟩ := s0
  have e0' := agg_of ⟨s01, s02⟩ e0
  subst e0'
  have k1 := hval 1 56 v1 rfl rfl
  obtain ⟨fu1, m1⟩ := h1
  have w1 := weights_of hsz (j := 1) (t := 56) rfl rfl
  have F1 : Fit Try.prog 56 d1 := .inl w1
  have s1 := cells_agg Try.underlying56 k1
  obtain ⟨y1, E1, g1⟩ := vwCase.2.2 m1 F1
  obtain ⟨x1, u1, t1, r1q, rfl, e1, f1, j1⟩ := case_open E1
  obtain ⟨z1, s11, s12⟩ := s1
  have e1' := agg_of ⟨s11, s12⟩ e1
  subst e1'
  have k2 := hval 2 59 v2 rfl rfl
  obtain ⟨fu2, m2⟩ := h2
  have w2 := weights_of hsz (j := 2) (t := 59) rfl rfl
  have F2 : Fit Try.prog 59 d2 := .inl w2
  have s2 := cells_agg Try.underlying59 k2
  obtain ⟨y2, E2, g2⟩ := vwConf.2.2 m2 F2
  obtain ⟨p2, l2, a2, n2, c2, rfl, e2, f2, j2⟩ := conf_open E2
  obtain ⟨z2, s21, s22⟩ := s2
  have e2' := agg_of ⟨s21, s22⟩ e2
  subst e2'
  refine (walk W x0 u0 t0 r0q f0 j0 x1 u1 t1 r1q f1 j1 p2 a2 n2 c2 l2 f2 j2).mono fun e W' ⟨he, bel⟩ => ?_
  subst he
  exact ⟨_, rfl, _, _, _, [], _, [], hW', trodAll_mk1 (shut_bool Try.underlying4 _), trodAll_again laidOut bel (by kernel_rfl) hA2, rfl, bel.frame _, fun h => by cases h⟩

theorem over : Rows.deedsApartRow.holds Try.pinned (OpenSpec.ofChange Rows.deedsApartSpec) :=
  OpenClaim.holds_of_wide 9 Try.f9 rfl rfl rfl rfl rfl rfl rfl ⟨rfl, rfl, rfl, rfl, rfl⟩ rfl rfl rfl rfl rfl (by kernel_rfl) Try.func9 (by kernel_rfl)
    (of_decide_eq_true (by kernel_rfl)) (by unfold Func.isWrapper; first | (rw [if_pos (by decide +kernel)]; kernel_rfl) | (rw [if_neg (by decide +kernel)]; exact ⟨rfl, rfl⟩))
    (fun os started H enc _ => lifted os started H enc)

theorem proved : Rows.DeedsApartSaid := over
#print axioms proved
end Go.Proofs.Ytnmhmbfhaiaaoaa.deedsApart
