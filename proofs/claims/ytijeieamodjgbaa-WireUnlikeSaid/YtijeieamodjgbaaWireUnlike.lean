
/- WireUnlike: two messages have the same bytes just if they are the same: for every input the law returns true, and its arguments read as before. No condition. -/
import Derived.Test.YtijeieamodjgbaaWlb
import Derived.Test.YtijeieamodjgbaaView
namespace Go.Proofs.Ytijeieamodjgbaa.wireUnlike
set_option maxRecDepth 100000
open Go.ChangeShapes Go.WideShapes Go.ChangeAt Go.RowKit Go.Deep
set_option linter.unusedVariables false
set_option linter.unusedSimpArgs false
attribute [local go_sem] run_store_float

set_option maxHeartbeats 4000000 in
theorem walk (w : World) (m : Mg) (a1 : Option Addr) (n1 c1 : Nat) (a2 : Option Addr) (n2 c2 : Nat) (a3 : Option Addr) (n3 c3 : Nat) (a4 : Option Addr) (n4 c4 : Nat) (hm : MsgIn w m a1 n1 c1 a2 n2 c2 a3 n3 c3 a4 n4 c4) (m' : Mg) (a1' : Option Addr) (n1' c1' : Nat) (a2' : Option Addr) (n2' c2' : Nat) (a3' : Option Addr) (n3' c3' : Nat) (a4' : Option Addr) (n4' c4' : Nat) (hm' : MsgIn w m' a1' n1' c1' a2' n2' c2' a3' n3' c3' a4' n4' c4') :
    Calls Try.prog 6 #[.agg (mgCs m a1 n1 c1 a2 n2 c2 a3 n3 c3 a4 n4 c4).toArray, .agg (mgCs m' a1' n1' c1' a2' n2' c2' a3' n3' c3' a4' n4' c4').toArray] w fun e w' => e = .returned (.bool true) ∧ Below w.heap.size w w' := by
  obtain ⟨w1, hw1⟩ : ∃ u, u = w.alloc (.cells (mgCs m a1 n1 c1 a2 n2 c2 a3 n3 c3 a4 n4 c4).toArray 34 (0, 0)) := ⟨_, rfl⟩
  have bw1 : Below w.heap.size w w1 := by rw [hw1]; exact below_alloc _ _
  obtain ⟨w1b, hw1b⟩ : ∃ u, u = w1.alloc (.cells (mgCs m' a1' n1' c1' a2' n2' c2' a3' n3' c3' a4' n4' c4').toArray 34 (0, 0)) := ⟨_, rfl⟩
  have bw1b : Below w1.heap.size w1 w1b := by rw [hw1b]; exact below_alloc _ _
  have hz1 : w1.heap.size = w.heap.size + 1 := by rw [hw1]; simp
  have K0 := Lib.hid (show w1b.heap[w.heap.size]? = some (.cells (mgCs m a1 n1 c1 a2 n2 c2 a3 n3 c3 a4 n4 c4).toArray 34 (0, 0)) from blk_below (by rw [hw1]; exact blk_alloc _ _) bw1b)
  have K1 := Lib.hid (show w1b.heap[w.heap.size + 1]? = some (.cells (mgCs m' a1' n1' c1' a2' n2' c2' a3' n3' c3' a4' n4' c4').toArray 34 (0, 0)) by rw [← hz1, hw1b]; exact blk_alloc _ _)
  have B1 := Lib.hid (bthen bw1 bw1b)
  have HM := Lib.hid hm
  have HM' := Lib.hid hm'
  have HU := Lib.hid (fun (h : mgErr m = 0) (h' : mgErr m' = 0) => unlike13 h h' (msg_b hm) (msg_b hm'))
  obtain ⟨CS, hCS⟩ : ∃ CS, CS = (mgCs m a1 n1 c1 a2 n2 c2 a3 n3 c3 a4 n4 c4).toArray := ⟨_, rfl⟩
  rw [← hCS] at hw1 ⊢
  have HCS := Lib.hid hCS
  obtain ⟨CS', hCS'⟩ : ∃ CS, CS = (mgCs m' a1' n1' c1' a2' n2' c2' a3' n3' c3' a4' n4' c4').toArray := ⟨_, rfl⟩
  rw [← hCS'] at hw1b ⊢
  have HCS' := Lib.hid hCS'
  clear hCS hCS' bw1 bw1b hm hm' hz1
  go_enter Try.func6, Try.ntmps6
  go_upto_region 1 with (fail)
  rw [← hw1, ← hw1b]
  clear hw1 hw1b
  go_wp2_with fail
  refine (lives13_any w1b).mono ?_
  rintro r w2 ⟨rfl, b2⟩
  have K2 := Lib.hid (blk_below K0.out b2)
  have L2 := Lib.hid (blk_below K1.out b2)
  have B2 := Lib.hid (bthen B1.out b2)
  have CB0 := bytes13_any m a1 n1 c1 a2 n2 c2 a3 n3 c3 a4 n4 c4 w2 (HM.out.old B2.out)
  rw [← HCS.out] at CB0
  have CB := Lib.hid CB0
  clear b2 B1 K0 K1 CB0
  go_upto_region 3 with (fail)
  refine wp_region_lit ?_
  refine ops_val rfl (w' := w2) (v := .agg CS) (load_row _ _ (.tmp 2) Try.underlying34 rfl (by rw [HCS.out, List.size_toArray]; exact info_mg) rfl rfl (by rw [HCS.out]; exact K2.out)) ?_
  simp only [Act.put, List.setIfInBounds_toArray, List.set_cons_succ, List.set_cons_zero]
  generalize mgText m = T at *
  generalize mgErr m = E at *
  go_wp2_with fail
  refine CB.out.mono ?_
  rintro r w3 ⟨rfl, b3⟩
  have B3 := Lib.hid (bthen B2.out b3)
  have K3 := Lib.hid (blk_below K2.out b3)
  have L3 := Lib.hid (blk_below L2.out b3)
  have CB0 := bytes13_any m' a1' n1' c1' a2' n2' c2' a3' n3' c3' a4' n4' c4' w3 (HM'.out.old B3.out)
  rw [← HCS'.out] at CB0
  clear b3 CB K2 L2 B2
  have CB := Lib.hid CB0
  clear CB0
  go_upto_region 4 with (fail)
  refine wp_region_lit ?_
  refine ops_val rfl (w' := w3) (v := .agg CS') (load_row _ _ (.tmp 3) Try.underlying34 rfl (by rw [HCS'.out, List.size_toArray]; exact info_mg) rfl rfl (by rw [HCS'.out]; exact L3.out)) ?_
  simp only [Act.put, List.setIfInBounds_toArray, List.set_cons_succ, List.set_cons_zero]
  generalize mgText m' = T' at *
  generalize mgErr m' = E' at *
  go_wp2_with fail
  refine CB.out.mono ?_
  rintro r w4 ⟨rfl, b4⟩
  have B4 := Lib.hid (bthen B3.out b4)
  have K4 := Lib.hid (blk_below K3.out b4)
  have L4 := Lib.hid (blk_below L3.out b4)
  clear b4 CB K3 L3 B3
  by_cases hE : E = 0
  · by_cases hE' : E' = 0
    · subst hE hE'
      have hu := HU.out rfl rfl
      clear HU
      have CS0 := samemsg_any m a1 n1 c1 a2 n2 c2 a3 n3 c3 a4 n4 c4 m' a1' n1' c1' a2' n2' c2' a3' n3' c3' a4' n4' c4' w4 (HM.out.old B4.out) (HM'.out.old B4.out)
      rw [← HCS.out, ← HCS'.out] at CS0
      have heq : (T.toList == T'.toList) = decide (m.canon = m'.canon) := by
        by_cases hT : T = T'
        · rw [decide_eq_true (hu.1 hT), hT]; simp
        · rw [decide_eq_false (fun h => hT (hu.2 h))]; exact str_neq hT
      generalize decide (m.canon = m'.canon) = R at *
      have CT := Lib.hid CS0
      clear CS0 hu
      go_upto_region 5 with (fail)
      refine wp_region_lit ?_
      refine ops_val rfl (w' := w4) (v := .int .i64 0) (by simp only [execOp]; go_simp) ?_
      simp only [Act.put, List.setIfInBounds_toArray, List.set_cons_succ, List.set_cons_zero]
      refine ops_val rfl (w' := w4) (v := .bool false) (by simp only [execOp]; go_simp) ?_
      simp only [Act.put, List.setIfInBounds_toArray, List.set_cons_succ, List.set_cons_zero]
      refine ops_val rfl (w' := w4) (v := .bool false) (by simp only [execOp]; go_simp) ?_
      simp only [Act.put, List.setIfInBounds_toArray, List.set_cons_succ, List.set_cons_zero]
      refine ops_val rfl (w' := w4) (v := .int .i64 0) (by simp only [execOp]; go_simp) ?_
      simp only [Act.put, List.setIfInBounds_toArray, List.set_cons_succ, List.set_cons_zero]
      refine ops_val rfl (w' := w4) (v := .bool false) (by simp only [execOp]; go_simp) ?_
      simp only [Act.put, List.setIfInBounds_toArray, List.set_cons_succ, List.set_cons_zero]
      refine ops_val rfl (w' := w4) (v := .bool false) (by simp only [execOp]; go_simp) ?_
      simp only [Act.put, List.setIfInBounds_toArray, List.set_cons_succ, List.set_cons_zero]
      refine ops_val rfl (w' := w4) (v := .bool false) (by simp only [execOp]; go_simp) ?_
      simp only [Act.put, List.setIfInBounds_toArray, List.set_cons_succ, List.set_cons_zero]
      refine ops_val rfl (w' := w4) (v := .string T) (by simp only [execOp]; go_simp) ?_
      simp only [Act.put, List.setIfInBounds_toArray, List.set_cons_succ, List.set_cons_zero]
      refine ops_val rfl (w' := w4) (v := .string T') (by simp only [execOp]; go_simp) ?_
      simp only [Act.put, List.setIfInBounds_toArray, List.set_cons_succ, List.set_cons_zero]
      refine ops_val rfl (w' := w4) (v := .bool R) (by simp only [execOp]; go_simp) ?_
      simp only [Act.put, List.setIfInBounds_toArray, List.set_cons_succ, List.set_cons_zero]
      refine ops_val rfl (w' := w4) (v := .agg CS) (load_row _ _ (.tmp 2) Try.underlying34 rfl (by rw [HCS.out, List.size_toArray]; exact info_mg) rfl rfl (by rw [HCS.out]; exact K4.out)) ?_
      simp only [Act.put, List.setIfInBounds_toArray, List.set_cons_succ, List.set_cons_zero]
      refine ops_val rfl (w' := w4) (v := .agg CS') (load_row _ _ (.tmp 3) Try.underlying34 rfl (by rw [HCS'.out, List.size_toArray]; exact info_mg) rfl rfl (by rw [HCS'.out]; exact L4.out)) ?_
      simp only [Act.put, List.setIfInBounds_toArray, List.set_cons_succ, List.set_cons_zero]
      go_wp2_with fail
      refine CT.out.mono ?_
      rintro r w5 ⟨rfl, b5⟩
      have B5 := Lib.hid (bthen B4.out b5)
      have hrr : (R == R) = true := by simp
      clear b5 CT
      go_wp2_with fail
      go_ret
      exact ⟨rfl, B5.out⟩
    · subst hE
      have hne : (E' != 0) = true := by simpa using hE'
      clear hE' HU
      go_wp2_with fail
      go_ret
      exact ⟨rfl, B4.out⟩
  · have hne : (E != 0) = true := by simpa using hE
    clear hE HU
    go_wp2_with fail
    go_ret
    exact ⟨rfl, B4.out⟩

set_option maxRecDepth 100000 in
theorem lifted (os : Os) (started : os.Started) (H : Type) (enc : TypeId × Value → H) :
    ReturnsInHanded {} Try.checked os 6 .any (Rows.wireUnlikeSpec.pre6 enc Try.prog Try.f6 Rows.wireUnlikeRow.domain false) (Rows.wireUnlikeSpec.post enc Try.prog Try.f6 false true false false) := by
  refine returnsInHanded_of_change_sized (C := Try.checked) own started (by kernel_rfl) Try.func6
    (ChangeSpec.witness6 (enc := enc) (C := Try.checked) false ⟨#[], #[.agg #[.int .i64 0, .int .i64 0, .int .i64 0, .int .i64 0, .int .i64 0, .int .i64 0, .int .i64 0, .string ⟨#[]⟩, .float .f64 0, .int .i64 0, .int .i64 0, .float .f64 0, .string ⟨#[]⟩, .slice none 0 0, .slice none 0 0, .slice none 0 0, .slice none 0 0], .agg #[.int .i64 0, .int .i64 0, .int .i64 0, .int .i64 0, .int .i64 0, .int .i64 0, .int .i64 0, .string ⟨#[]⟩, .float .f64 0, .int .i64 0, .int .i64 0, .float .f64 0, .string ⟨#[]⟩, .slice none 0 0, .slice none 0 0, .slice none 0 0, .slice none 0 0]], []⟩ 8 (by kernel_rfl) (by kernel_rfl) (by kernel_rfl) (by kernel_rfl)) ?_
  intro W base args ds gs before hval0 hW hcnd hsz _
  have hval : ∀ (j : Nat) t v, Try.f6.params[j]? = some t → args[j]? = some v → Value.okWide Try.prog W .any base t v := hval0
  have hW' := hW
  obtain ⟨p, q, hA0, hV, rfl, hfz, hnd⟩ := hW
  have hA : DataW.TrodAll enc Try.prog W 0 (fun _ => true) true Try.f6.params.toList args.toList ds p := hA0
  rw [Try.params6] at hA hval hsz
  have hA2 := hA
  obtain ⟨v0, vs0, d0, ds0, p0, q0, hargs, rfl, rfl, h0, r0⟩ := trodAll_cons hA
  obtain ⟨v1, vs1, d1, ds1, p1, q1, rfl, rfl, rfl, h1, r1⟩ := trodAll_cons r0
  obtain ⟨rfl, rfl, rfl⟩ := trodAll_nil r1
  obtain rfl : args = #[v0, v1] := by cases args; simp_all
  obtain ⟨rfl, rfl⟩ := trodVars_none hV
  clear hargs
  have k0 := hval 0 34 v0 rfl rfl
  obtain ⟨fu0, m0⟩ := h0
  have w0 := weights_of hsz (j := 0) (t := 34) rfl rfl
  have F0 : Fit Try.prog 34 d0 := .inl w0
  have s0 := cells_agg Try.underlying34 k0
  obtain ⟨y0, E0, g0⟩ := vwMsg.2.2 m0 F0
  obtain ⟨pa1_0, pn1_0, pc1_0, pa2_0, pn2_0, pc2_0, pa3_0, pn3_0, pc3_0, pa4_0, pn4_0, pc4_0, e0, b0⟩ := msg_open E0
  obtain ⟨z0, s01, s02⟩ := s0
  have e0' := agg_of ⟨s01, s02⟩ e0
  subst e0'
  have k1 := hval 1 34 v1 rfl rfl
  obtain ⟨fu1, m1⟩ := h1
  have w1 := weights_of hsz (j := 1) (t := 34) rfl rfl
  have F1 : Fit Try.prog 34 d1 := .inl w1
  have s1 := cells_agg Try.underlying34 k1
  obtain ⟨y1, E1, g1⟩ := vwMsg.2.2 m1 F1
  obtain ⟨pa1_1, pn1_1, pc1_1, pa2_1, pn2_1, pc2_1, pa3_1, pn3_1, pc3_1, pa4_1, pn4_1, pc4_1, e1, b1⟩ := msg_open E1
  obtain ⟨z1, s11, s12⟩ := s1
  have e1' := agg_of ⟨s11, s12⟩ e1
  subst e1'
  refine (walk W y0 pa1_0 pn1_0 pc1_0 pa2_0 pn2_0 pc2_0 pa3_0 pn3_0 pc3_0 pa4_0 pn4_0 pc4_0 b0 y1 pa1_1 pn1_1 pc1_1 pa2_1 pn2_1 pc2_1 pa3_1 pn3_1 pc3_1 pa4_1 pn4_1 pc4_1 b1).mono fun e W' ⟨he, bel⟩ => ?_
  subst he
  exact ⟨_, rfl, _, _, _, [], _, [], hW', trodAll_mk1 (shut_bool Try.underlying4 _), trodAll_again laidOut bel (by kernel_rfl) hA2, rfl, bel.frame _, fun h => by cases h⟩

theorem over : Rows.wireUnlikeRow.holds Try.pinned (OpenSpec.ofChange Rows.wireUnlikeSpec) :=
  OpenClaim.holds_of_wide 6 Try.f6 rfl rfl rfl rfl rfl rfl rfl ⟨rfl, rfl, rfl, rfl, rfl⟩ rfl rfl rfl rfl rfl (by kernel_rfl) Try.func6 (by kernel_rfl)
    (of_decide_eq_true (by kernel_rfl)) (by unfold Func.isWrapper; first | (rw [if_pos (by decide +kernel)]; kernel_rfl) | (rw [if_neg (by decide +kernel)]; exact ⟨rfl, rfl⟩))
    (fun os started H enc _ => lifted os started H enc)

theorem proved : Rows.WireUnlikeSaid := over
#print axioms proved
end Go.Proofs.Ytijeieamodjgbaa.wireUnlike
