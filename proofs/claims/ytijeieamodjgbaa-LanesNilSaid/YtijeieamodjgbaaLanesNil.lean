
/- LanesNil: a lane that isn't there carries nothing: for every input the law returns true, and its arguments read as before. No condition. -/
import Derived.Test.YtijeieamodjgbaaLn
import Derived.Test.YtijeieamodjgbaaView
namespace Go.Proofs.Ytijeieamodjgbaa.lanesNil
set_option maxRecDepth 100000
open Go.ChangeShapes Go.WideShapes Go.ChangeAt Go.RowKit Go.Deep
set_option linter.unusedVariables false
set_option linter.unusedSimpArgs false

theorem built19 (c0 c1 c2 c3 c4 c5 c6 c7 c8 c9 c10 c11 c12 c13 c14 c15 c16 c17 c18 : Value) : Try.prog.builtSlice 56 1 [(0, .agg #[c0, c1, c2, c3, c4, c5, c6, c7, c8, c9, c10, c11, c12, c13, c14, c15, c16, c17, c18])] = some #[c0, c1, c2, c3, c4, c5, c6, c7, c8, c9, c10, c11, c12, c13, c14, c15, c16, c17, c18] := by kernel_rfl
theorem built_one (cs : List Value) (hcl : cs.length = 19) : Try.prog.builtSlice 56 1 [(0, .agg cs.toArray)] = some cs.toArray := by
  match cs, hcl with
  | [c0, c1, c2, c3, c4, c5, c6, c7, c8, c9, c10, c11, c12, c13, c14, c15, c16, c17, c18], _ => exact built19 c0 c1 c2 c3 c4 c5 c6 c7 c8 c9 c10 c11 c12 c13 c14 c15 c16 c17 c18

set_option maxHeartbeats 2000000 in
theorem core (w : World) (cs : List Value) (hcl : cs.length = 19) (hone : cs.toArray.all (·.oneCell') = true) (n : Int) (hn : i64 n) :
    Calls Try.prog 11 #[.agg cs.toArray, .int .i64 n] w fun e w' => e = .returned (.bool true) ∧ Below w.heap.size w w' := by
  obtain ⟨w1, hw1⟩ : ∃ w1, w1 = w.alloc (.cells cs.toArray 56 (0, 0)) := ⟨_, rfl⟩
  have b1 : Below w.heap.size w w1 := by rw [hw1]; exact below_alloc _ _
  have k1 : w1.heap[w.heap.size]? = some (.cells cs.toArray 56 (0, 0)) := by rw [hw1]; exact blk_alloc _ _
  have hcs : cs.toArray.size = 19 := by rw [List.size_toArray, hcl]
  have hbs := built_one cs hcl
  generalize cs.toArray = CS at *
  have B1 := Lib.hid b1
  have K1 := Lib.hid k1
  clear b1 k1
  go_enter Try.func11, Try.ntmps11
  go_upto_region 1 with (fail)
  rw [← hw1]
  clear hw1
  go_wp2_with fail
  refine (lives20_any w1).mono ?_
  rintro r w2 ⟨rfl, b2⟩
  have K2 := Lib.hid (blk_below K1.out b2)
  have B2 := Lib.hid (bthen B1.out b2)
  clear b2 B1 K1
  go_upto_region 4 with (fail)
  have B2' := Lib.hid B2.out.size
  refine wp_region_lit ?_
  refine wpList_val (w' := w2) rfl (v := .pointer none) (by simp only [execOp]; go_simp) ?_
  simp only [Act.put, List.setIfInBounds_toArray, List.set_cons_succ, List.set_cons_zero]
  refine wpList_val (w' := w2) rfl (v := .agg CS) (load_pk _ _ (.tmp 2) rfl rfl K2.out hcs) ?_
  simp only [Act.put, List.setIfInBounds_toArray, List.set_cons_succ, List.set_cons_zero]
  refine Go.Great.wpList_buildSliceTo rfl 50 56 1 #[(0, .tmp 11)] rfl w2.heap.size rfl (some 12) rfl Try.underlying50 CS (Eq.trans (b := Try.prog.builtSlice 56 1 [(0, .agg CS)]) (by kernel_rfl) hbs) ?_
  obtain ⟨w3, hw3⟩ : ∃ u, u = w2.alloc (.cells CS 56 (0, 0)) := ⟨_, rfl⟩
  have b3 : Below w2.heap.size w2 w3 := by rw [hw3]; exact below_alloc _ _
  rw [← hw3]
  have K3 := Lib.hid (blk_below K2.out b3)
  have B3 := Lib.hid (bthen B2.out b3)
  clear hw3 b3 K2 B2 B2'
  simp only [Act.put, List.setIfInBounds_toArray, List.set_cons_succ, List.set_cons_zero]
  go_wp2_with fail
  refine (send_nil20 _ 1 1 w3).mono ?_
  rintro r w4 ⟨rfl, rfl⟩
  go_wp2_with fail
  refine (take_nil20 n w3).mono ?_
  rintro r w5 ⟨rfl, b5⟩
  have K5 := Lib.hid (blk_below K3.out b5)
  have B5 := Lib.hid (bthen B3.out b5)
  clear b5 K3 B3
  rename_i hK
  refine hK _ _ ?_
  clear hK
  refine wpList_val (w' := w5) rfl (v := .tuple #[.agg zeroPk.toArray, .bool false]) (by simp only [execOp]; go_simp) ?_
  simp only [Act.put, List.setIfInBounds_toArray, List.set_cons_succ, List.set_cons_zero]
  refine wpList_val (w' := w5) rfl (v := .agg zeroPk.toArray) (by simp only [execOp]; go_simp) ?_
  refine wpList_val (w' := w5) rfl (v := .bool false) (by simp only [execOp]; go_simp) ?_
  simp only [Act.put, List.setIfInBounds_toArray, List.set_cons_succ, List.set_cons_zero]
  refine wpList_boxpk rfl rfl (.tmp 6) (.tmp 18) rfl rfl zeroPk rfl (by simp [zeroPk, Value.oneCell']) rfl rfl fun w6 b6 _ _ => ?_
  have K6 := Lib.hid (blk_below K5.out b6)
  have B6 := Lib.hid (bthen B5.out b6)
  simp only [Act.put, List.setIfInBounds_toArray, List.set_cons_succ, List.set_cons_zero]
  clear b6 K5 B5
  go_wp2_with fail
  refine (drop_nil20 n w6).mono ?_
  rintro r w7 ⟨rfl, b7⟩
  have K7 := Lib.hid (blk_below K6.out b7)
  have B7 := Lib.hid (bthen B6.out b7)
  clear b7 K6 B6
  go_wp2_with fail
  refine (copy_nil20 n w7).mono ?_
  rintro r w8 ⟨rfl, rfl⟩
  rename_i hK
  refine hK _ _ ?_
  clear hK
  have B7' := Lib.hid B7.out.size
  refine wpList_gval (w' := w7) rfl (v := .bool true) (by simp only [execOp]; go_simp) ?_
  simp only [Act.put, List.setIfInBounds_toArray, List.set_cons_succ, List.set_cons_zero]
  refine wpList_gval (w' := w7) rfl (v := .bool true) (by simp only [execOp]; go_simp) ?_
  simp only [Act.put, List.setIfInBounds_toArray, List.set_cons_succ, List.set_cons_zero]
  refine wpList_gval (w' := w7) rfl (v := .bool true) (by simp only [execOp]; go_simp) ?_
  simp only [Act.put, List.setIfInBounds_toArray, List.set_cons_succ, List.set_cons_zero]
  refine wpList_gval (w' := w7) rfl (v := .pointer none) (by simp only [execOp]; go_simp) ?_
  simp only [Act.put, List.setIfInBounds_toArray, List.set_cons_succ, List.set_cons_zero]
  refine wpList_gval (w' := w7) rfl (v := .agg CS) (load_pk _ _ (.tmp 2) rfl rfl K7.out hcs) ?_
  simp only [Act.put, List.setIfInBounds_toArray, List.set_cons_succ, List.set_cons_zero]
  go_wp2_with fail
  refine (inject_nil20 CS w7).mono ?_
  rintro r w9 ⟨rfl, b9⟩
  have B9 := Lib.hid (bthen B7.out b9)
  clear b9 K7 B7 B7'
  go_wp2_with fail
  refine (len_nil20 w9).mono ?_
  rintro r w10 ⟨rfl, rfl⟩
  go_wp2_with fail
  go_ret
  exact ⟨rfl, B9.out⟩
theorem walk (w : World) (y : Pk) (a1 : Option Addr) (n1 c1 : Nat) (a2 : Option Addr) (n2 c2 : Nat) (a3 : Option Addr) (n3 c3 : Nat) (a4 : Option Addr) (n4 c4 : Nat) (hf : i64 y.fr) (ht : i64 y.tt) (hm : MsgIn w y.m a1 n1 c1 a2 n2 c2 a3 n3 c3 a4 n4 c4) (n : Int) (hn : i64 n) :
    Calls Try.prog 11 #[.agg (pkCs y a1 n1 c1 a2 n2 c2 a3 n3 c3 a4 n4 c4).toArray, .int .i64 n] w fun e w' => e = .returned (.bool true) ∧ Below w.heap.size w w' :=
  core w _ rfl (by simp [pkCs, mgCs, Value.oneCell']) n hn

set_option maxRecDepth 100000 in
theorem lifted (os : Os) (started : os.Started) (H : Type) (enc : TypeId × Value → H) :
    ReturnsInHanded {} Try.checked os 11 .any (Rows.lanesNilSpec.pre6 enc Try.prog Try.f11 Rows.lanesNilRow.domain false) (Rows.lanesNilSpec.post enc Try.prog Try.f11 false true false false) := by
  refine returnsInHanded_of_change_sized (C := Try.checked) own started (by kernel_rfl) Try.func11
    (ChangeSpec.witness6 (enc := enc) (C := Try.checked) false ⟨#[], #[.agg #[.int .i64 0, .int .i64 0, .int .i64 0, .int .i64 0, .int .i64 0, .int .i64 0, .int .i64 0, .int .i64 0, .int .i64 0, .string ⟨#[]⟩, .float .f64 0, .int .i64 0, .int .i64 0, .float .f64 0, .string ⟨#[]⟩, .slice none 0 0, .slice none 0 0, .slice none 0 0, .slice none 0 0], .int .i64 0], []⟩ 8 (by kernel_rfl) (by kernel_rfl) (by kernel_rfl) (by kernel_rfl)) ?_
  intro W base args ds gs before hval0 hW hcnd hsz _
  have hval : ∀ (j : Nat) t v, Try.f11.params[j]? = some t → args[j]? = some v → Value.okWide Try.prog W .any base t v := hval0
  have hW' := hW
  obtain ⟨p, q, hA0, hV, rfl, hfz, hnd⟩ := hW
  have hA : DataW.TrodAll enc Try.prog W 0 (fun _ => true) true Try.f11.params.toList args.toList ds p := hA0
  rw [Try.params11] at hA hval hsz
  have hA2 := hA
  obtain ⟨v0, vs0, d0, ds0, p0, q0, hargs, rfl, rfl, h0, r0⟩ := trodAll_cons hA
  obtain ⟨v1, vs1, d1, ds1, p1, q1, rfl, rfl, rfl, h1, r1⟩ := trodAll_cons r0
  obtain ⟨rfl, rfl, rfl⟩ := trodAll_nil r1
  obtain rfl : args = #[v0, v1] := by cases args; simp_all
  obtain ⟨rfl, rfl⟩ := trodVars_none hV
  clear hargs
  have k0 := hval 0 56 v0 rfl rfl
  obtain ⟨fu0, m0⟩ := h0
  have w0 := weights_of hsz (j := 0) (t := 56) rfl rfl
  have F0 : Fit Try.prog 56 d0 := .inl w0
  have s0 := cells_agg Try.underlying56 k0
  obtain ⟨y0, E0, g0⟩ := vwPk.2.2 m0 F0
  obtain ⟨pa1_0, pn1_0, pc1_0, pa2_0, pn2_0, pc2_0, pa3_0, pn3_0, pc3_0, pa4_0, pn4_0, pc4_0, e0, f0, t0, b0⟩ := pk_open E0
  obtain ⟨z0, s01, s02⟩ := s0
  have e0' := agg_of ⟨s01, s02⟩ e0
  subst e0'
  have k1 := hval 1 3 v1 rfl rfl
  obtain ⟨fu1, m1⟩ := h1
  have w1 := weights_of hsz (j := 1) (t := 3) rfl rfl
  obtain ⟨a1, e1, f1⟩ := view_int Try.underlying3 m1
  have e1' := int_of Try.underlying3 k1 e1
  subst e1'
  refine (walk W y0 pa1_0 pn1_0 pc1_0 pa2_0 pn2_0 pc2_0 pa3_0 pn3_0 pc3_0 pa4_0 pn4_0 pc4_0 f0 t0 b0 a1 f1).mono fun e W' ⟨he, bel⟩ => ?_
  subst he
  exact ⟨_, rfl, _, _, _, [], _, [], hW', trodAll_mk1 (shut_bool Try.underlying4 _), trodAll_again laidOut bel (by kernel_rfl) hA2, rfl, bel.frame _, fun h => by cases h⟩

theorem over : Rows.lanesNilRow.holds Try.pinned (OpenSpec.ofChange Rows.lanesNilSpec) :=
  OpenClaim.holds_of_wide 11 Try.f11 rfl rfl rfl rfl rfl rfl rfl ⟨rfl, rfl, rfl, rfl, rfl⟩ rfl rfl rfl rfl rfl (by kernel_rfl) Try.func11 (by kernel_rfl)
    (of_decide_eq_true (by kernel_rfl)) (by unfold Func.isWrapper; first | (rw [if_pos (by decide +kernel)]; kernel_rfl) | (rw [if_neg (by decide +kernel)]; exact ⟨rfl, rfl⟩))
    (fun os started H enc _ => lifted os started H enc)

theorem proved : Rows.LanesNilSaid := over
#print axioms proved
end Go.Proofs.Ytijeieamodjgbaa.lanesNil
