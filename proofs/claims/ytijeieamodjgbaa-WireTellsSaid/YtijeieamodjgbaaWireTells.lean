
/- WireTells: a message's bytes, or why it has none, is what the document says, whatever its fields: for every input the law returns true, and its arguments read as before. No condition. -/
import Derived.Test.YtijeieamodjgbaaWlv
import Derived.Test.YtijeieamodjgbaaRc
import Derived.Test.YtijeieamodjgbaaView
namespace Go.Proofs.Ytijeieamodjgbaa.wireTells
set_option maxRecDepth 100000
open Go.ChangeShapes Go.WideShapes Go.ChangeAt Go.RowKit Go.Deep
set_option linter.unusedVariables false
set_option linter.unusedSimpArgs false
attribute [local go_sem] run_store_float

set_option maxHeartbeats 4000000 in
theorem walk (w : World) (m : Mg) (a1 : Option Addr) (n1 c1 : Nat) (a2 : Option Addr) (n2 c2 : Nat) (a3 : Option Addr) (n3 c3 : Nat) (a4 : Option Addr) (n4 c4 : Nat) (hm : MsgIn w m a1 n1 c1 a2 n2 c2 a3 n3 c3 a4 n4 c4) :
    Calls Try.prog 3 #[.agg (mgCs m a1 n1 c1 a2 n2 c2 a3 n3 c3 a4 n4 c4).toArray] w fun e w' => e = .returned (.bool true) ∧ Below w.heap.size w w' := by
  obtain ⟨w1, hw1⟩ : ∃ u, u = w.alloc (.cells (mgCs m a1 n1 c1 a2 n2 c2 a3 n3 c3 a4 n4 c4).toArray 34 (0, 0)) := ⟨_, rfl⟩
  have bw1 : Below w.heap.size w w1 := by rw [hw1]; exact below_alloc _ _
  have K1 := Lib.hid (show w1.heap[w.heap.size]? = some (.cells (mgCs m a1 n1 c1 a2 n2 c2 a3 n3 c3 a4 n4 c4).toArray 34 (0, 0)) by rw [hw1]; exact blk_alloc _ _)
  have B1 := Lib.hid bw1
  obtain ⟨CS, hCS⟩ : ∃ CS, CS = (mgCs m a1 n1 c1 a2 n2 c2 a3 n3 c3 a4 n4 c4).toArray := ⟨_, rfl⟩
  rw [← hCS] at hw1 ⊢
  have HCS := Lib.hid hCS
  have CB := Lib.hid (show ∀ u, Below w.heap.size w u → Calls Try.prog 14 #[.agg CS] u fun e w' => e = .returned (.tuple #[.string (mgText m), .int .i64 (mgErr m)]) ∧ Below u.heap.size u w' from fun u hb => by rw [hCS]; exact bytes13_any m a1 n1 c1 a2 n2 c2 a3 n3 c3 a4 n4 c4 u (hm.old hb))
  have CR := Lib.hid (show ∀ u, Below w.heap.size w u → Calls Try.prog 15 #[.agg CS] u fun e w' => e = .returned (.tuple #[.string (mgText m), .int .i64 (mgErr m)]) ∧ Below u.heap.size u w' from fun u hb => by rw [hCS]; exact rbytes13_any m a1 n1 c1 a2 n2 c2 a3 n3 c3 a4 n4 c4 u (hm.old hb))
  generalize mgText m = T at *
  generalize mgErr m = E at *
  clear hCS bw1 hm
  go_enter Try.func3, Try.ntmps3
  go_upto_region 1 with (fail)
  rw [← hw1]
  clear hw1
  go_wp2_with fail
  refine (lives13_any w1).mono ?_
  rintro r w2 ⟨rfl, b2⟩
  have K2 := Lib.hid (blk_below K1.out b2)
  have B2 := Lib.hid (bthen B1.out b2)
  clear b2 B1 K1
  go_upto_region 3 with (fail)
  refine wp_region_lit ?_
  refine ops_val rfl (w' := w2) (v := .agg CS) (load_row _ _ (.tmp 1) Try.underlying34 rfl (by rw [HCS.out, List.size_toArray]; exact info_mg) rfl rfl (by rw [HCS.out]; exact K2.out)) ?_
  simp only [Act.put, List.setIfInBounds_toArray, List.set_cons_succ, List.set_cons_zero]
  go_wp2_with fail
  refine (CB.out w2 B2.out).mono ?_
  rintro r w3 ⟨rfl, b3⟩
  have K3 := Lib.hid (blk_below K2.out b3)
  have B3 := Lib.hid (bthen B2.out b3)
  clear b3 B2 K2
  go_upto_region 4 with (fail)
  refine wp_region_lit ?_
  refine ops_val rfl (w' := w3) (v := .agg CS) (load_row _ _ (.tmp 1) Try.underlying34 rfl (by rw [HCS.out, List.size_toArray]; exact info_mg) rfl rfl (by rw [HCS.out]; exact K3.out)) ?_
  simp only [Act.put, List.setIfInBounds_toArray, List.set_cons_succ, List.set_cons_zero]
  go_wp2_with fail
  refine (CR.out w3 B3.out).mono ?_
  rintro r w4 ⟨rfl, b4⟩
  have B4 := Lib.hid (bthen B3.out b4)
  clear b4 B3 K3
  go_wp2_with fail
  go_ret
  exact ⟨by simp, B4.out⟩

set_option maxRecDepth 100000 in
theorem lifted (os : Os) (started : os.Started) (H : Type) (enc : TypeId × Value → H) :
    ReturnsInHanded {} Try.checked os 3 .any (Rows.wireTellsSpec.pre6 enc Try.prog Try.f3 Rows.wireTellsRow.domain false) (Rows.wireTellsSpec.post enc Try.prog Try.f3 false true false false) := by
  refine returnsInHanded_of_change_sized (C := Try.checked) own started (by kernel_rfl) Try.func3
    (ChangeSpec.witness6 (enc := enc) (C := Try.checked) false ⟨#[], #[.agg #[.int .i64 0, .int .i64 0, .int .i64 0, .int .i64 0, .int .i64 0, .int .i64 0, .int .i64 0, .string ⟨#[]⟩, .float .f64 0, .int .i64 0, .int .i64 0, .float .f64 0, .string ⟨#[]⟩, .slice none 0 0, .slice none 0 0, .slice none 0 0, .slice none 0 0]], []⟩ 8 (by kernel_rfl) (by kernel_rfl) (by kernel_rfl) (by kernel_rfl)) ?_
  intro W base args ds gs before hval0 hW hcnd hsz _
  have hval : ∀ (j : Nat) t v, Try.f3.params[j]? = some t → args[j]? = some v → Value.okWide Try.prog W .any base t v := hval0
  have hW' := hW
  obtain ⟨p, q, hA0, hV, rfl, hfz, hnd⟩ := hW
  have hA : DataW.TrodAll enc Try.prog W 0 (fun _ => true) true Try.f3.params.toList args.toList ds p := hA0
  rw [Try.params3] at hA hval hsz
  have hA2 := hA
  obtain ⟨v0, vs0, d0, ds0, p0, q0, hargs, rfl, rfl, h0, r0⟩ := trodAll_cons hA
  obtain ⟨rfl, rfl, rfl⟩ := trodAll_nil r0
  obtain rfl : args = #[v0] := by cases args; simp_all
  obtain ⟨rfl, rfl⟩ := trodVars_none hV
  clear hargs
  have k0 := hval 0 34 v0 rfl rfl
  obtain ⟨fu0, m0⟩ := h0
  have w0 := weights_of hsz (j := 0) (t := 34) rfl rfl
  have F0 : Fit Try.prog 34 d0 := .inl w0
  have s0 := cells_agg Try.underlying34 k0
  obtain ⟨y0, E0, g0⟩ := vwMsg.2.2 m0 F0
  obtain ⟨pa1_0, pn1_0, pc1_0, pa2_0, pn2_0, pc2_0, pa3_0, pn3_0, pc3_0, pa4_0, pn4_0, pc4_0, e0, b0⟩ := msg_open E0
  obtain ⟨z0, s01, s02⟩ := s0
  have e0' := agg_of ⟨s01, s02⟩ e0
  subst e0'
  refine (walk W y0 pa1_0 pn1_0 pc1_0 pa2_0 pn2_0 pc2_0 pa3_0 pn3_0 pc3_0 pa4_0 pn4_0 pc4_0 b0).mono fun e W' ⟨he, bel⟩ => ?_
  subst he
  exact ⟨_, rfl, _, _, _, [], _, [], hW', trodAll_mk1 (shut_bool Try.underlying4 _), trodAll_again laidOut bel (by kernel_rfl) hA2, rfl, bel.frame _, fun h => by cases h⟩

theorem over : Rows.wireTellsRow.holds Try.pinned (OpenSpec.ofChange Rows.wireTellsSpec) :=
  OpenClaim.holds_of_wide 3 Try.f3 rfl rfl rfl rfl rfl rfl rfl ⟨rfl, rfl, rfl, rfl, rfl⟩ rfl rfl rfl rfl rfl (by kernel_rfl) Try.func3 (by kernel_rfl)
    (of_decide_eq_true (by kernel_rfl)) (by unfold Func.isWrapper; first | (rw [if_pos (by decide +kernel)]; kernel_rfl) | (rw [if_neg (by decide +kernel)]; exact ⟨rfl, rfl⟩))
    (fun os started H enc _ => lifted os started H enc)

theorem proved : Rows.WireTellsSaid := over
#print axioms proved
end Go.Proofs.Ytijeieamodjgbaa.wireTells
