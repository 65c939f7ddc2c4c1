
/- WireReads: what any bytes are read as, or why not, is what the document says: for every text the law returns true, and its argument reads as before. No condition. -/
import Derived.Test.YtijeieamodjgbaaGreatRw
import Derived.Test.YtijeieamodjgbaaGreatWlv
import Derived.Test.YtijeieamodjgbaaGreatWsm
import Derived.Test.YtijeieamodjgbaaGreatView

namespace Go.Proofs.YtijeieamodjgbaaGreat.wireReads
set_option maxRecDepth 100000
open Go.ChangeShapes Go.WideShapes Go.ChangeAt Go.RowKit Go.Deep
set_option linter.unusedVariables false
set_option linter.unusedSimpArgs false
attribute [local go_sem] run_store_float

set_option maxHeartbeats 4000000 in
theorem walk (w : World) (text : ByteArray) (htx : text.size ≤ 140737488351232) :
    Calls Tryz.prog 3 #[.string text] w fun e w' => e = .returned (.bool true) ∧ Below w.heap.size w w' := by
  have hts : text.size ≤ 1125899906842624 := by omega
  go_enter Tryz.func3, Tryz.ntmps3
  go_wp2_with fail
  refine (lives13_any w).mono ?_
  rintro r w1 ⟨rfl, b1⟩
  have B1 := Lib.hid b1
  have CA0 := read13_any text w1 hts
  have CB0 := fun u => rread13_any text u hts
  unfold ReadP13 at CA0 CB0
  have hc : decide ((rdMsg13 text).canon = (rdMsg13 text).canon) = true := decide_eq_true rfl
  generalize rdMsg13 text = m at *
  generalize rdErr13 text = EE at *
  have CA := Lib.hid CA0
  have CB := Lib.hid CB0
  have CS := Lib.hid (show ∀ (u : World) a1 n1 c1 a2 n2 c2 a3 n3 c3 a4 n4 c4 a1' n1' c1' a2' n2' c2' a3' n3' c3' a4' n4' c4', MsgIn u m a1 n1 c1 a2 n2 c2 a3 n3 c3 a4 n4 c4 → MsgIn u m a1' n1' c1' a2' n2' c2' a3' n3' c3' a4' n4' c4' → Calls Tryz.prog 8 #[.agg (mgCs m a1 n1 c1 a2 n2 c2 a3 n3 c3 a4 n4 c4).toArray, .agg (mgCs m a1' n1' c1' a2' n2' c2' a3' n3' c3' a4' n4' c4').toArray] u fun e w' => e = .returned (.bool true) ∧ Below u.heap.size u w' from fun u a1 n1 c1 a2 n2 c2 a3 n3 c3 a4 n4 c4 a1' n1' c1' a2' n2' c2' a3' n3' c3' a4' n4' c4' h h' => by
    have g := samemsg_any m a1 n1 c1 a2 n2 c2 a3 n3 c3 a4 n4 c4 m a1' n1' c1' a2' n2' c2' a3' n3' c3' a4' n4' c4' u h h'
    rwa [hc] at g)
  clear b1 hc CA0 CB0
  go_wp2_with fail
  refine CA.out.mono ?_
  rintro r w2 ⟨bw2, csa, rfl, hEa⟩
  have bw2' := bw2
  obtain ⟨a1a, n1a, c1a, a2a, n2a, c2a, a3a, n3a, c3a, a4a, n4a, c4a, rfl, hmia⟩ := msg_open hEa.self
  rename_i hK
  refine hK _ _ ?_
  clear hK hEa
  obtain ⟨CSa, hCSa⟩ : ∃ CS, CS = (mgCs m a1a n1a c1a a2a n2a c2a a3a n3a c3a a4a n4a c4a).toArray := ⟨_, rfl⟩
  rw [← hCSa]
  have HCSa := Lib.hid hCSa
  have HMa := Lib.hid hmia
  have Bw2 := Lib.hid (bthen B1.out bw2)
  clear hCSa hmia
  refine ops_val rfl (w' := w2) (v := .tuple #[.agg CSa, .int .i64 EE]) (by simp only [execOp]; go_simp) ?_
  simp only [Act.put, List.setIfInBounds_toArray, List.set_cons_succ, List.set_cons_zero]
  refine ops_val rfl (w' := w2) (v := .agg CSa) (by simp only [execOp]; go_simp) ?_
  simp only [Act.put, List.setIfInBounds_toArray, List.set_cons_succ, List.set_cons_zero]
  refine ops_val rfl (w' := w2) (v := .int .i64 EE) (by simp only [execOp]; go_simp) ?_
  simp only [Act.put, List.setIfInBounds_toArray, List.set_cons_succ, List.set_cons_zero]
  refine ops_made 35 zeroMg rfl rfl (.tmp 3) (.tmp 12) (fun ρ w => alloc_msg ρ _ rfl w) rfl (mgCs m a1a n1a c1a a2a n2a c2a a3a n3a c3a a4a n4a c4a) rfl (by kernel_rfl) (mg_one _ a1a n1a c1a a2a n2a c2a a3a n3a c3a a4a n4a c4a) rfl (by rw [HCSa.out]; rfl) fun w3 bw3 kw3 zw3 => ?_
  simp only [Act.put, List.setIfInBounds_toArray, List.set_cons_succ, List.set_cons_zero]
  have Bw3 := Lib.hid (bthen Bw2.out bw3)
  have Ma := Lib.hid (HMa.out.old bw3)
  have Ka := Lib.hid kw3
  clear bw2 bw2' CA
  go_wp2_with fail
  refine (CB.out w3).mono ?_
  rintro r w4 ⟨bw4, csb, rfl, hEb⟩
  obtain ⟨a1b, n1b, c1b, a2b, n2b, c2b, a3b, n3b, c3b, a4b, n4b, c4b, rfl, hmib⟩ := msg_open hEb.self
  rename_i hK
  refine hK _ _ ?_
  clear hK hEb
  obtain ⟨CSb, hCSb⟩ : ∃ CS, CS = (mgCs m a1b n1b c1b a2b n2b c2b a3b n3b c3b a4b n4b c4b).toArray := ⟨_, rfl⟩
  rw [← hCSb]
  have HCSb := Lib.hid hCSb
  have HMb := Lib.hid hmib
  have Bw4 := Lib.hid (bthen Bw3.out bw4)
  clear hCSb hmib
  refine ops_val rfl (w' := w4) (v := .tuple #[.agg CSb, .int .i64 EE]) (by simp only [execOp]; go_simp) ?_
  simp only [Act.put, List.setIfInBounds_toArray, List.set_cons_succ, List.set_cons_zero]
  refine ops_val rfl (w' := w4) (v := .agg CSb) (by simp only [execOp]; go_simp) ?_
  simp only [Act.put, List.setIfInBounds_toArray, List.set_cons_succ, List.set_cons_zero]
  refine ops_val rfl (w' := w4) (v := .int .i64 EE) (by simp only [execOp]; go_simp) ?_
  simp only [Act.put, List.setIfInBounds_toArray, List.set_cons_succ, List.set_cons_zero]
  refine ops_made 35 zeroMg rfl rfl (.tmp 5) (.tmp 17) (fun ρ w => alloc_msg ρ _ rfl w) rfl (mgCs m a1b n1b c1b a2b n2b c2b a3b n3b c3b a4b n4b c4b) rfl (by kernel_rfl) (mg_one _ a1b n1b c1b a2b n2b c2b a3b n3b c3b a4b n4b c4b) rfl (by rw [HCSb.out]; rfl) fun w5 bw5 kw5 zw5 => ?_
  simp only [Act.put, List.setIfInBounds_toArray, List.set_cons_succ, List.set_cons_zero]
  have Bw5 := Lib.hid (bthen Bw4.out bw5)
  have Mb := Lib.hid (HMb.out.old bw5)
  have Kb := Lib.hid kw5
  have Ka' := Lib.hid (blk_below Ka.out (bthen bw4 bw5))
  have Ma' := Lib.hid (Ma.out.old (bthen bw4 bw5))
  have CT0 := CS.out w5 _ _ _ _ _ _ _ _ _ _ _ _ _ _ _ _ _ _ _ _ _ _ _ _ Ma'.out Mb.out
  rw [← HCSa.out, ← HCSb.out] at CT0
  have CT := Lib.hid CT0
  clear bw4 bw5 CT0 CB CS
  have hee : (EE == EE) = true := by simp
  go_upto_region 5 with (fail)
  refine wp_region_lit ?_
  refine wpL_val rfl (w' := w5) (v := .int .i64 EE) (by simp only [execOp]; go_simp) ?_
  simp only [Act.put, List.setIfInBounds_toArray, List.set_cons_succ, List.set_cons_zero]
  refine wpL_val rfl (w' := w5) (v := .int .i64 EE) (by simp only [execOp]; go_simp) ?_
  simp only [Act.put, List.setIfInBounds_toArray, List.set_cons_succ, List.set_cons_zero]
  refine wpL_val rfl (w' := w5) (v := .bool true) (by simp only [execOp]; go_simp) ?_
  simp only [Act.put, List.setIfInBounds_toArray, List.set_cons_succ, List.set_cons_zero]
  refine wpL_val rfl (w' := w5) (v := .bool true) (by simp only [execOp]; go_simp) ?_
  simp only [Act.put, List.setIfInBounds_toArray, List.set_cons_succ, List.set_cons_zero]
  refine wpL_val rfl (w' := w5) (v := .agg CSa) (load_row _ _ (.tmp 3) Tryz.underlying35 rfl (by rw [HCSa.out, List.size_toArray]; exact info_mg) rfl rfl (by rw [HCSa.out]; exact Ka'.out)) ?_
  simp only [Act.put, List.setIfInBounds_toArray, List.set_cons_succ, List.set_cons_zero]
  refine wpL_val rfl (w' := w5) (v := .agg CSb) (load_row _ _ (.tmp 5) Tryz.underlying35 rfl (by rw [HCSb.out, List.size_toArray]; exact info_mg) rfl rfl (by rw [HCSb.out]; exact Kb.out)) ?_
  simp only [Act.put, List.setIfInBounds_toArray, List.set_cons_succ, List.set_cons_zero]
  refine wpL_call rfl 8 #[.agg CSa, .agg CSb] (by simp only [execOp]; go_simp) CT.out ?_
  rintro r w6 ⟨rfl, b6⟩
  refine ⟨_, rfl, ?_⟩
  simp only [Act.put, List.setIfInBounds_toArray, List.set_cons_succ, List.set_cons_zero]
  have B6 := Lib.hid (bthen Bw5.out b6)
  clear b6
  go_wp2_with fail
  go_ret
  exact ⟨rfl, B6.out⟩

set_option maxRecDepth 100000 in
theorem lifted (os : Os) (started : os.Started) (H : Type) (enc : TypeId × Value → H) :
    ReturnsInHanded {} Tryz.checked os 3 .any (Rows.wireReadsSpec.pre6 enc Tryz.prog Tryz.f3 Rows.wireReadsRow.domain false) (Rows.wireReadsSpec.post enc Tryz.prog Tryz.f3 false true false false) := by
  refine returnsInHanded_of_change_sized (C := Tryz.checked) own started (by kernel_rfl) Tryz.func3
    (ChangeSpec.witness6 (enc := enc) (C := Tryz.checked) false ⟨#[], #[.string ⟨#[]⟩], []⟩ 8 (by kernel_rfl) (by kernel_rfl) (by kernel_rfl) (by kernel_rfl)) ?_
  intro W base args ds gs before hval0 hW hcnd hsz _
  have hval : ∀ (j : Nat) t v, Tryz.f3.params[j]? = some t → args[j]? = some v → Value.okWide Tryz.prog W .any base t v := hval0
  have hW' := hW
  obtain ⟨p, q, hA0, hV, rfl, hfz, hnd⟩ := hW
  have hA : DataW.TrodAll enc Tryz.prog W 0 (fun _ => true) true Tryz.f3.params.toList args.toList ds p := hA0
  rw [Tryz.params3] at hA hval hsz
  have hA2 := hA
  obtain ⟨v0, vs0, d0, ds0, p0, q0, hargs, rfl, rfl, h0, r0⟩ := trodAll_cons hA
  obtain ⟨rfl, rfl, rfl⟩ := trodAll_nil r0
  obtain rfl : args = #[v0] := by cases args; simp_all
  obtain ⟨rfl, rfl⟩ := trodVars_none hV
  clear hargs
  have k0 := hval 0 9 v0 rfl rfl
  obtain ⟨fu0, m0⟩ := h0
  have w0 := weights_of hsz (j := 0) (t := 9) rfl rfl
  have F0 : Fit Tryz.prog 9 d0 := .inl w0
  obtain ⟨a0, ⟨e0, f0⟩, g0⟩ := vwStr.2.2 m0 F0
  have e0' := string_of Tryz.underlying9 k0 e0
  subst e0'
  refine (walk W a0 f0).mono fun e W' ⟨he, bel⟩ => ?_
  subst he
  exact ⟨_, rfl, _, _, _, [], _, [], hW', trodAll_mk1 (shut_bool Tryz.underlying4 _), trodAll_again laidOut bel (by kernel_rfl) hA2, rfl, bel.frame _, fun h => by cases h⟩

theorem over : Rows.wireReadsRow.holds Tryz.pinned (OpenSpec.ofChange Rows.wireReadsSpec) :=
  OpenClaim.holds_of_wide 3 Tryz.f3 rfl rfl rfl rfl rfl rfl rfl ⟨rfl, rfl, rfl, rfl, rfl⟩ rfl rfl rfl rfl rfl (by kernel_rfl) Tryz.func3 (by kernel_rfl)
    (of_decide_eq_true (by kernel_rfl)) (by unfold Func.isWrapper; first | (rw [if_pos (by decide +kernel)]; kernel_rfl) | (rw [if_neg (by decide +kernel)]; exact ⟨rfl, rfl⟩))
    (fun os started H enc _ => lifted os started H enc)

theorem proved : Rows.WireReadsSaid := over
#print axioms proved
end Go.Proofs.YtijeieamodjgbaaGreat.wireReads
