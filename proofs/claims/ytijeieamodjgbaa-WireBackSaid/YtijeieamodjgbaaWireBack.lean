
/- WireBack: what Bytes tells is read again as the same message, what is read is told as just these bytes: for every input the law returns true, and its arguments read as before. No condition. -/
import Derived.Test.YtijeieamodjgbaaWlb
import Derived.Test.YtijeieamodjgbaaView
namespace Go.Proofs.Ytijeieamodjgbaa.wireBack
set_option maxRecDepth 100000
open Go.ChangeShapes Go.WideShapes Go.ChangeAt Go.RowKit Go.Deep
set_option linter.unusedVariables false
set_option linter.unusedSimpArgs false
attribute [local go_sem] run_store_float

theorem zero_in (w : World) : MsgIn w zeroM none 0 0 none 0 0 none 0 0 none 0 0 := ⟨z64, z64, z64, z64, zeroRq_ok, z64, (show (0 : Nat) < 18446744073709551616 by decide), (show (⟨#[]⟩ : ByteArray).size ≤ 140737488351232 by decide), sl_nil, sl_nil, sl_nil, sl_nil⟩
set_option maxHeartbeats 4000000 in
theorem walk (w : World) (m : Mg) (a1 : Option Addr) (n1 c1 : Nat) (a2 : Option Addr) (n2 c2 : Nat) (a3 : Option Addr) (n3 c3 : Nat) (a4 : Option Addr) (n4 c4 : Nat) (hm : MsgIn w m a1 n1 c1 a2 n2 c2 a3 n3 c3 a4 n4 c4) (text : ByteArray) (htx : text.size ≤ 140737488351232) :
    Calls Try.prog 4 #[.agg (mgCs m a1 n1 c1 a2 n2 c2 a3 n3 c3 a4 n4 c4).toArray, .string text] w fun e w' => e = .returned (.bool true) ∧ Below w.heap.size w w' := by
  obtain ⟨w1, hw1⟩ : ∃ u, u = w.alloc (.cells (mgCs m a1 n1 c1 a2 n2 c2 a3 n3 c3 a4 n4 c4).toArray 34 (0, 0)) := ⟨_, rfl⟩
  have bw1 : Below w.heap.size w w1 := by rw [hw1]; exact below_alloc _ _
  have K1 := Lib.hid (show w1.heap[w.heap.size]? = some (.cells (mgCs m a1 n1 c1 a2 n2 c2 a3 n3 c3 a4 n4 c4).toArray 34 (0, 0)) by rw [hw1]; exact blk_alloc _ _)
  have B1 := Lib.hid bw1
  have HM := Lib.hid hm
  have HB := Lib.hid (msg_b hm)
  have HTS := Lib.hid (show text.size ≤ 1125899906842624 by omega)
  have HRD := Lib.hid (fun (t : ByteArray) (w : World) (h : t.size ≤ 1125899906842624) => read13_any t w h)
  obtain ⟨CS, hCS⟩ : ∃ CS, CS = (mgCs m a1 n1 c1 a2 n2 c2 a3 n3 c3 a4 n4 c4).toArray := ⟨_, rfl⟩
  rw [← hCS] at hw1 ⊢
  have HCS := Lib.hid hCS
  clear hCS bw1 hm htx
  go_enter Try.func4, Try.ntmps4
  go_upto_region 1 with (fail)
  rw [← hw1]
  clear hw1
  go_wp2_with fail
  refine (lives13_any w1).mono ?_
  rintro r w2 ⟨rfl, b2⟩
  have K2 := Lib.hid (blk_below K1.out b2)
  have B2 := Lib.hid (bthen B1.out b2)
  have CB0 := bytes13_any m a1 n1 c1 a2 n2 c2 a3 n3 c3 a4 n4 c4 w2 (HM.out.old B2.out)
  rw [← HCS.out] at CB0
  have CB := Lib.hid CB0
  clear b2 B1 K1 CB0
  go_upto_region 3 with (fail)
  refine wp_region_lit ?_
  refine ops_val rfl (w' := w2) (v := .agg CS) (load_row _ _ (.tmp 2) Try.underlying34 rfl (by rw [HCS.out, List.size_toArray]; exact info_mg) rfl rfl (by rw [HCS.out]; exact K2.out)) ?_
  simp only [Act.put, List.setIfInBounds_toArray, List.set_cons_succ, List.set_cons_zero]
  have HBK := Lib.hid (fun h : mgErr m = 0 => rd_back h HB.out)
  have HPOS := Lib.hid (fun h : mgErr m = 0 => pos13 h HB.out)
  have HTW := Lib.hid (fun (h : mgErr m = 0) (hb' : MgB m.canon) => canon_twice h HB.out hb')
  generalize mgText m = T at *
  generalize mgErr m = E at *
  go_wp2_with fail
  refine CB.out.mono ?_
  rintro r w3 ⟨rfl, b3⟩
  have B3 := Lib.hid (bthen B2.out b3)
  have K3 := Lib.hid (blk_below K2.out b3)
  clear b3 CB K2 B2
  by_cases hE : E = 0
  · subst hE
    have HR := Lib.hid (HBK.out rfl)
    have HP := Lib.hid (show T.size ≤ 1125899906842624 by have := (HPOS.out rfl).2; omega)
    replace HTW := Lib.hid (HTW.out rfl)
    clear HBK HPOS
    go_wp2_with fail
    refine (HRD.out (T) w3 (HP.out)).mono ?_
    rintro r w4 ⟨bw4, csp, rfl, hEp⟩
    rw [HR.out.1]
    obtain ⟨a1p, n1p, c1p, a2p, n2p, c2p, a3p, n3p, c3p, a4p, n4p, c4p, rfl, hmip⟩ := msg_open hEp.self
    rename_i hK
    refine hK _ _ ?_
    clear hK hEp
    have Bw4 := Lib.hid (bthen B3.out bw4)
    have MIp := Lib.hid hmip
    have SSw4 := Lib.hid bw4
    obtain ⟨CSp, hCSp⟩ : ∃ CS, CS = (mgCs (rdMsg13 (T)) a1p n1p c1p a2p n2p c2p a3p n3p c3p a4p n4p c4p).toArray := ⟨_, rfl⟩
    rw [← hCSp]
    have HCSp := Lib.hid hCSp
    clear hCSp hmip bw4
    refine ops_val rfl (w' := w4) (v := .tuple #[.agg CSp, .int .i64 0]) (by simp only [execOp]; go_simp) ?_
    simp only [Act.put, List.setIfInBounds_toArray, List.set_cons_succ, List.set_cons_zero]
    refine ops_val rfl (w' := w4) (v := .agg CSp) (by simp only [execOp]; go_simp) ?_
    simp only [Act.put, List.setIfInBounds_toArray, List.set_cons_succ, List.set_cons_zero]
    refine ops_val rfl (w' := w4) (v := .int .i64 0) (by simp only [execOp]; go_simp) ?_
    simp only [Act.put, List.setIfInBounds_toArray, List.set_cons_succ, List.set_cons_zero]
    refine ops_made 34 zeroMg rfl rfl (.tmp 7) (.tmp 25) (fun ρ w => alloc_msg ρ _ rfl w) rfl (mgCs (rdMsg13 (T)) a1p n1p c1p a2p n2p c2p a3p n3p c3p a4p n4p c4p) rfl (by kernel_rfl) (mg_one _ a1p n1p c1p a2p n2p c2p a3p n3p c3p a4p n4p c4p) rfl (by rw [HCSp.out]; rfl) fun w4x bw4x kw4 zw4 => ?_
    simp only [Act.put, List.setIfInBounds_toArray, List.set_cons_succ, List.set_cons_zero]
    have Bw4x := Lib.hid (bthen Bw4.out bw4x)
    have Qw4 := Lib.hid bw4x
    have Sw4 := Lib.hid (bthen SSw4.out bw4x)
    have Kw4 := Lib.hid kw4
    clear bw4x kw4 zw4 Bw4 SSw4
    have hcc : decide (m.canon = (rdMsg13 T).canon) = true := by
      have h1 := msg_b MIp.out
      rw [HR.out.2] at h1 ⊢
      rw [HTW.out h1]
      exact decide_eq_true rfl
    have CS0 := samemsg_any m a1 n1 c1 a2 n2 c2 a3 n3 c3 a4 n4 c4 (rdMsg13 T) a1p n1p c1p a2p n2p c2p a3p n3p c3p a4p n4p c4p w4x (HM.out.old Bw4x.out) (MIp.out.old Qw4.out)
    rw [hcc, ← HCS.out, ← HCSp.out] at CS0
    have CT := Lib.hid CS0
    have K4 := Lib.hid (blk_below K3.out Sw4.out)
    clear CS0 hcc
    go_upto_region 6 with (fail)
    refine wp_region_lit ?_
    refine ops_val rfl (w' := w4x) (v := .int .i64 0) (by simp only [execOp]; go_simp) ?_
    simp only [Act.put, List.setIfInBounds_toArray, List.set_cons_succ, List.set_cons_zero]
    refine ops_val rfl (w' := w4x) (v := .bool false) (by simp only [execOp]; go_simp) ?_
    simp only [Act.put, List.setIfInBounds_toArray, List.set_cons_succ, List.set_cons_zero]
    refine ops_val rfl (w' := w4x) (v := .bool false) (by simp only [execOp]; go_simp) ?_
    simp only [Act.put, List.setIfInBounds_toArray, List.set_cons_succ, List.set_cons_zero]
    refine ops_val rfl (w' := w4x) (v := .agg CS) (load_row _ _ (.tmp 2) Try.underlying34 rfl (by rw [HCS.out, List.size_toArray]; exact info_mg) rfl rfl (by rw [HCS.out]; exact K4.out)) ?_
    simp only [Act.put, List.setIfInBounds_toArray, List.set_cons_succ, List.set_cons_zero]
    refine ops_val rfl (w' := w4x) (v := .agg CSp) (load_row _ _ (.tmp 7) Try.underlying34 rfl (by rw [HCSp.out, List.size_toArray]; exact info_mg) rfl rfl (by rw [HCSp.out]; exact Kw4.out)) ?_
    simp only [Act.put, List.setIfInBounds_toArray, List.set_cons_succ, List.set_cons_zero]
    go_wp2_with fail
    refine CT.out.mono ?_
    rintro r w5 ⟨rfl, b5⟩
    have B5 := Lib.hid (bthen Bw4x.out b5)
    clear b5 CT
    by_cases hR : rdErr13 text = 0
    · have HR := Lib.hid hR
      have HA := Lib.hid (rd_again hR)
      clear hR
      go_wp2_with fail
      refine (HRD.out (text) w5 (HTS.out)).mono ?_
      rintro r w6 ⟨bw6, csr, rfl, hEr⟩
      rw [HR.out]
      obtain ⟨a1r, n1r, c1r, a2r, n2r, c2r, a3r, n3r, c3r, a4r, n4r, c4r, rfl, hmir⟩ := msg_open hEr.self
      rename_i hK
      refine hK _ _ ?_
      clear hK hEr
      have Bw6 := Lib.hid (bthen B5.out bw6)
      have MIr := Lib.hid hmir
      have SSw6 := Lib.hid bw6
      obtain ⟨CSr, hCSr⟩ : ∃ CS, CS = (mgCs (rdMsg13 (text)) a1r n1r c1r a2r n2r c2r a3r n3r c3r a4r n4r c4r).toArray := ⟨_, rfl⟩
      rw [← hCSr]
      have HCSr := Lib.hid hCSr
      clear hCSr hmir bw6
      refine ops_val rfl (w' := w6) (v := .tuple #[.agg CSr, .int .i64 0]) (by simp only [execOp]; go_simp) ?_
      simp only [Act.put, List.setIfInBounds_toArray, List.set_cons_succ, List.set_cons_zero]
      refine ops_val rfl (w' := w6) (v := .agg CSr) (by simp only [execOp]; go_simp) ?_
      simp only [Act.put, List.setIfInBounds_toArray, List.set_cons_succ, List.set_cons_zero]
      refine ops_val rfl (w' := w6) (v := .int .i64 0) (by simp only [execOp]; go_simp) ?_
      simp only [Act.put, List.setIfInBounds_toArray, List.set_cons_succ, List.set_cons_zero]
      refine ops_made 34 zeroMg rfl rfl (.tmp 9) (.tmp 38) (fun ρ w => alloc_msg ρ _ rfl w) rfl (mgCs (rdMsg13 (text)) a1r n1r c1r a2r n2r c2r a3r n3r c3r a4r n4r c4r) rfl (by kernel_rfl) (mg_one _ a1r n1r c1r a2r n2r c2r a3r n3r c3r a4r n4r c4r) rfl (by rw [HCSr.out]; rfl) fun w6x bw6x kw6 zw6 => ?_
      simp only [Act.put, List.setIfInBounds_toArray, List.set_cons_succ, List.set_cons_zero]
      have Bw6x := Lib.hid (bthen Bw6.out bw6x)
      have Qw6 := Lib.hid bw6x
      have Sw6 := Lib.hid (bthen SSw6.out bw6x)
      have Kw6 := Lib.hid kw6
      clear bw6x kw6 zw6 Bw6 SSw6
      have CB0 := bytes13_any (rdMsg13 text) a1r n1r c1r a2r n2r c2r a3r n3r c3r a4r n4r c4r w6x (MIr.out.old Qw6.out)
      rw [← HCSr.out, HA.out.1, HA.out.2] at CB0
      have CB := Lib.hid CB0
      clear CB0 HR
      go_upto_region 11 with (fail)
      refine wp_region_lit ?_
      refine ops_val rfl (w' := w6x) (v := .agg CSr) (load_row _ _ (.tmp 9) Try.underlying34 rfl (by rw [HCSr.out, List.size_toArray]; exact info_mg) rfl rfl (by rw [HCSr.out]; exact Kw6.out)) ?_
      simp only [Act.put, List.setIfInBounds_toArray, List.set_cons_succ, List.set_cons_zero]
      go_wp2_with fail
      refine CB.out.mono ?_
      rintro r w7 ⟨rfl, b7⟩
      have B7 := Lib.hid (bthen Bw6x.out b7)
      clear b7 CB
      have htt : (text.toList == text.toList) = true := by simp
      go_wp2_with fail
      go_ret
      exact ⟨rfl, B7.out⟩
    · obtain ⟨er, her⟩ : ∃ er, er = rdErr13 text := ⟨_, rfl⟩
      have hne2 : (er != 0) = true := by rw [her]; simpa using hR
      have HR := Lib.hid her.symm
      have HZ := Lib.hid (rd_zero hR)
      clear hR her
      go_wp2_with fail
      refine (HRD.out (text) w5 (HTS.out)).mono ?_
      rintro r w6 ⟨bw6, csr, rfl, hEr⟩
      rw [HR.out]
      obtain ⟨a1r, n1r, c1r, a2r, n2r, c2r, a3r, n3r, c3r, a4r, n4r, c4r, rfl, hmir⟩ := msg_open hEr.self
      rename_i hK
      refine hK _ _ ?_
      clear hK hEr
      have Bw6 := Lib.hid (bthen B5.out bw6)
      have MIr := Lib.hid hmir
      have SSw6 := Lib.hid bw6
      obtain ⟨CSr, hCSr⟩ : ∃ CS, CS = (mgCs (rdMsg13 (text)) a1r n1r c1r a2r n2r c2r a3r n3r c3r a4r n4r c4r).toArray := ⟨_, rfl⟩
      rw [← hCSr]
      have HCSr := Lib.hid hCSr
      clear hCSr hmir bw6
      refine ops_val rfl (w' := w6) (v := .tuple #[.agg CSr, .int .i64 er]) (by simp only [execOp]; go_simp) ?_
      simp only [Act.put, List.setIfInBounds_toArray, List.set_cons_succ, List.set_cons_zero]
      refine ops_val rfl (w' := w6) (v := .agg CSr) (by simp only [execOp]; go_simp) ?_
      simp only [Act.put, List.setIfInBounds_toArray, List.set_cons_succ, List.set_cons_zero]
      refine ops_val rfl (w' := w6) (v := .int .i64 er) (by simp only [execOp]; go_simp) ?_
      simp only [Act.put, List.setIfInBounds_toArray, List.set_cons_succ, List.set_cons_zero]
      refine ops_made 34 zeroMg rfl rfl (.tmp 9) (.tmp 38) (fun ρ w => alloc_msg ρ _ rfl w) rfl (mgCs (rdMsg13 (text)) a1r n1r c1r a2r n2r c2r a3r n3r c3r a4r n4r c4r) rfl (by kernel_rfl) (mg_one _ a1r n1r c1r a2r n2r c2r a3r n3r c3r a4r n4r c4r) rfl (by rw [HCSr.out]; rfl) fun w6x bw6x kw6 zw6 => ?_
      simp only [Act.put, List.setIfInBounds_toArray, List.set_cons_succ, List.set_cons_zero]
      have Bw6x := Lib.hid (bthen Bw6.out bw6x)
      have Qw6 := Lib.hid bw6x
      have Sw6 := Lib.hid (bthen SSw6.out bw6x)
      have Kw6 := Lib.hid kw6
      clear bw6x kw6 zw6 Bw6 SSw6
      have CS0 := samemsg_any (rdMsg13 text) a1r n1r c1r a2r n2r c2r a3r n3r c3r a4r n4r c4r zeroM none 0 0 none 0 0 none 0 0 none 0 0 w6x (MIr.out.old Qw6.out) (zero_in _)
      rw [← HCSr.out, HZ.out, decide_eq_true rfl] at CS0
      have CT := Lib.hid (show Calls Try.prog 17 #[.agg CSr, .agg zRow] w6x fun e w' => e = .returned (.bool true) ∧ Below w6x.heap.size w6x w' from CS0)
      clear CS0 HR HZ
      go_upto_region 10 with (fail)
      refine wp_region_lit ?_
      refine ops_val rfl (w' := w6x) (v := .agg CSr) (load_row _ _ (.tmp 9) Try.underlying34 rfl (by rw [HCSr.out, List.size_toArray]; exact info_mg) rfl rfl (by rw [HCSr.out]; exact Kw6.out)) ?_
      simp only [Act.put, List.setIfInBounds_toArray, List.set_cons_succ, List.set_cons_zero]
      refine ops_val rfl (w' := w6x) (v := .agg zRow) (build_msg _ _ rfl _) ?_
      simp only [Act.put, List.setIfInBounds_toArray, List.set_cons_succ, List.set_cons_zero]
      go_wp2_with fail
      refine CT.out.mono ?_
      rintro r w7 ⟨rfl, b7⟩
      have B7 := Lib.hid (bthen Bw6x.out b7)
      clear b7 CT
      go_wp2_with fail
      go_ret
      exact ⟨rfl, B7.out⟩
  · have hne : (E == 0) = false := by simpa using hE
    clear hE
    by_cases hR : rdErr13 text = 0
    · have HR := Lib.hid hR
      have HA := Lib.hid (rd_again hR)
      clear hR
      go_wp2_with fail
      refine (HRD.out (text) w3 (HTS.out)).mono ?_
      rintro r w6 ⟨bw6, csr, rfl, hEr⟩
      rw [HR.out]
      obtain ⟨a1r, n1r, c1r, a2r, n2r, c2r, a3r, n3r, c3r, a4r, n4r, c4r, rfl, hmir⟩ := msg_open hEr.self
      rename_i hK
      refine hK _ _ ?_
      clear hK hEr
      have Bw6 := Lib.hid (bthen B3.out bw6)
      have MIr := Lib.hid hmir
      have SSw6 := Lib.hid bw6
      obtain ⟨CSr, hCSr⟩ : ∃ CS, CS = (mgCs (rdMsg13 (text)) a1r n1r c1r a2r n2r c2r a3r n3r c3r a4r n4r c4r).toArray := ⟨_, rfl⟩
      rw [← hCSr]
      have HCSr := Lib.hid hCSr
      clear hCSr hmir bw6
      refine ops_val rfl (w' := w6) (v := .tuple #[.agg CSr, .int .i64 0]) (by simp only [execOp]; go_simp) ?_
      simp only [Act.put, List.setIfInBounds_toArray, List.set_cons_succ, List.set_cons_zero]
      refine ops_val rfl (w' := w6) (v := .agg CSr) (by simp only [execOp]; go_simp) ?_
      simp only [Act.put, List.setIfInBounds_toArray, List.set_cons_succ, List.set_cons_zero]
      refine ops_val rfl (w' := w6) (v := .int .i64 0) (by simp only [execOp]; go_simp) ?_
      simp only [Act.put, List.setIfInBounds_toArray, List.set_cons_succ, List.set_cons_zero]
      refine ops_made 34 zeroMg rfl rfl (.tmp 9) (.tmp 38) (fun ρ w => alloc_msg ρ _ rfl w) rfl (mgCs (rdMsg13 (text)) a1r n1r c1r a2r n2r c2r a3r n3r c3r a4r n4r c4r) rfl (by kernel_rfl) (mg_one _ a1r n1r c1r a2r n2r c2r a3r n3r c3r a4r n4r c4r) rfl (by rw [HCSr.out]; rfl) fun w6x bw6x kw6 zw6 => ?_
      simp only [Act.put, List.setIfInBounds_toArray, List.set_cons_succ, List.set_cons_zero]
      have Bw6x := Lib.hid (bthen Bw6.out bw6x)
      have Qw6 := Lib.hid bw6x
      have Sw6 := Lib.hid (bthen SSw6.out bw6x)
      have Kw6 := Lib.hid kw6
      clear bw6x kw6 zw6 Bw6 SSw6
      have CB0 := bytes13_any (rdMsg13 text) a1r n1r c1r a2r n2r c2r a3r n3r c3r a4r n4r c4r w6x (MIr.out.old Qw6.out)
      rw [← HCSr.out, HA.out.1, HA.out.2] at CB0
      have CB := Lib.hid CB0
      clear CB0 HR
      go_upto_region 11 with (fail)
      refine wp_region_lit ?_
      refine ops_val rfl (w' := w6x) (v := .agg CSr) (load_row _ _ (.tmp 9) Try.underlying34 rfl (by rw [HCSr.out, List.size_toArray]; exact info_mg) rfl rfl (by rw [HCSr.out]; exact Kw6.out)) ?_
      simp only [Act.put, List.setIfInBounds_toArray, List.set_cons_succ, List.set_cons_zero]
      go_wp2_with fail
      refine CB.out.mono ?_
      rintro r w7 ⟨rfl, b7⟩
      have B7 := Lib.hid (bthen Bw6x.out b7)
      clear b7 CB
      have htt : (text.toList == text.toList) = true := by simp
      go_wp2_with fail
      go_ret
      exact ⟨rfl, B7.out⟩
    · obtain ⟨er, her⟩ : ∃ er, er = rdErr13 text := ⟨_, rfl⟩
      have hne2 : (er != 0) = true := by rw [her]; simpa using hR
      have HR := Lib.hid her.symm
      have HZ := Lib.hid (rd_zero hR)
      clear hR her
      go_wp2_with fail
      refine (HRD.out (text) w3 (HTS.out)).mono ?_
      rintro r w6 ⟨bw6, csr, rfl, hEr⟩
      rw [HR.out]
      obtain ⟨a1r, n1r, c1r, a2r, n2r, c2r, a3r, n3r, c3r, a4r, n4r, c4r, rfl, hmir⟩ := msg_open hEr.self
      rename_i hK
      refine hK _ _ ?_
      clear hK hEr
      have Bw6 := Lib.hid (bthen B3.out bw6)
      have MIr := Lib.hid hmir
      have SSw6 := Lib.hid bw6
      obtain ⟨CSr, hCSr⟩ : ∃ CS, CS = (mgCs (rdMsg13 (text)) a1r n1r c1r a2r n2r c2r a3r n3r c3r a4r n4r c4r).toArray := ⟨_, rfl⟩
      rw [← hCSr]
      have HCSr := Lib.hid hCSr
      clear hCSr hmir bw6
      refine ops_val rfl (w' := w6) (v := .tuple #[.agg CSr, .int .i64 er]) (by simp only [execOp]; go_simp) ?_
      simp only [Act.put, List.setIfInBounds_toArray, List.set_cons_succ, List.set_cons_zero]
      refine ops_val rfl (w' := w6) (v := .agg CSr) (by simp only [execOp]; go_simp) ?_
      simp only [Act.put, List.setIfInBounds_toArray, List.set_cons_succ, List.set_cons_zero]
      refine ops_val rfl (w' := w6) (v := .int .i64 er) (by simp only [execOp]; go_simp) ?_
      simp only [Act.put, List.setIfInBounds_toArray, List.set_cons_succ, List.set_cons_zero]
      refine ops_made 34 zeroMg rfl rfl (.tmp 9) (.tmp 38) (fun ρ w => alloc_msg ρ _ rfl w) rfl (mgCs (rdMsg13 (text)) a1r n1r c1r a2r n2r c2r a3r n3r c3r a4r n4r c4r) rfl (by kernel_rfl) (mg_one _ a1r n1r c1r a2r n2r c2r a3r n3r c3r a4r n4r c4r) rfl (by rw [HCSr.out]; rfl) fun w6x bw6x kw6 zw6 => ?_
      simp only [Act.put, List.setIfInBounds_toArray, List.set_cons_succ, List.set_cons_zero]
      have Bw6x := Lib.hid (bthen Bw6.out bw6x)
      have Qw6 := Lib.hid bw6x
      have Sw6 := Lib.hid (bthen SSw6.out bw6x)
      have Kw6 := Lib.hid kw6
      clear bw6x kw6 zw6 Bw6 SSw6
      have CS0 := samemsg_any (rdMsg13 text) a1r n1r c1r a2r n2r c2r a3r n3r c3r a4r n4r c4r zeroM none 0 0 none 0 0 none 0 0 none 0 0 w6x (MIr.out.old Qw6.out) (zero_in _)
      rw [← HCSr.out, HZ.out, decide_eq_true rfl] at CS0
      have CT := Lib.hid (show Calls Try.prog 17 #[.agg CSr, .agg zRow] w6x fun e w' => e = .returned (.bool true) ∧ Below w6x.heap.size w6x w' from CS0)
      clear CS0 HR HZ
      go_upto_region 10 with (fail)
      refine wp_region_lit ?_
      refine ops_val rfl (w' := w6x) (v := .agg CSr) (load_row _ _ (.tmp 9) Try.underlying34 rfl (by rw [HCSr.out, List.size_toArray]; exact info_mg) rfl rfl (by rw [HCSr.out]; exact Kw6.out)) ?_
      simp only [Act.put, List.setIfInBounds_toArray, List.set_cons_succ, List.set_cons_zero]
      refine ops_val rfl (w' := w6x) (v := .agg zRow) (build_msg _ _ rfl _) ?_
      simp only [Act.put, List.setIfInBounds_toArray, List.set_cons_succ, List.set_cons_zero]
      go_wp2_with fail
      refine CT.out.mono ?_
      rintro r w7 ⟨rfl, b7⟩
      have B7 := Lib.hid (bthen Bw6x.out b7)
      clear b7 CT
      go_wp2_with fail
      go_ret
      exact ⟨rfl, B7.out⟩

set_option maxRecDepth 100000 in
theorem lifted (os : Os) (started : os.Started) (H : Type) (enc : TypeId × Value → H) :
    ReturnsInHanded {} Try.checked os 4 .any (Rows.wireBackSpec.pre6 enc Try.prog Try.f4 Rows.wireBackRow.domain false) (Rows.wireBackSpec.post enc Try.prog Try.f4 false true false false) := by
  refine returnsInHanded_of_change_sized (C := Try.checked) own started (by kernel_rfl) Try.func4
    (ChangeSpec.witness6 (enc := enc) (C := Try.checked) false ⟨#[], #[.agg #[.int .i64 0, .int .i64 0, .int .i64 0, .int .i64 0, .int .i64 0, .int .i64 0, .int .i64 0, .string ⟨#[]⟩, .float .f64 0, .int .i64 0, .int .i64 0, .float .f64 0, .string ⟨#[]⟩, .slice none 0 0, .slice none 0 0, .slice none 0 0, .slice none 0 0], .string ⟨#[]⟩], []⟩ 8 (by kernel_rfl) (by kernel_rfl) (by kernel_rfl) (by kernel_rfl)) ?_
  intro W base args ds gs before hval0 hW hcnd hsz _
  have hval : ∀ (j : Nat) t v, Try.f4.params[j]? = some t → args[j]? = some v → Value.okWide Try.prog W .any base t v := hval0
  have hW' := hW
  obtain ⟨p, q, hA0, hV, rfl, hfz, hnd⟩ := hW
  have hA : DataW.TrodAll enc Try.prog W 0 (fun _ => true) true Try.f4.params.toList args.toList ds p := hA0
  rw [Try.params4] at hA hval hsz
  have hA2 := hA
  obtain ⟨v0, vs0, d0, ds0, p0, q0, hargs, rfl, rfl, h0, r0⟩ := trodAll_cons hA
  obtain ⟨v1, vs1, d1, ds1, p1, q1, rfl, rfl, rfl, h1, r1⟩ := trodAll_cons r0
  obtain ⟨rfl, rfl, rfl⟩ := trodAll_nil r1
  obtain rfl : args = #[v0, v1] := by cases args; simp_all
  obtain ⟨rfl, rfl⟩ := trodVars_none hV
  clear hargs
  have k0 := hval 0 34 v0 rfl rfl
  obtain ⟨fu0, m0⟩ := h0
  have w0 := weights_of hsz (j := 0) (t := 34) rfl rfl
  have F0 : Fit Try.prog 34 d0 := .inl w0
  have s0 := cells_agg Try.underlying34 k0
  obtain ⟨y0, E0, g0⟩ := vwMsg.2.2 m0 F0
  obtain ⟨pa1_0, pn1_0, pc1_0, pa2_0, pn2_0, pc2_0, pa3_0, pn3_0, pc3_0, pa4_0, pn4_0, pc4_0, e0, b0⟩ := msg_open E0
  obtain ⟨z0, s01, s02⟩ := s0
  have e0' := agg_of ⟨s01, s02⟩ e0
  subst e0'
  have k1 := hval 1 9 v1 rfl rfl
  obtain ⟨fu1, m1⟩ := h1
  have w1 := weights_of hsz (j := 1) (t := 9) rfl rfl
  have F1 : Fit Try.prog 9 d1 := .inl w1
  obtain ⟨a1, ⟨e1, f1⟩, g1⟩ := vwStr.2.2 m1 F1
  have e1' := string_of Try.underlying9 k1 e1
  subst e1'
  refine (walk W y0 pa1_0 pn1_0 pc1_0 pa2_0 pn2_0 pc2_0 pa3_0 pn3_0 pc3_0 pa4_0 pn4_0 pc4_0 b0 a1 f1).mono fun e W' ⟨he, bel⟩ => ?_
  subst he
  exact ⟨_, rfl, _, _, _, [], _, [], hW', trodAll_mk1 (shut_bool Try.underlying4 _), trodAll_again laidOut bel (by kernel_rfl) hA2, rfl, bel.frame _, fun h => by cases h⟩

theorem over : Rows.wireBackRow.holds Try.pinned (OpenSpec.ofChange Rows.wireBackSpec) :=
  OpenClaim.holds_of_wide 4 Try.f4 rfl rfl rfl rfl rfl rfl rfl ⟨rfl, rfl, rfl, rfl, rfl⟩ rfl rfl rfl rfl rfl (by kernel_rfl) Try.func4 (by kernel_rfl)
    (of_decide_eq_true (by kernel_rfl)) (by unfold Func.isWrapper; first | (rw [if_pos (by decide +kernel)]; kernel_rfl) | (rw [if_neg (by decide +kernel)]; exact ⟨rfl, rfl⟩))
    (fun os started H enc _ => lifted os started H enc)

theorem proved : Rows.WireBackSaid := over
#print axioms proved
end Go.Proofs.Ytijeieamodjgbaa.wireBack
