
/- WireWhole: no beginning of a message's bytes is a message's, nor are they with more behind: for every input the law returns true, and its arguments read as before. No condition. -/
import Derived.Test.YtijeieamodjgbaaWlw
import Derived.Test.YtijeieamodjgbaaView
namespace Go.Proofs.Ytijeieamodjgbaa.wireWhole
set_option maxRecDepth 100000
open Go.ChangeShapes Go.WideShapes Go.ChangeAt Go.RowKit Go.Deep
set_option linter.unusedVariables false
set_option linter.unusedSimpArgs false
attribute [local go_sem] run_store_float

theorem cut_idx (cut : Int) (n : Nat) (h1 : 1 ≤ n) (h2 : n ≤ 65536) : ∃ k : Nat, k < n ∧ wrap64 ((IntKind.u64.wrap cut).tmod n) = (k : Int) := by
  have h0 : 0 ≤ IntKind.u64.wrap cut := by
    have h : IntKind.u64.wrap cut = cut % 18446744073709551616 := by simp [IntKind.wrap, IntKind.bits, IntKind.signed]
    rw [h]; omega
  have h3 : (IntKind.u64.wrap cut).tmod n = (IntKind.u64.wrap cut) % n := Int.tmod_eq_emod_of_nonneg h0
  have h4 := Int.emod_lt_of_pos (IntKind.u64.wrap cut) (show (0 : Int) < n by omega)
  have h5 := Int.emod_nonneg (IntKind.u64.wrap cut) (show (n : Int) ≠ 0 by omega)
  refine ⟨((IntKind.u64.wrap cut) % n).toNat, by omega, ?_⟩
  rw [h3]
  unfold wrap64
  omega
theorem take_text (t : ByteArray) (k : Nat) (h : k ≤ t.size) : (t.extract 0 k).data.toList = t.data.toList.take k ∧ (t.extract 0 k).size = k := by
  refine ⟨by simp, by simp; omega⟩
set_option maxHeartbeats 4000000 in
theorem walk (w : World) (m : Mg) (a1 : Option Addr) (n1 c1 : Nat) (a2 : Option Addr) (n2 c2 : Nat) (a3 : Option Addr) (n3 c3 : Nat) (a4 : Option Addr) (n4 c4 : Nat) (hm : MsgIn w m a1 n1 c1 a2 n2 c2 a3 n3 c3 a4 n4 c4) (cut : Int) (hcut : i64 cut) (more : ByteArray) (hmore : more.size ≤ 140737488351232) :
    Calls Try.prog 5 #[.agg (mgCs m a1 n1 c1 a2 n2 c2 a3 n3 c3 a4 n4 c4).toArray, .int .i64 cut, .string more] w fun e w' => e = .returned (.bool true) ∧ Below w.heap.size w w' := by
  obtain ⟨w1, hw1⟩ : ∃ u, u = w.alloc (.cells (mgCs m a1 n1 c1 a2 n2 c2 a3 n3 c3 a4 n4 c4).toArray 34 (0, 0)) := ⟨_, rfl⟩
  have bw1 : Below w.heap.size w w1 := by rw [hw1]; exact below_alloc _ _
  have K1 := Lib.hid (show w1.heap[w.heap.size]? = some (.cells (mgCs m a1 n1 c1 a2 n2 c2 a3 n3 c3 a4 n4 c4).toArray 34 (0, 0)) by rw [hw1]; exact blk_alloc _ _)
  have B1 := Lib.hid bw1
  have HM := Lib.hid hm
  have HB := Lib.hid (msg_b hm)
  obtain ⟨CS, hCS⟩ : ∃ CS, CS = (mgCs m a1 n1 c1 a2 n2 c2 a3 n3 c3 a4 n4 c4).toArray := ⟨_, rfl⟩
  rw [← hCS] at hw1 ⊢
  have HCS := Lib.hid hCS
  clear hCS bw1 hm
  go_enter Try.func5, Try.ntmps5
  go_upto_region 1 with (fail)
  rw [← hw1]
  clear hw1
  go_wp2_with fail
  refine (lives13_any w1).mono ?_
  rintro r w2 ⟨rfl, b2⟩
  have K2 := Lib.hid (blk_below K1.out b2)
  have B2 := Lib.hid (bthen B1.out b2)
  have CB0 := bytes13_any m a1 n1 c1 a2 n2 c2 a3 n3 c3 a4 n4 c4 w2 (HM.out.old B2.out)
  rw [← HCS.out] at CB0
  have CB := Lib.hid CB0
  clear b2 B1 K1 CB0
  go_upto_region 3 with (fail)
  refine wp_region_lit ?_
  refine ops_val rfl (w' := w2) (v := .agg CS) (load_row _ _ (.tmp 3) Try.underlying34 rfl (by rw [HCS.out, List.size_toArray]; exact info_mg) rfl rfl (by rw [HCS.out]; exact K2.out)) ?_
  simp only [Act.put, List.setIfInBounds_toArray, List.set_cons_succ, List.set_cons_zero]
  have HCUT := Lib.hid (fun (h : mgErr m = 0) (k : Nat) hk => cut13 h HB.out (k := k) hk)
  have HMORE := Lib.hid (fun (h : mgErr m = 0) (u : List UInt8) hu => more13 h HB.out (u := u) hu)
  have HBACK := Lib.hid (fun h : mgErr m = 0 => (back13 h HB.out).1)
  have HPOS := Lib.hid (fun h : mgErr m = 0 => pos13 h HB.out)
  have HNO := Lib.hid (show ¬ mgErr m = 0 → mgText m = ⟨#[]⟩ from fun h => by
    unfold mgErr at h
    unfold mgText
    cases hk : kindB m with
    | false => rfl
    | true =>
      cases hf : fitsP m with
      | false => rfl
      | true =>
        rw [hk, hf, if_neg (by decide), if_neg (by decide)] at h
        rw [Bool.true_and, if_pos rfl]
        split
        · rename_i h0; rw [if_pos h0] at h; exact absurd rfl h
        · rfl)
  generalize mgText m = T at *
  generalize mgErr m = E at *
  go_wp2_with fail
  refine CB.out.mono ?_
  rintro r w3 ⟨rfl, b3⟩
  have B3 := Lib.hid (bthen B2.out b3)
  clear b3 CB K2 B2
  by_cases hE : E = 0
  · subst hE
    replace HCUT := Lib.hid (HCUT.out rfl)
    replace HMORE := Lib.hid (HMORE.out rfl)
    replace HBACK := Lib.hid (HBACK.out rfl)
    obtain ⟨hp1, hp2⟩ := HPOS.out rfl
    clear HPOS HNO
    have HRD := Lib.hid (fun (t : ByteArray) (w : World) (h : t.size ≤ 1125899906842624) => read13_any t w h)
    obtain ⟨k, hk, hci⟩ := cut_idx cut T.size hp1 hp2
    obtain ⟨ht1, ht2⟩ := take_text T k (by omega)
    have hr1 : rdErr13 (T.extract 0 k) = 5 := by
      unfold rdErr13
      rw [if_neg (by omega), ht1, HCUT.out k hk]
      rfl
    have hkb : 0 ≤ (k : Int) ∧ (k : Int) ≤ (T.size : Int) := ⟨by omega, by omega⟩
    have htn : (k : Int).toNat = k := by omega
    have HT := Lib.hid ht1
    have HS := Lib.hid ht2
    have HR := Lib.hid hr1
    clear ht1 ht2 hr1
    go_wp2_with fail
    refine (HRD.out (T.extract 0 k) w3 (by rw [HS.out]; omega)).mono ?_
    rintro r w4 ⟨bw4, csp, rfl, hEp⟩
    rw [HR.out]
    obtain ⟨a1p, n1p, c1p, a2p, n2p, c2p, a3p, n3p, c3p, a4p, n4p, c4p, rfl, hmip⟩ := msg_open hEp.self
    rename_i hK
    refine hK _ _ ?_
    clear hK hEp
    have Bw4 := Lib.hid (bthen B3.out bw4)
    have MIp := Lib.hid hmip
    obtain ⟨CSp, hCSp⟩ : ∃ CS, CS = (mgCs (rdMsg13 (T.extract 0 k)) a1p n1p c1p a2p n2p c2p a3p n3p c3p a4p n4p c4p).toArray := ⟨_, rfl⟩
    rw [← hCSp]
    have HCSp := Lib.hid hCSp
    clear hCSp hmip bw4
    refine ops_val rfl (w' := w4) (v := .tuple #[.agg CSp, .int .i64 5]) (by simp only [execOp]; go_simp) ?_
    simp only [Act.put, List.setIfInBounds_toArray, List.set_cons_succ, List.set_cons_zero]
    refine ops_val rfl (w' := w4) (v := .agg CSp) (by simp only [execOp]; go_simp) ?_
    simp only [Act.put, List.setIfInBounds_toArray, List.set_cons_succ, List.set_cons_zero]
    refine ops_val rfl (w' := w4) (v := .int .i64 5) (by simp only [execOp]; go_simp) ?_
    simp only [Act.put, List.setIfInBounds_toArray, List.set_cons_succ, List.set_cons_zero]
    refine ops_made 34 zeroMg rfl rfl (.tmp 9) (.tmp 35) (fun ρ w => alloc_msg ρ _ rfl w) rfl (mgCs (rdMsg13 (T.extract 0 k)) a1p n1p c1p a2p n2p c2p a3p n3p c3p a4p n4p c4p) rfl (by kernel_rfl) (mg_one _ a1p n1p c1p a2p n2p c2p a3p n3p c3p a4p n4p c4p) rfl (by rw [HCSp.out]; rfl) fun w4x bw4x kw4 zw4 => ?_
    simp only [Act.put, List.setIfInBounds_toArray, List.set_cons_succ, List.set_cons_zero]
    have Bw4x := Lib.hid (bthen Bw4.out bw4x)
    have Qw4 := Lib.hid bw4x
    have Kw4 := Lib.hid kw4
    clear bw4x kw4 zw4 Bw4
    have hsz : T.size + more.size ≤ 281474976710656 := by omega
    have hsi : IntKind.i64.wrap ((T.size : Int) + more.size) = (T.size : Int) + more.size := IntWalk.i64_in _ (by omega)
    have hcs : (T ++ more).size = T.size + more.size := by simp
    have hcd : (T ++ more).data.toList = T.data.toList ++ more.data.toList := by simp
    clear hkb htn hci hk HT HS HR HCUT
    have HCS2 := Lib.hid hcs
    have hempty := str_empty more
    by_cases hm0 : more.size = 0
    · have hl0 : more.data.toList = [] := by
        have : more.data.toList.length = 0 := by simpa using hm0
        exact List.eq_nil_of_length_eq_zero this
      have hr2 : rdErr13 (T ++ more) = 0 := by
        unfold rdErr13
        rw [if_neg (by omega), hcd, hl0, List.append_nil, HBACK.out]
        rfl
      have HR2 := Lib.hid hr2
      rw [decide_eq_true hm0] at hempty
      clear hr2 hl0 hcs hcd hm0 HMORE HBACK
      go_wp2_with fail
      refine (HRD.out (T ++ more) w4x (by rw [HCS2.out]; omega)).mono ?_
      rintro r w5 ⟨bw5, csq, rfl, hEq⟩
      rw [HR2.out]
      obtain ⟨a1q, n1q, c1q, a2q, n2q, c2q, a3q, n3q, c3q, a4q, n4q, c4q, rfl, hmiq⟩ := msg_open hEq.self
      rename_i hK
      refine hK _ _ ?_
      clear hK hEq
      have Bw5 := Lib.hid (bthen Bw4x.out bw5)
      have MIq := Lib.hid hmiq
      obtain ⟨CSq, hCSq⟩ : ∃ CS, CS = (mgCs (rdMsg13 (T ++ more)) a1q n1q c1q a2q n2q c2q a3q n3q c3q a4q n4q c4q).toArray := ⟨_, rfl⟩
      rw [← hCSq]
      have HCSq := Lib.hid hCSq
      clear hCSq hmiq bw5
      refine ops_val rfl (w' := w5) (v := .tuple #[.agg CSq, .int .i64 0]) (by simp only [execOp]; go_simp) ?_
      simp only [Act.put, List.setIfInBounds_toArray, List.set_cons_succ, List.set_cons_zero]
      refine ops_val rfl (w' := w5) (v := .agg CSq) (by simp only [execOp]; go_simp) ?_
      simp only [Act.put, List.setIfInBounds_toArray, List.set_cons_succ, List.set_cons_zero]
      refine ops_val rfl (w' := w5) (v := .int .i64 0) (by simp only [execOp]; go_simp) ?_
      simp only [Act.put, List.setIfInBounds_toArray, List.set_cons_succ, List.set_cons_zero]
      refine ops_made 34 zeroMg rfl rfl (.tmp 11) (.tmp 42) (fun ρ w => alloc_msg ρ _ rfl w) rfl (mgCs (rdMsg13 (T ++ more)) a1q n1q c1q a2q n2q c2q a3q n3q c3q a4q n4q c4q) rfl (by kernel_rfl) (mg_one _ a1q n1q c1q a2q n2q c2q a3q n3q c3q a4q n4q c4q) rfl (by rw [HCSq.out]; rfl) fun w5x bw5x kw5 zw5 => ?_
      simp only [Act.put, List.setIfInBounds_toArray, List.set_cons_succ, List.set_cons_zero]
      have Bw5x := Lib.hid (bthen Bw5.out bw5x)
      have Qw5 := Lib.hid bw5x
      have Kw5 := Lib.hid kw5
      clear bw5x kw5 zw5 Bw5
      go_wp2_with fail
      go_ret
      exact ⟨rfl, Bw5x.out⟩
    · rw [decide_eq_false hm0] at hempty
      have hu : more.data.toList ≠ [] := fun h => hm0 (by
        have h1 := congrArg List.length h
        simpa using h1)
      by_cases hl : 65536 < T.size + more.size
      · have hr2 : rdErr13 (T ++ more) = 3 := by
          unfold rdErr13
          rw [if_pos (by omega)]
        have HR2 := Lib.hid hr2
        have hgt : decide ((65536 : Int) < (T.size : Int) + more.size) = true := by simp; omega
        clear hr2 hu hcs hcd hm0 HMORE HBACK hl
        go_wp2_with fail
        refine (HRD.out (T ++ more) w4x (by rw [HCS2.out]; omega)).mono ?_
        rintro r w5 ⟨bw5, csq, rfl, hEq⟩
        rw [HR2.out]
        obtain ⟨a1q, n1q, c1q, a2q, n2q, c2q, a3q, n3q, c3q, a4q, n4q, c4q, rfl, hmiq⟩ := msg_open hEq.self
        rename_i hK
        refine hK _ _ ?_
        clear hK hEq
        have Bw5 := Lib.hid (bthen Bw4x.out bw5)
        have MIq := Lib.hid hmiq
        obtain ⟨CSq, hCSq⟩ : ∃ CS, CS = (mgCs (rdMsg13 (T ++ more)) a1q n1q c1q a2q n2q c2q a3q n3q c3q a4q n4q c4q).toArray := ⟨_, rfl⟩
        rw [← hCSq]
        have HCSq := Lib.hid hCSq
        clear hCSq hmiq bw5
        refine ops_val rfl (w' := w5) (v := .tuple #[.agg CSq, .int .i64 3]) (by simp only [execOp]; go_simp) ?_
        simp only [Act.put, List.setIfInBounds_toArray, List.set_cons_succ, List.set_cons_zero]
        refine ops_val rfl (w' := w5) (v := .agg CSq) (by simp only [execOp]; go_simp) ?_
        simp only [Act.put, List.setIfInBounds_toArray, List.set_cons_succ, List.set_cons_zero]
        refine ops_val rfl (w' := w5) (v := .int .i64 3) (by simp only [execOp]; go_simp) ?_
        simp only [Act.put, List.setIfInBounds_toArray, List.set_cons_succ, List.set_cons_zero]
        refine ops_made 34 zeroMg rfl rfl (.tmp 11) (.tmp 42) (fun ρ w => alloc_msg ρ _ rfl w) rfl (mgCs (rdMsg13 (T ++ more)) a1q n1q c1q a2q n2q c2q a3q n3q c3q a4q n4q c4q) rfl (by kernel_rfl) (mg_one _ a1q n1q c1q a2q n2q c2q a3q n3q c3q a4q n4q c4q) rfl (by rw [HCSq.out]; rfl) fun w5x bw5x kw5 zw5 => ?_
        simp only [Act.put, List.setIfInBounds_toArray, List.set_cons_succ, List.set_cons_zero]
        have Bw5x := Lib.hid (bthen Bw5.out bw5x)
        have Qw5 := Lib.hid bw5x
        have Kw5 := Lib.hid kw5
        clear bw5x kw5 zw5 Bw5
        go_wp2_with fail
        go_ret
        exact ⟨rfl, Bw5x.out⟩
      · have hr2 : rdErr13 (T ++ more) = 5 := by
          unfold rdErr13
          rw [if_neg (by omega), hcd, HMORE.out _ hu]
          rfl
        have HR2 := Lib.hid hr2
        clear hr2 hu hcs hcd hm0 HMORE HBACK hl
        go_wp2_with fail
        refine (HRD.out (T ++ more) w4x (by rw [HCS2.out]; omega)).mono ?_
        rintro r w5 ⟨bw5, csq, rfl, hEq⟩
        rw [HR2.out]
        obtain ⟨a1q, n1q, c1q, a2q, n2q, c2q, a3q, n3q, c3q, a4q, n4q, c4q, rfl, hmiq⟩ := msg_open hEq.self
        rename_i hK
        refine hK _ _ ?_
        clear hK hEq
        have Bw5 := Lib.hid (bthen Bw4x.out bw5)
        have MIq := Lib.hid hmiq
        obtain ⟨CSq, hCSq⟩ : ∃ CS, CS = (mgCs (rdMsg13 (T ++ more)) a1q n1q c1q a2q n2q c2q a3q n3q c3q a4q n4q c4q).toArray := ⟨_, rfl⟩
        rw [← hCSq]
        have HCSq := Lib.hid hCSq
        clear hCSq hmiq bw5
        refine ops_val rfl (w' := w5) (v := .tuple #[.agg CSq, .int .i64 5]) (by simp only [execOp]; go_simp) ?_
        simp only [Act.put, List.setIfInBounds_toArray, List.set_cons_succ, List.set_cons_zero]
        refine ops_val rfl (w' := w5) (v := .agg CSq) (by simp only [execOp]; go_simp) ?_
        simp only [Act.put, List.setIfInBounds_toArray, List.set_cons_succ, List.set_cons_zero]
        refine ops_val rfl (w' := w5) (v := .int .i64 5) (by simp only [execOp]; go_simp) ?_
        simp only [Act.put, List.setIfInBounds_toArray, List.set_cons_succ, List.set_cons_zero]
        refine ops_made 34 zeroMg rfl rfl (.tmp 11) (.tmp 42) (fun ρ w => alloc_msg ρ _ rfl w) rfl (mgCs (rdMsg13 (T ++ more)) a1q n1q c1q a2q n2q c2q a3q n3q c3q a4q n4q c4q) rfl (by kernel_rfl) (mg_one _ a1q n1q c1q a2q n2q c2q a3q n3q c3q a4q n4q c4q) rfl (by rw [HCSq.out]; rfl) fun w5x bw5x kw5 zw5 => ?_
        simp only [Act.put, List.setIfInBounds_toArray, List.set_cons_succ, List.set_cons_zero]
        have Bw5x := Lib.hid (bthen Bw5.out bw5x)
        have Qw5 := Lib.hid bw5x
        have Kw5 := Lib.hid kw5
        clear bw5x kw5 zw5 Bw5
        go_wp2_with fail
        go_ret
        exact ⟨rfl, Bw5x.out⟩
  · have hne : (E != 0) = true := by simpa using hE
    have hT : T.toList.isEmpty = true := by rw [str_empty, HNO.out hE]; rfl
    clear hE
    go_wp2_with fail
    go_ret
    exact ⟨rfl, B3.out⟩

set_option maxRecDepth 100000 in
theorem lifted (os : Os) (started : os.Started) (H : Type) (enc : TypeId × Value → H) :
    ReturnsInHanded {} Try.checked os 5 .any (Rows.wireWholeSpec.pre6 enc Try.prog Try.f5 Rows.wireWholeRow.domain false) (Rows.wireWholeSpec.post enc Try.prog Try.f5 false true false false) := by
  refine returnsInHanded_of_change_sized (C := Try.checked) own started (by kernel_rfl) Try.func5
    (ChangeSpec.witness6 (enc := enc) (C := Try.checked) false ⟨#[], #[.agg #[.int .i64 0, .int .i64 0, .int .i64 0, .int .i64 0, .int .i64 0, .int .i64 0, .int .i64 0, .string ⟨#[]⟩, .float .f64 0, .int .i64 0, .int .i64 0, .float .f64 0, .string ⟨#[]⟩, .slice none 0 0, .slice none 0 0, .slice none 0 0, .slice none 0 0], .int .i64 0, .string ⟨#[]⟩], []⟩ 8 (by kernel_rfl) (by kernel_rfl) (by kernel_rfl) (by kernel_rfl)) ?_
  intro W base args ds gs before hval0 hW hcnd hsz _
  have hval : ∀ (j : Nat) t v, Try.f5.params[j]? = some t → args[j]? = some v → Value.okWide Try.prog W .any base t v := hval0
  have hW' := hW
  obtain ⟨p, q, hA0, hV, rfl, hfz, hnd⟩ := hW
  have hA : DataW.TrodAll enc Try.prog W 0 (fun _ => true) true Try.f5.params.toList args.toList ds p := hA0
  rw [Try.params5] at hA hval hsz
  have hA2 := hA
  obtain ⟨v0, vs0, d0, ds0, p0, q0, hargs, rfl, rfl, h0, r0⟩ := trodAll_cons hA
  obtain ⟨v1, vs1, d1, ds1, p1, q1, rfl, rfl, rfl, h1, r1⟩ := trodAll_cons r0
  obtain ⟨v2, vs2, d2, ds2, p2, q2, rfl, rfl, rfl, h2, r2⟩ := trodAll_cons r1
  obtain ⟨rfl, rfl, rfl⟩ := trodAll_nil r2
  obtain rfl : args = #[v0, v1, v2] := by cases args; simp_all
  obtain ⟨rfl, rfl⟩ := trodVars_none hV
  clear hargs
  have k0 := hval 0 34 v0 rfl rfl
  obtain ⟨fu0, m0⟩ := h0
  have w0 := weights_of hsz (j := 0) (t := 34) rfl rfl
  have F0 : Fit Try.prog 34 d0 := .inl w0
  have s0 := cells_agg Try.underlying34 k0
  obtain ⟨y0, E0, g0⟩ := vwMsg.2.2 m0 F0
  obtain ⟨pa1_0, pn1_0, pc1_0, pa2_0, pn2_0, pc2_0, pa3_0, pn3_0, pc3_0, pa4_0, pn4_0, pc4_0, e0, b0⟩ := msg_open E0
  obtain ⟨z0, s01, s02⟩ := s0
  have e0' := agg_of ⟨s01, s02⟩ e0
  subst e0'
  have k1 := hval 1 3 v1 rfl rfl
  obtain ⟨fu1, m1⟩ := h1
  have w1 := weights_of hsz (j := 1) (t := 3) rfl rfl
  obtain ⟨a1, e1, f1⟩ := view_int Try.underlying3 m1
  have e1' := int_of Try.underlying3 k1 e1
  subst e1'
  have k2 := hval 2 9 v2 rfl rfl
  obtain ⟨fu2, m2⟩ := h2
  have w2 := weights_of hsz (j := 2) (t := 9) rfl rfl
  have F2 : Fit Try.prog 9 d2 := .inl w2
  obtain ⟨a2, ⟨e2, f2⟩, g2⟩ := vwStr.2.2 m2 F2
  have e2' := string_of Try.underlying9 k2 e2
  subst e2'
  refine (walk W y0 pa1_0 pn1_0 pc1_0 pa2_0 pn2_0 pc2_0 pa3_0 pn3_0 pc3_0 pa4_0 pn4_0 pc4_0 b0 a1 f1 a2 f2).mono fun e W' ⟨he, bel⟩ => ?_
  subst he
  exact ⟨_, rfl, _, _, _, [], _, [], hW', trodAll_mk1 (shut_bool Try.underlying4 _), trodAll_again laidOut bel (by kernel_rfl) hA2, rfl, bel.frame _, fun h => by cases h⟩

theorem over : Rows.wireWholeRow.holds Try.pinned (OpenSpec.ofChange Rows.wireWholeSpec) :=
  OpenClaim.holds_of_wide 5 Try.f5 rfl rfl rfl rfl rfl rfl rfl ⟨rfl, rfl, rfl, rfl, rfl⟩ rfl rfl rfl rfl rfl (by kernel_rfl) Try.func5 (by kernel_rfl)
    (of_decide_eq_true (by kernel_rfl)) (by unfold Func.isWrapper; first | (rw [if_pos (by decide +kernel)]; kernel_rfl) | (rw [if_neg (by decide +kernel)]; exact ⟨rfl, rfl⟩))
    (fun os started H enc _ => lifted os started H enc)

theorem proved : Rows.WireWholeSaid := over
#print axioms proved
end Go.Proofs.Ytijeieamodjgbaa.wireWhole
