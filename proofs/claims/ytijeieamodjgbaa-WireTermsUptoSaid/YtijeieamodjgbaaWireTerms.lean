
/- WireTerms: all signatures of a message are told, in their order, whatever it is; what is handed out is new memory: for every input within the bound the law returns true, and its arguments read as before. The bound is the given one of Upto; no other condition. -/
import Derived.Test.YtijeieamodjgbaaWlv
import Derived.Test.YtijeieamodjgbaaWtr
import Derived.Test.YtijeieamodjgbaaView
namespace Go.Proofs.Ytijeieamodjgbaa.wireTerms
set_option maxRecDepth 100000
open Go.ChangeShapes Go.WideShapes Go.ChangeAt Go.RowKit Go.Deep
set_option linter.unusedVariables false
set_option linter.unusedSimpArgs false
attribute [local go_sem] run_store_float

/-- The row that was handed out, under way. -/
def RowT (w3 wr : World) (al : Option Addr) (N : Nat) : Prop := Below w3.heap.size w3 wr ∧ (N = 0 ∨ ∃ g cur, al = some ⟨g, 0, none⟩ ∧ w3.heap.size ≤ g ∧ wr.heap[g]? = some (.cells cur 49 (0, 0)) ∧ N * 2 ≤ cur.size)
theorem row_form {w : World} {B N c : Nat} {al : Option Addr} {l : List Sg} (h : w.ownsRow B 49 2 (.slice al N c) N (sigV l)) : N = 0 ∨ ∃ g cur, al = some ⟨g, 0, none⟩ ∧ B ≤ g ∧ w.heap[g]? = some (.cells cur 49 (0, 0)) ∧ N * 2 ≤ cur.size := by
  rcases h.2 with ⟨hv, _⟩ | ⟨g, cap, cur, hv, hB, hg, hn, _, hc, _⟩
  · injection hv with _ hv _
    exact .inl hv
  · injection hv with hv _ _
    exact .inr ⟨g, cur, hv, hB, hg, by rw [hc]; exact Nat.mul_le_mul_right 2 hn⟩
set_option maxHeartbeats 4000000 in
theorem walk (w : World) (m : Mg) (a1 : Option Addr) (n1 c1 : Nat) (a2 : Option Addr) (n2 c2 : Nat) (a3 : Option Addr) (n3 c3 : Nat) (a4 : Option Addr) (n4 c4 : Nat) (hm : MsgIn w m a1 n1 c1 a2 n2 c2 a3 n3 c3 a4 n4 c4) (HK : shMsg.sz m ≤ 1048576) :
    Calls Try.prog 7 #[.agg (mgCs m a1 n1 c1 a2 n2 c2 a3 n3 c3 a4 n4 c4).toArray] w fun e w' => e = .returned (.bool true) ∧ Below w.heap.size w w' := by
  have HL := Lib.hid (show (termsP m).length * 24 ≤ 140737488355328 by have := terms_sz m; omega)
  have HF := Lib.hid (terms_fine hm)
  obtain ⟨w1, hw1⟩ : ∃ u, u = w.alloc (.cells (mgCs m a1 n1 c1 a2 n2 c2 a3 n3 c3 a4 n4 c4).toArray 34 (0, 0)) := ⟨_, rfl⟩
  have bw1 : Below w.heap.size w w1 := by rw [hw1]; exact below_alloc _ _
  have K1 := Lib.hid (show w1.heap[w.heap.size]? = some (.cells (mgCs m a1 n1 c1 a2 n2 c2 a3 n3 c3 a4 n4 c4).toArray 34 (0, 0)) by rw [hw1]; exact blk_alloc _ _)
  have B1 := Lib.hid bw1
  have HM := Lib.hid hm
  obtain ⟨CS, hCS⟩ : ∃ CS, CS = (mgCs m a1 n1 c1 a2 n2 c2 a3 n3 c3 a4 n4 c4).toArray := ⟨_, rfl⟩
  rw [← hCS] at hw1 ⊢
  have HCS := Lib.hid hCS
  have CRT := Lib.hid (show ∀ u, Below w.heap.size w u → Calls Try.prog 18 #[.agg CS] u (TermsPost m u) from fun u hb => by rw [hCS]; exact rterms_any m a1 n1 c1 a2 n2 c2 a3 n3 c3 a4 n4 c4 u (hm.old hb) HL.out)
  have CPT := Lib.hid (show ∀ u, Below w.heap.size w u → Calls Try.prog 19 #[.agg CS] u (TermsPost m u) from fun u hb => by rw [hCS]; exact terms_any m a1 n1 c1 a2 n2 c2 a3 n3 c3 a4 n4 c4 u (hm.old hb) HL.out)
  have HROW := Lib.hid (show ∀ (u : World) (B : Nat) (v : Value), u.ownsRow B 49 2 v (termsP m).length (sigV (termsP m)) → ∃ a c, v = .slice a (termsP m).length c ∧ SlAt shSig u a (termsP m).length c (termsP m) from fun u B v ho => by
    obtain ⟨a, c, rfl⟩ := owns_form ho
    exact ⟨a, c, rfl, sigs_row ho rfl HF.out HL.out⟩)
  clear hCS bw1 hm HK HF
  go_enter Try.func7, Try.ntmps7
  go_upto_region 1 with (fail)
  rw [← hw1]
  clear hw1
  go_wp2_with fail
  refine (lives13_any w1).mono ?_
  rintro r w2 ⟨rfl, b2⟩
  have K2 := Lib.hid (blk_below K1.out b2)
  have B2 := Lib.hid (bthen B1.out b2)
  clear b2 B1 K1
  go_upto_region 3 with (fail)
  refine wp_region_lit ?_
  refine ops_val rfl (w' := w2) (v := .agg CS) (load_row _ _ (.tmp 1) Try.underlying34 rfl (by rw [HCS.out, List.size_toArray]; exact info_mg) rfl rfl (by rw [HCS.out]; exact K2.out)) ?_
  simp only [Act.put, List.setIfInBounds_toArray, List.set_cons_succ, List.set_cons_zero]
  go_wp2_with fail
  refine (CRT.out w2 B2.out).mono ?_
  rintro r w3 ⟨b3, v3, rfl, ho3⟩
  obtain ⟨aw, cw, rfl, hw3⟩ := HROW.out w3 _ v3 ho3
  have HW := Lib.hid hw3
  have K3 := Lib.hid (blk_below K2.out b3)
  have B3 := Lib.hid (bthen B2.out b3)
  clear b3 B2 K2 ho3 hw3
  go_upto_region 4 with (fail)
  refine wp_region_lit ?_
  refine ops_val rfl (w' := w3) (v := .agg CS) (load_row _ _ (.tmp 1) Try.underlying34 rfl (by rw [HCS.out, List.size_toArray]; exact info_mg) rfl rfl (by rw [HCS.out]; exact K3.out)) ?_
  simp only [Act.put, List.setIfInBounds_toArray, List.set_cons_succ, List.set_cons_zero]
  go_wp2_with fail
  refine (CPT.out w3 B3.out).mono ?_
  rintro r w4 ⟨b4, v4, rfl, ho4⟩
  obtain ⟨al, cl, rfl, hw4⟩ := HROW.out w4 _ v4 ho4
  have hsame := samesigs_any al (termsP m).length cl (termsP m) aw (termsP m).length cw (termsP m) w4 hw4 (HW.out.old b4)
  rw [decide_eq_true rfl] at hsame
  have CSM := Lib.hid hsame
  have HR4 := Lib.hid (row_form ho4)
  have Q4 := Lib.hid b4
  have hcl := Nat.le_trans hw4.cap hw4.max
  clear ho4 hw4 hsame b4
  go_wp2_with fail
  refine CSM.out.mono ?_
  rintro r w5 ⟨rfl, nq, rfl⟩
  have hd5 : Below w4.heap.size w4 (w4.drewN nq) := below_drewN (B := w4.heap.size) (Below.refl _ w4) nq
  generalize w4.drewN nq = w5 at *
  have HJ := Lib.hid (show RowT w3 w5 al (termsP m).length from ⟨bthen Q4.out hd5, by
    rcases HR4.out with h | ⟨g, cur, h1, h2, h3, h4⟩
    · exact .inl h
    · exact .inr ⟨g, cur, h1, h2, blk_below h3 hd5, h4⟩⟩)
  clear hd5 HR4 Q4 CSM
  generalize hN : (termsP m).length = N at *
  have HN := Lib.hid hN
  clear hN
  go_wp2_with fail
  go_loopw [5] (fun i wr => ∃ k : Nat, k ≤ N ∧ i = .int .i64 k ∧ Hid (RowT w3 wr al N)) (fun i _ => N - (intOf i).toNat)
  case atStart => exact ⟨0, by omega, rfl, HJ⟩
  case round =>
    clear HJ
    obtain ⟨k, hk, rfl, HJ⟩ := hrel
    by_cases hkn : k < N
    · obtain ⟨hb, g, cur, rfl, hg0, hg, hcz⟩ : Below w3.heap.size w3 wr ∧ ∃ g cur, al = some ⟨g, 0, none⟩ ∧ w3.heap.size ≤ g ∧ wr.heap[g]? = some (.cells cur 49 (0, 0)) ∧ N * 2 ≤ cur.size := by
        obtain ⟨h1, h2⟩ := HJ.out
        rcases h2 with h2 | h2
        · omega
        · exact ⟨h1, h2⟩
      have hj0 : (0 : Int) ≤ (k : Int) := by omega
      have hj1 : (k : Int) < (N : Int) := by omega
      obtain ⟨vc, hvc⟩ : ∃ vc, cur[0 + k * 2]? = some vc := ⟨_, Array.getElem?_eq_getElem (by omega)⟩
      have xc : wr.cell? ⟨g, 0 + k * 2, none⟩ = some vc := by rw [blk_cell hg]; exact hvc
      have fc := blk_frozen hg (0 + k * 2)
      have lg := blk_lt hg
      have HJ2 := Lib.hid (show RowT w3 (wr.setCell ⟨g, 0 + k * 2, none⟩ (.int .i64 (-9))) (some ⟨g, 0, none⟩) N from ⟨hb.setCell hg0 _, .inr ⟨g, _, rfl, hg0, blk_set hg _ _, by simpa using hcz⟩⟩)
      rw [Nat.zero_add] at xc fc HJ2
      clear hb hg hvc hcz HJ
      go_wp2_with fail
      go_roundw
      case rel => exact ⟨k + 1, by omega, by go_num, HJ2⟩
      case measure => simp [intOf]; omega
    · obtain rfl : k = N := by omega
      have hb := HJ.out.1
      have K5 := Lib.hid (blk_below K3.out hb)
      have B5 := Lib.hid (bthen B3.out hb)
      have HW5 := Lib.hid (HW.out.old hb)
      clear hb HJ HW K3
      go_upto_region 11 with (fail)
      refine wp_region_lit ?_
      refine ops_val rfl (w' := wr) (v := .agg CS) (load_row _ _ (.tmp 1) Try.underlying34 rfl (by rw [HCS.out, List.size_toArray]; exact info_mg) rfl rfl (by rw [HCS.out]; exact K5.out)) ?_
      simp only [Act.put, List.setIfInBounds_toArray, List.set_cons_succ, List.set_cons_zero]
      go_wp2_with fail
      refine (CRT.out wr B5.out).mono ?_
      rintro r w6 ⟨b6, v6, rfl, ho6⟩
      rw [HN.out] at ho6
      obtain ⟨a6, c6, rfl, hw6⟩ := HROW.out w6 _ v6 ho6
      have hsame := samesigs_any a6 k c6 (termsP m) aw k cw (termsP m) w6 hw6 (HW5.out.old b6)
      rw [decide_eq_true rfl] at hsame
      have CSM := Lib.hid hsame
      have K6 := Lib.hid (blk_below K5.out b6)
      have B6 := Lib.hid (bthen B5.out b6)
      have HW6 := Lib.hid (HW5.out.old b6)
      clear ho6 hw6 hsame b6 K5 HW5
      go_wp2_with fail
      refine CSM.out.mono ?_
      rintro r w7 ⟨rfl, nq, rfl⟩
      have hd7 : Below w6.heap.size w6 (w6.drewN nq) := below_drewN (B := w6.heap.size) (Below.refl _ w6) nq
      generalize w6.drewN nq = w7 at *
      have K7 := Lib.hid (blk_below K6.out hd7)
      have B7 := Lib.hid (bthen B6.out hd7)
      have HW7 := Lib.hid (HW6.out.old hd7)
      clear hd7 K6 B6 HW6 CSM
      rename_i hK
      refine hK _ _ ?_
      clear hK
      refine ops_val rfl (w' := w7) (v := .bool true) (by simp only [execOp]; go_simp) ?_
      simp only [Act.put, List.setIfInBounds_toArray, List.set_cons_succ, List.set_cons_zero]
      refine ops_val rfl (w' := w7) (v := .agg CS) (load_row _ _ (.tmp 1) Try.underlying34 rfl (by rw [HCS.out, List.size_toArray]; exact info_mg) rfl rfl (by rw [HCS.out]; exact K7.out)) ?_
      simp only [Act.put, List.setIfInBounds_toArray, List.set_cons_succ, List.set_cons_zero]
      go_wp2_with fail
      refine (CPT.out w7 B7.out).mono ?_
      rintro r w8 ⟨b8, v8, rfl, ho8⟩
      rw [HN.out] at ho8
      obtain ⟨a8, c8, rfl, hw8⟩ := HROW.out w8 _ v8 ho8
      have hsame := samesigs_any a8 k c8 (termsP m) aw k cw (termsP m) w8 hw8 (HW7.out.old b8)
      rw [decide_eq_true rfl] at hsame
      have CSM := Lib.hid hsame
      have B8 := Lib.hid (bthen B7.out b8)
      clear ho8 hw8 hsame b8
      go_wp2_with fail
      refine CSM.out.mono ?_
      rintro r w9 ⟨rfl, nq9, rfl⟩
      have hd9 : Below w8.heap.size w8 (w8.drewN nq9) := below_drewN (B := w8.heap.size) (Below.refl _ w8) nq9
      have B9 := Lib.hid (bthen B8.out hd9)
      clear hd9
      go_wp2_with fail
      go_ret
      exact ⟨rfl, B9.out⟩

set_option maxRecDepth 100000 in
theorem lifted (os : Os) (started : os.Started) (H : Type) (enc : TypeId × Value → H) (F : Stop.Interp) :
    ReturnsInHanded {} Try.checked os 7 .any ((Rows.OpenSpec.upto Rows.wireTermsSpec).pre6 enc Try.prog Try.f7 Rows.wireTermsUptoRow.domain false) (((Rows.OpenSpec.upto Rows.wireTermsSpec).at F).post enc Try.prog Try.f7 false true false false) := by
  refine returnsInHanded_of_cond (C := Try.checked) (s := Rows.OpenSpec.upto Rows.wireTermsSpec) (k := Rows.uptoSmall) rfl own started (by kernel_rfl) Try.func7
    (OpenSpec.witness (enc := enc) (C := Try.checked) (s := Rows.OpenSpec.upto Rows.wireTermsSpec) (k := Rows.uptoSmall) rfl false ⟨#[], #[.agg #[.int .i64 0, .int .i64 0, .int .i64 0, .int .i64 0, .int .i64 0, .int .i64 0, .int .i64 0, .string ⟨#[]⟩, .float .f64 0, .int .i64 0, .int .i64 0, .float .f64 0, .string ⟨#[]⟩, .slice none 0 0, .slice none 0 0, .slice none 0 0, .slice none 0 0]], []⟩ 8 (by kernel_rfl) (by kernel_rfl) (by kernel_rfl)
      (x := ([.agg [.lit (.int .i64 0), .lit (.int .i64 0), .lit (.int .i64 0), .lit (.int .i64 0), .agg [.lit (.int .i64 0), .lit (.int .i64 0), .agg [.lit (.int .i64 0), .lit (.string []), .lit (.float .f64 0), .lit (.int .i64 0)]], .agg [.lit (.int .i64 0), .lit (.float .f64 0)], .lit (.string []), .nil, .nil, .nil, .nil]], [], [])) (by kernel_rfl) rfl (by kernel_rfl)) ?_
  intro W base args ds gs before hval0 hW _ hk _
  have hval : ∀ (j : Nat) t v, Try.f7.params[j]? = some t → args[j]? = some v → Value.okWide Try.prog W .any base t v := hval0
  have hW' := hW
  obtain ⟨p, q, hA0, hV, rfl, hfz, hnd⟩ := hW
  have hA : DataW.TrodAll enc Try.prog W 0 (fun _ => true) true Try.f7.params.toList args.toList ds p := hA0
  rw [Try.params7] at hA hval
  have hA2 := hA
  obtain ⟨v0, vs0, d0, ds0, p0, q0, hargs, rfl, rfl, h0, r0⟩ := trodAll_cons hA
  obtain ⟨rfl, rfl, rfl⟩ := trodAll_nil r0
  obtain rfl : args = #[v0] := by cases args; simp_all
  obtain ⟨rfl, rfl⟩ := trodVars_none hV
  clear hargs
  have hk' : Rows.uptoSmall H [d0] = true := by simpa using hk
  have k0 := hval 0 34 v0 rfl rfl
  obtain ⟨fu0, m0⟩ := h0
  have F0 : Fit Try.prog 34 d0 := fit_upto hk' (by simp) _
  have s0 := cells_agg Try.underlying34 k0
  obtain ⟨y0, E0, g0⟩ := vwMsg.2.2 m0 F0
  obtain ⟨pa1_0, pn1_0, pc1_0, pa2_0, pn2_0, pc2_0, pa3_0, pn3_0, pc3_0, pa4_0, pn4_0, pc4_0, e0, b0⟩ := msg_open E0
  obtain ⟨z0, s01, s02⟩ := s0
  have e0' := agg_of ⟨s01, s02⟩ e0
  subst e0'
  have G0 : shMsg.sz y0 ≤ Rows.uptoBulk d0 := g0
  have HK : shMsg.sz y0 ≤ 1048576 := by have h : Rows.uptoBulkAll [d0] ≤ 1048576 := (by simpa [Rows.uptoSmall] using hk'); simp only [Rows.uptoBulkAll] at h; omega
  refine (walk W y0 pa1_0 pn1_0 pc1_0 pa2_0 pn2_0 pc2_0 pa3_0 pn3_0 pc3_0 pa4_0 pn4_0 pc4_0 b0 HK).mono fun e W' ⟨he, bel⟩ => ?_
  subst he
  exact ⟨_, rfl, _, _, _, [], _, [], hW', trodAll_mk1 (shut_bool Try.underlying4 _), trodAll_again laidOut bel (by kernel_rfl) hA2, rfl, bel.frame _, fun h => by cases h⟩

theorem over : Rows.wireTermsUptoRow.holds Try.pinned (Rows.OpenSpec.upto Rows.wireTermsSpec) :=
  OpenClaim.holds_of_cond 7 Try.f7 rfl rfl rfl rfl rfl rfl rfl ⟨rfl, rfl, rfl, rfl, rfl⟩ rfl rfl rfl rfl rfl (by kernel_rfl) Try.func7 (by kernel_rfl)
    (of_decide_eq_true (by kernel_rfl)) (by unfold Func.isWrapper; first | (rw [if_pos (by decide +kernel)]; kernel_rfl) | (rw [if_neg (by decide +kernel)]; exact ⟨rfl, rfl⟩))
    (fun os started H enc _ F => lifted os started H enc F)

theorem proved : Rows.WireTermsUptoSaid := over
#print axioms proved
end Go.Proofs.Ytijeieamodjgbaa.wireTerms
