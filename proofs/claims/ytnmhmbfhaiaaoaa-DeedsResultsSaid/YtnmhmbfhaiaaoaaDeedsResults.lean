
/- DeedsResults: results' texts are what the document says, and come back: for every input the law returns true, and its arguments read as before. No condition. -/
import Derived.Test.YtnmhmbfhaiaaoaaDrP
import Derived.Test.YtnmhmbfhaiaaoaaDw
namespace Go.Proofs.Ytnmhmbfhaiaaoaa.deedsResults
set_option maxRecDepth 100000
open Go.ChangeShapes Go.WideShapes Go.ChangeAt Go.RowKit
set_option linter.unusedVariables false
set_option linter.unusedSimpArgs false
attribute [local go_sem] run_store_float

theorem res_at {w : World} {p : Nat} {c : Int} {b : Nat} {t : TypeId} {fr : Nat × Nat} (h : w.heap[p]? = some (.cells #[.int .i64 c, .float .f64 b] t fr)) : w.cell? ⟨p, 0, none⟩ = some (.int .i64 c) ∧ w.cell? ⟨p, 1, none⟩ = some (.float .f64 b) :=
  ⟨by rw [blk_cell h]; rfl, by rw [blk_cell h]; rfl⟩

set_option maxHeartbeats 2000000 in
theorem walk (w : World) (c : Int) (hc : i64 c) (m : Int) (hm : 0 ≤ m ∧ m ≤ 18446744073709551615) (text : ByteArray) (hts : text.size ≤ 140737488351232) :
    Calls Try.prog 7 #[.int .i64 c, .int .u64 m, .string text] w fun e w' => e = .returned (.bool true) ∧ Below w.heap.size w w' := by
  obtain ⟨b, hb, rfl⟩ : ∃ b : Nat, b < 18446744073709551616 ∧ m = b := ⟨m.toNat, by omega, by omega⟩
  have hf := frombits_run (b : Int)
  rw [show ((b : Int)).toNat = b by omega] at hf
  have C1 := fun w => restext_any c b w hb
  have C2 := Lib.hid (fun w => rrestext_any c b w hb)
  have CA := Lib.hid (fun w => readres_any text w hts)
  have CU := Lib.hid (fun w => restext_any (rsC text.data.toList) (rsB text.data.toList) w (rsB_lt _))
  have HT := Lib.hid (show rsE text.data.toList = 0 → resErr (rsC text.data.toList) = 0 ∧ resText (rsC text.data.toList) (rsB text.data.toList) = text from fun h => by
    have hok : rsOk text.data.toList = true := by
      cases hk : rsOk text.data.toList with
      | true => rfl
      | false => rw [(rs_no hk).2.2] at h; cases h
    obtain ⟨h1, h2⟩ := res_told hok
    exact ⟨by rw [resErr, if_pos h1], by rw [resText, if_pos h1, h2]⟩)
  have HB := Lib.hid (show resErr c = 0 → (resText c b).size ≤ 140737488351232 ∧ rsE (resText c b).data.toList = 0 ∧ sameResB c b (rsC (resText c b).data.toList) (rsB (resText c b).data.toList) = true ∧ rsB (resText c b).data.toList < 18446744073709551616 from fun h => by
    have hr : 0 ≤ c ∧ c ≤ 8 := by
      by_cases hr : 0 ≤ c ∧ c ≤ 8
      · exact hr
      · rw [resErr, if_neg hr] at h; cases h
    obtain ⟨h1, h2, h3⟩ := res_back (b := b) hr hb
    rw [resText, if_pos hr]
    refine ⟨?_, h1, ?_, rsB_lt _⟩
    · simp [ByteArray.size, resQ, beN_len]
    · show sameResB c b (rsC (resQ c b)) (rsB (resQ c b)) = true
      rw [h2, h3, sameResB, canon_idem]; simp)
  have he01 : resErr c = 0 ∨ resErr c = 1 := by unfold resErr; split <;> simp
  have hg01 : rsE text.data.toList = 0 ∨ rsE text.data.toList = 5 := by unfold rsE; split <;> simp
  generalize rsC text.data.toList = tc at *
  generalize rsB text.data.toList = tb at *
  generalize rsE text.data.toList = te at *
  generalize resText c b = S at *
  generalize resErr c = E at *
  generalize resText tc tb = U at *
  generalize resErr tc = H at *
  have C1 := Lib.hid C1
  clear hts hc hm
  go_enter Try.func7, Try.ntmps7
  go_wp2_with fail
  refine (lives11_any _).mono ?_
  rintro r w1 ⟨rfl, b1⟩
  have B1 := Lib.hid b1
  clear b1
  have K1 := Lib.hid (blk_alloc w1 (.cells #[.int .i64 c, .float .f64 b] 42 (0, 0)))
  have B2 := Lib.hid (balloc B1.out (.cells #[.int .i64 c, .float .f64 b] 42 (0, 0)))
  go_wp2_with fail
  generalize hp : w1.heap.size = p at *
  generalize hw2 : w1.alloc (.cells #[.int .i64 c, .float .f64 b] 42 (0, 0)) = w2 at *
  clear hw2 B1 hp
  refine (C1.out _).mono ?_
  rintro r w3 ⟨rfl, b3⟩
  have K3 := Lib.hid (blk_below K1.out b3)
  have B3 := Lib.hid (bthen B2.out b3)
  clear b3 K1 B2
  obtain ⟨x0, x1⟩ := res_at K3.out
  go_wp2_with fail
  refine (C2.out _).mono ?_
  rintro r w4 ⟨rfl, b4⟩
  have K4 := Lib.hid (blk_below K3.out b4)
  have B4 := Lib.hid (bthen B3.out b4)
  clear b4 K3 B3 x0 x1 C1 C2
  have tail : ∀ w5, Below w.heap.size w w5 → True := fun _ _ => trivial
  rcases he01 with rfl | rfl
  · obtain ⟨hsz, h1, h2, h3⟩ := HB.out rfl
    have CS := fun w => readres_any S w hsz
    have CC := fun w => sameres_any c b (rsC S.data.toList) (rsB S.data.toList) w hb h3
    rw [h1] at CS
    rw [h2] at CC
    generalize rsC S.data.toList = sc at *
    generalize rsB S.data.toList = sb at *
    have CS := Lib.hid CS; have CC := Lib.hid CC
    clear hsz h1 h2 h3 HB
    go_wp2_with fail
    refine (CS.out _).mono ?_
    rintro r w5 ⟨rfl, b5⟩
    have K5 := Lib.hid (blk_below (blk_below K4.out b5) (below_alloc w5 (.cells #[.int .i64 sc, .float .f64 sb] 42 (0, 0))))
    have B5 := Lib.hid (balloc (bthen B4.out b5) (.cells #[.int .i64 sc, .float .f64 sb] 42 (0, 0)))
    clear b5 K4 B4
    obtain ⟨x0, x1⟩ := res_at K5.out
    go_wp2_with fail
    refine (CC.out _).mono ?_
    rintro r w6 ⟨rfl, b6⟩
    have B6 := Lib.hid (bthen B5.out b6)
    clear b6 K5 B5 x0 x1
    go_wp2_with fail
    refine (CA.out _).mono ?_
    rintro r w7 ⟨rfl, b7⟩
    have B7 := Lib.hid (balloc (bthen B6.out b7) (.cells #[.int .i64 tc, .float .f64 tb] 42 (0, 0)))
    clear b7 B6
    rcases hg01 with rfl | rfl
    · obtain ⟨t1, t2⟩ := HT.out rfl
      subst t1
      subst t2
      clear HT
      go_wp2_with fail
      refine (CU.out _).mono ?_
      rintro r w8 ⟨rfl, b8⟩
      have B8 := Lib.hid (bthen B7.out b8)
      clear b8
      go_wp2_with fail
      go_ret
      exact ⟨rfl, B8.out⟩
    · clear HT
      go_wp2_with fail
      go_ret
      exact ⟨rfl, B7.out⟩
  · clear HB
    go_wp2_with fail
    refine (CA.out _).mono ?_
    rintro r w7 ⟨rfl, b7⟩
    have B7 := Lib.hid (balloc (bthen B4.out b7) (.cells #[.int .i64 tc, .float .f64 tb] 42 (0, 0)))
    clear b7
    rcases hg01 with rfl | rfl
    · obtain ⟨t1, t2⟩ := HT.out rfl
      subst t1
      subst t2
      clear HT
      go_wp2_with fail
      refine (CU.out _).mono ?_
      rintro r w8 ⟨rfl, b8⟩
      have B8 := Lib.hid (bthen B7.out b8)
      clear b8
      go_wp2_with fail
      go_ret
      exact ⟨rfl, B8.out⟩
    · clear HT
      go_wp2_with fail
      go_ret
      exact ⟨rfl, B7.out⟩

set_option maxRecDepth 100000 in
theorem lifted (os : Os) (started : os.Started) (H : Type) (enc : TypeId × Value → H) :
    ReturnsInHanded {} Try.checked os 7 .any (Rows.deedsResultsSpec.pre6 enc Try.prog Try.f7 Rows.deedsResultsRow.domain false) (Rows.deedsResultsSpec.post enc Try.prog Try.f7 false true false false) := by
  refine returnsInHanded_of_change_sized (C := Try.checked) own started (by kernel_rfl) Try.func7
    (ChangeSpec.witness6 (enc := enc) (C := Try.checked) false ⟨#[], #[.int .i64 0, .int .u64 0, .string ⟨#[]⟩], []⟩ 8 (by kernel_rfl) (by kernel_rfl) (by kernel_rfl) (by kernel_rfl)) ?_
  intro W base args ds gs before hval0 hW hcnd hsz _
  have hval : ∀ (j : Nat) t v, Try.f7.params[j]? = some t → args[j]? = some v → Value.okWide Try.prog W .any base t v := hval0
  have hW' := hW
  obtain ⟨p, q, hA0, hV, rfl, hfz, hnd⟩ := hW
  have hA : DataW.TrodAll enc Try.prog W 0 (fun _ => true) true Try.f7.params.toList args.toList ds p := hA0
  rw [Try.params7] at hA hval hsz
  have hA2 := hA
  obtain ⟨v0, vs0, d0, ds0, p0, q0, hargs, rfl, rfl, h0, r0⟩ := trodAll_cons hA
  obtain ⟨v1, vs1, d1, ds1, p1, q1, rfl, rfl, rfl, h1, r1⟩ := trodAll_cons r0
  obtain ⟨v2, vs2, d2, ds2, p2, q2, rfl, rfl, rfl, h2, r2⟩ := trodAll_cons r1
  obtain ⟨rfl, rfl, rfl⟩ := trodAll_nil r2
  obtain rfl : args = #[v0, v1, v2] := by cases args; simp_all
  obtain ⟨rfl, rfl⟩ := trodVars_none hV
  clear hargs
  have k0 := hval 0 3 v0 rfl rfl
  obtain ⟨fu0, m0⟩ := h0
  have w0 := weights_of hsz (j := 0) (t := 3) rfl rfl
  obtain ⟨a0, e0, f0⟩ := view_int Try.underlying3 m0
  have e0' := int_of Try.underlying3 k0 e0
  subst e0'
  have k1 := hval 1 22 v1 rfl rfl
  obtain ⟨fu1, m1⟩ := h1
  have w1 := weights_of hsz (j := 1) (t := 22) rfl rfl
  obtain ⟨a1, e1, f1⟩ := view_uint Try.underlying22 m1
  have e1' := int_of Try.underlying22 k1 e1
  subst e1'
  have k2 := hval 2 9 v2 rfl rfl
  obtain ⟨fu2, m2⟩ := h2
  have w2 := weights_of hsz (j := 2) (t := 9) rfl rfl
  obtain ⟨a2, e2, f2⟩ := view_string Try.underlying9 m2 w2
  have e2' := string_of Try.underlying9 k2 e2
  subst e2'
  refine (walk W a0 f0 a1 f1 a2 f2).mono fun e W' ⟨he, bel⟩ => ?_
  subst he
  exact ⟨_, rfl, _, _, _, [], _, [], hW', trodAll_mk1 (shut_bool Try.underlying4 _), trodAll_again laidOut bel (by kernel_rfl) hA2, rfl, bel.frame _, fun h => by cases h⟩

theorem over : Rows.deedsResultsRow.holds Try.pinned (OpenSpec.ofChange Rows.deedsResultsSpec) :=
  OpenClaim.holds_of_wide 7 Try.f7 rfl rfl rfl rfl rfl rfl rfl ⟨rfl, rfl, rfl, rfl, rfl⟩ rfl rfl rfl rfl rfl (by kernel_rfl) Try.func7 (by kernel_rfl)
    (of_decide_eq_true (by kernel_rfl)) (by unfold Func.isWrapper; first | (rw [if_pos (by decide +kernel)]; kernel_rfl) | (rw [if_neg (by decide +kernel)]; exact ⟨rfl, rfl⟩))
    (fun os started H enc _ => lifted os started H enc)

theorem proved : Rows.DeedsResultsSaid := over
#print axioms proved
end Go.Proofs.Ytnmhmbfhaiaaoaa.deedsResults
