/- PackScans: a scan by any shape reads any text as the document says: for every input of bulk at most 1048576 the law returns true, and its arguments read as before. -/
import Derived.Test.YtldlkhnhpbonkaaRsc
import Derived.Test.YtldlkhnhpbonkaaIt
import Derived.Test.YtldlkhnhpbonkaaPhase
import Derived.JoinedCond
namespace Go.Proofs.Ytldlkhnhpbonkaa.packScans
open Go.ChangeShapes Go.WideShapes Go.ChangeAt Go.RowKit
set_option linter.unusedVariables false

set_option maxHeartbeats 2000000 in
theorem walk (w : World) (shape : ByteArray) (h1 : shape.size ≤ 140737488351232) (text : ByteArray) (h2 : text.size ≤ 140737488351232) (HK : Sh.str.sz shape + Sh.str.sz text ≤ 1048576) :
    Calls Try.prog 4 #[.string shape, .string text] w fun e w' => e = .returned (.bool true) ∧ Below w.heap.size w w' := by
  have hs : shape.size ≤ 1048576 := by have : shape.size + 1 + (text.size + 1) ≤ 1048576 := HK; omega
  have C1 := Lib.hid (fun w' => scan_any shape text w' hs h2)
  have C2 := Lib.hid (fun w' => rscan_any shape text w' hs h2)
  have hl : (scL shape.data.toList text.data.toList).length ≤ 1048576 := by
    unfold scL
    split
    · rw [scV_len]; simpa using hs
    · simp
  clear HK h1 h2 hs
  go_enter Try.func4, Try.ntmps4
  go_wp2_with fail
  refine (lives_any _).mono ?_
  rintro e w1 ⟨rfl, b1⟩
  go_wp2_with fail
  refine (C1.out w1).mono ?_
  rintro e w2 ⟨v, rfl, hv2, b2⟩
  obtain ⟨a, c, rfl⟩ := owns_slice3 hv2
  go_wp2_with fail
  refine (C2.out w2).mono ?_
  rintro e w3 ⟨u, rfl, hu3, b3⟩
  obtain ⟨a2, c2, rfl⟩ := owns_slice3 hu3
  have HV := Lib.hid (owns_below3 hv2 b3); have HU := Lib.hid hu3
  have HB := Lib.hid (bthen (bthen b1 b2) b3)
  clear hv2 hu3 b1 b2 b3 C1 C2
  generalize scE shape.data.toList text.data.toList = E at *
  generalize scL shape.data.toList text.data.toList = X at *
  go_wp2_with fail
  go_loopw [9] (fun i wr => ∃ j : Nat, j ≤ X.length ∧ i = .int .i64 j ∧ Hid (Below w3.heap.size w3 wr)) (fun i _ => X.length - (intOf i).toNat)
  case atStart => exact ⟨0, by omega, rfl, Lib.hid (Below.refl _ _)⟩
  case round =>
    obtain ⟨j, hj, rfl, Hb⟩ := hrel
    by_cases hlt : j < X.length
    · obtain ⟨x, hx⟩ : ∃ x, X[j]? = some x := ⟨_, List.getElem?_eq_getElem hlt⟩
      obtain ⟨g, rfl, _, p0, p1, p2⟩ := (vs_cells (owns_below3 HV.out Hb.out)).2 j x hx
      obtain ⟨g2, rfl, _, q0, q1, q2⟩ := (vs_cells (owns_below3 HU.out Hb.out)).2 j x hx
      have z1 := World.block_lt p0
      have z2 := World.block_lt q0
      have hj0 : (0 : Int) ≤ (j : Int) := by omega
      have hj1 : (j : Int) < (X.length : Int) := by omega
      go_wp2_with fail
      refine wp_region_parts (by kernel_rfl) ?_
      refine wpAny_seg (Below wr.heap.size wr) 0 37 _ (by kernel_rfl) rfl rfl (below_drewN (Below.refl _ _) 1) ?_
      repeat (refine wpQuiet_step (fun K hK => ?_); go_simp; first | (refine hK _ ?_; clear hK K) | (apply Exists.intro; refine ⟨fun w' hw' => ?_, hK _ ?_⟩; (first | (obtain ⟨cc, dd⟩ := bcell hw'; go_simp; rfl) | (with_reducible rfl)); clear hK K))
      refine wpQuiet_nil ?_
      intro w7 h7
      refine wpAny_end rfl ?_
      clear p0 p1 p2 q0 q1 q2
      go_wp2_with fail
      go_roundw
      case rel => exact ⟨j + 1, by omega, by go_num, Lib.hid (bthen Hb.out h7)⟩
      case measure => simp [intOf]; omega
    · obtain rfl : j = X.length := by omega
      go_wp2_with fail
      go_ret
      exact ⟨rfl, bthen HB.out Hb.out⟩

set_option maxRecDepth 100000 in
theorem lifted (os : Os) (started : os.Started) (H : Type) (enc : TypeId × Value → H) (F : Stop.Interp) :
    ReturnsInHanded {} Try.checked os 4 .any ((Rows.OpenSpec.upto Rows.packScansSpec).pre6 enc Try.prog Try.f4 Rows.packScansUptoRow.domain false) (((Rows.OpenSpec.upto Rows.packScansSpec).at F).post enc Try.prog Try.f4 false true false false) := by
  refine returnsInHanded_of_cond (C := Try.checked) (s := Rows.OpenSpec.upto Rows.packScansSpec) (k := Rows.uptoSmall) rfl own started (by kernel_rfl) Try.func4
    (OpenSpec.witness (enc := enc) (C := Try.checked) (s := Rows.OpenSpec.upto Rows.packScansSpec) (k := Rows.uptoSmall) rfl false ⟨#[], #[.string ⟨#[]⟩, .string ⟨#[]⟩], []⟩ 8 (by kernel_rfl) (by kernel_rfl) (by kernel_rfl)
      (x := ([.lit (.string []), .lit (.string [])], [], [])) (by kernel_rfl) rfl (by kernel_rfl)) ?_
  intro W base args ds gs before hval0 hW _ hk _
  have hval : ∀ (j : Nat) t v, Try.f4.params[j]? = some t → args[j]? = some v → Value.okWide Try.prog W .any base t v := hval0
  have hW' := hW
  obtain ⟨p, q, hA0, hV, rfl, hfz, hnd⟩ := hW
  have hA : DataW.TrodAll enc Try.prog W 0 (fun _ => true) true Try.f4.params.toList args.toList ds p := hA0
  rw [Try.params4] at hA hval
  have hA2 := hA
  obtain ⟨v0, vs0, d0, ds0, p0, q0, hargs, rfl, rfl, h0, r0⟩ := trodAll_cons hA
  obtain ⟨v1, vs1, d1, ds1, p1, q1, rfl, rfl, rfl, h1, r1⟩ := trodAll_cons r0
  obtain ⟨rfl, rfl, rfl⟩ := trodAll_nil r1
  obtain rfl : args = #[v0, v1] := by cases args; simp_all
  obtain ⟨rfl, rfl⟩ := trodVars_none hV
  clear hargs
  have hk' : Rows.uptoSmall H [d0, d1] = true := by simpa using hk
  have k0 := hval 0 9 v0 rfl rfl
  obtain ⟨fu0, m0⟩ := h0
  have F0 : Fit Try.prog 9 d0 := fit_upto hk' (by simp) _
  obtain ⟨a0, ⟨e0, f0⟩, g0⟩ := vwStr.2.2 m0 F0
  have e0' := string_of Try.underlying9 k0 e0
  subst e0'
  have k1 := hval 1 9 v1 rfl rfl
  obtain ⟨fu1, m1⟩ := h1
  have F1 : Fit Try.prog 9 d1 := fit_upto hk' (by simp) _
  obtain ⟨a1, ⟨e1, f1⟩, g1⟩ := vwStr.2.2 m1 F1
  have e1' := string_of Try.underlying9 k1 e1
  subst e1'
  have G0 : Sh.str.sz a0 ≤ Rows.uptoBulk d0 := g0
  have G1 : Sh.str.sz a1 ≤ Rows.uptoBulk d1 := g1
  have HK : Sh.str.sz a0 + Sh.str.sz a1 ≤ 1048576 := by have h : Rows.uptoBulkAll [d0, d1] ≤ 1048576 := (by simpa [Rows.uptoSmall] using hk'); simp only [Rows.uptoBulkAll] at h; omega
  refine (walk W a0 f0 a1 f1 HK).mono fun e W' ⟨he, bel⟩ => ?_
  subst he
  exact ⟨_, rfl, _, _, _, [], _, [], hW', trodAll_mk1 (shut_bool Try.underlying4 _), trodAll_again laidOut bel (by kernel_rfl) hA2, rfl, bel.frame _, fun h => by cases h⟩

theorem over : Rows.packScansUptoRow.holds Try.pinned (Rows.OpenSpec.upto Rows.packScansSpec) :=
  OpenClaim.holds_of_cond 4 Try.f4 rfl rfl rfl rfl rfl rfl rfl ⟨rfl, rfl, rfl, rfl, rfl⟩ rfl rfl rfl rfl rfl (by kernel_rfl) Try.func4 (by kernel_rfl)
    (of_decide_eq_true (by kernel_rfl)) (by unfold Func.isWrapper; first | (rw [if_pos (by decide +kernel)]; kernel_rfl) | (rw [if_neg (by decide +kernel)]; exact ⟨rfl, rfl⟩))
    (fun os started H enc _ F => lifted os started H enc F)

theorem proved : Rows.PackScansUptoSaid := over
#print axioms proved
end Go.Proofs.Ytldlkhnhpbonkaa.packScans
