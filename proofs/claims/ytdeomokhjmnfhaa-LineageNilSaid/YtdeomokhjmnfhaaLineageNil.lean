
/- LineageNil: a tracker that isn't there knows nothing and takes nothing: for every input the law returns true, and its arguments read as before. No condition. -/
import Derived.Test.YtdeomokhjmnfhaaSm
namespace Go.Proofs.Ytdeomokhjmnfhaa.lineageNil
open Go.ChangeShapes Go.WideShapes Go.ChangeAt Go.RowKit
set_option linter.unusedVariables false

theorem nil_sl (w : World) : IntsAt w none 0 [] := ⟨rfl, by decide, fun i hi => by omega, fun x hx => by cases hx⟩

set_option maxHeartbeats 1000000 in
theorem walk (w : World) (a : Option Addr) (n c : Nat) (l : List Lk) (hl : SlAt shLink w a n c l) (x : Int) (hx : i64 x) :
    Calls Try.prog 8 #[.slice a n c, .int .i64 x] w fun e w' => e = .returned (.bool true) ∧ Below w.heap.size w w' := by
  clear hl hx
  go_enter Try.func8, Try.ntmps8
  go_wp2_with fail
  refine (lives10_any _).mono ?_
  rintro r w1 ⟨rfl, b1⟩
  go_wp2_with fail
  refine (at_nil x w1).mono ?_
  rintro r w2 ⟨rfl, b2⟩
  have B2 := Lib.hid (bthen b1 b2)
  clear b1 b2
  have k2 := blk_alloc w2 (.cells #[.int .i64 0, .slice none 0 0] 24)
  have b3 := below_alloc w2 (.cells #[.int .i64 0, .slice none 0 0] 24)
  obtain ⟨w3, hw3⟩ : ∃ w3, w3 = w2.alloc (.cells #[.int .i64 0, .slice none 0 0] 24) := ⟨_, rfl⟩
  go_wp2_with fail
  rw [← hw3]
  rw [← hw3] at k2 b3
  clear hw3
  have x0 : w3.cell? ⟨w2.heap.size, 0, none⟩ = some (.int .i64 0) := by rw [blk_cell k2]; rfl
  have x1 : w3.cell? ⟨w2.heap.size, 1, none⟩ = some (.slice none 0 0) := by rw [blk_cell k2]; rfl
  have B3 := Lib.hid (bthen B2.out b3)
  have hz := blk_lt k2
  have CC := fun (w' : World) => samec_any 0 none 0 0 [] 0 none 0 0 [] w' (nil_sl _) (nil_sl _)
  rw [decide_eq_true rfl] at CC
  replace CC := Lib.hid CC
  clear k2 b3
  refine (take_nil _ _).mono ?_
  rintro r w4 ⟨rfl, rfl⟩
  go_wp2_with fail
  refine (add_nil _ _ _ _ _ _ _ _).mono ?_
  rintro r w5 ⟨rfl, b5⟩
  replace x0 := below_cell b5 x0
  replace x1 := below_cell b5 x1
  have B5 := Lib.hid (bthen B3.out b5)
  clear b5
  go_wp2_with fail
  refine (epoch_nil _).mono ?_
  rintro r w6 ⟨rfl, rfl⟩
  go_wp2_with fail
  refine (chain_nil _).mono ?_
  rintro r w7 ⟨rfl, rfl⟩
  go_wp2_with fail
  refine (CC.out _).mono ?_
  rintro r w8 ⟨rfl, b8⟩
  have B8 := Lib.hid (bthen B5.out b8)
  clear b8
  go_wp2_with fail
  go_ret
  exact ⟨rfl, B8.out⟩

set_option maxRecDepth 100000 in
theorem lifted (os : Os) (started : os.Started) (H : Type) (enc : TypeId × Value → H) :
    ReturnsInHanded {} Try.checked os 8 .any (Rows.lineageNilSpec.pre6 enc Try.prog Try.f8 Rows.lineageNilRow.domain false) (Rows.lineageNilSpec.post enc Try.prog Try.f8 false true false false) := by
  refine returnsInHanded_of_change_sized (C := Try.checked) own started (by kernel_rfl) Try.func8
    (ChangeSpec.witness6 (enc := enc) (C := Try.checked) false ⟨#[], #[.slice none 0 0, .int .i64 0], []⟩ 8 (by kernel_rfl) (by kernel_rfl) (by kernel_rfl) (by kernel_rfl)) ?_
  intro W base args ds gs before hval0 hW hcnd hsz _
  have hval : ∀ (j : Nat) t v, Try.f8.params[j]? = some t → args[j]? = some v → Value.okWide Try.prog W .any base t v := hval0
  have hW' := hW
  obtain ⟨p, q, hA0, hV, rfl, hfz, hnd⟩ := hW
  have hA : DataW.TrodAll enc Try.prog W 0 (fun _ => true) true Try.f8.params.toList args.toList ds p := hA0
  rw [Try.params8] at hA hval hsz
  have hA2 := hA
  obtain ⟨v0, vs0, d0, ds0, p0, q0, hargs, rfl, rfl, h0, r0⟩ := trodAll_cons hA
  obtain ⟨v1, vs1, d1, ds1, p1, q1, rfl, rfl, rfl, h1, r1⟩ := trodAll_cons r0
  obtain ⟨rfl, rfl, rfl⟩ := trodAll_nil r1
  obtain rfl : args = #[v0, v1] := by cases args; simp_all
  obtain ⟨rfl, rfl⟩ := trodVars_none hV
  clear hargs
  have k0 := hval 0 36 v0 rfl rfl
  obtain ⟨fu0, m0⟩ := h0
  have w0 := weights_of hsz (j := 0) (t := 36) rfl rfl
  have F0 : Fit Try.prog 36 d0 := .inl w0
  obtain ⟨l0, ⟨a0, n0, c0, e0, f0⟩, g0⟩ := vwLinks.2.2 m0 F0
  have e0' := slice_of Try.underlying36 k0 e0
  subst e0'
  have k1 := hval 1 3 v1 rfl rfl
  obtain ⟨fu1, m1⟩ := h1
  have w1 := weights_of hsz (j := 1) (t := 3) rfl rfl
  obtain ⟨a1, e1, f1⟩ := view_int Try.underlying3 m1
  have e1' := int_of Try.underlying3 k1 e1
  subst e1'
  refine (walk W a0 n0 c0 l0 f0 a1 f1).mono fun e W' ⟨he, bel⟩ => ?_
  subst he
  exact ⟨_, rfl, _, _, _, [], _, [], hW', trodAll_mk1 (shut_bool Try.underlying4 _), trodAll_again laidOut bel (by kernel_rfl) hA2, rfl, bel.frame _, fun h => by cases h⟩

theorem over : Rows.lineageNilRow.holds Try.pinned (OpenSpec.ofChange Rows.lineageNilSpec) :=
  OpenClaim.holds_of_wide 8 Try.f8 rfl rfl rfl rfl rfl rfl rfl ⟨rfl, rfl, rfl, rfl, rfl⟩ rfl rfl rfl rfl rfl (by kernel_rfl) Try.func8 (by kernel_rfl)
    (of_decide_eq_true (by kernel_rfl)) (by unfold Func.isWrapper; first | (rw [if_pos (by decide +kernel)]; kernel_rfl) | (rw [if_neg (by decide +kernel)]; exact ⟨rfl, rfl⟩))
    (fun os started H enc _ => lifted os started H enc)

theorem proved : Rows.LineageNilSaid := over
#print axioms proved
end Go.Proofs.Ytdeomokhjmnfhaa.lineageNil
