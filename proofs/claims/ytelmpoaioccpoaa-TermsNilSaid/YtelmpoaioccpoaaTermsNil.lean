
/- TermsNil: a book that isn't there has nothing, and nothing is noted in it; who is bad can make their own still: for every input the law returns true, and its arguments read as before. No condition. -/
import Derived.Test.YtelmpoaioccpoaaVw9
import Derived.Test.YtelmpoaioccpoaaLift
namespace Go.Proofs.Ytelmpoaioccpoaa.termsNil
set_option maxRecDepth 100000
open Go.ChangeShapes Go.WideShapes Go.ChangeAt Go.RowKit
set_option linter.unusedVariables false
set_option linter.unusedSimpArgs false

theorem deriv_one (bad : List Int) (x : Int) (t : ByteArray) : derivP [] bad [(x, t)] = hasB bad x := by simp [derivP]
theorem deriv_nil (bad : List Int) : derivP [] bad [] = true := rfl

set_option maxHeartbeats 2000000 in
theorem walk (w : World) (x : Int) (t : ByteArray) (hs : sgOk (x, t)) (a : Option Addr) (n c : Nat) (bad : List Int) (hb : SlAt Sh.int w a n c bad) :
    Calls Try.prog 9 #[.agg #[.int .i64 x, .string t], .slice a n c] w fun e w' => e = .returned (.bool true) ∧ Below w.heap.size w w' := by
  have HI := Lib.hid (ints_of_sl hb)
  have hlen := hb.len
  have hmax : n ≤ 9223372036854775807 := Nat.le_trans hb.cap hb.max
  have KX := Lib.hid (blk_alloc w (.cells #[.int .i64 x, .string t] 34 (0, 0)))
  have BX := Lib.hid (below_alloc w (.cells #[.int .i64 x, .string t] 34 (0, 0)))
  have HO := Lib.hid hs
  have CL := Lib.hid lives09_any
  clear hb hs
  go_enter Try.func9, Try.ntmps9
  go_wp2_with fail
  refine (CL.out _).mono ?_
  rintro r w1 ⟨rfl, b1⟩
  have K1 := Lib.hid (blk_below KX.out b1)
  have B1 := Lib.hid (bthen BX.out b1)
  clear b1 KX BX CL
  have x0 : w1.cell? ⟨w.heap.size, 0, none⟩ = some (.int .i64 x) := by rw [blk_cell K1.out]; rfl
  have x1 : w1.cell? ⟨w.heap.size, 1, none⟩ = some (.string t) := by rw [blk_cell K1.out]; rfl
  go_wp2_with fail
  refine (note_nil _ _ _ _).mono ?_
  rintro r w2 ⟨rfl, rfl⟩
  have hba := below_alloc w1 (.cells #[.int .i64 x, .string t] 34 (0, 0))
  have K2 := Lib.hid (blk_below K1.out hba)
  have B2 := Lib.hid (bthen B1.out hba)
  clear hba K1 B1 x0 x1
  generalize w1.alloc (.cells #[.int .i64 x, .string t] 34 (0, 0)) = w2 at *
  go_wp2_with fail
  go_loopw [6, 7] (fun own i wr => ∃ k : Nat, k ≤ n ∧ i = .int .i64 k ∧ own = .bool (hasB (bad.take k) x) ∧ Hid (Below w2.heap.size w2 wr)) (fun _ i _ => n - (intOf i).toNat)
  case atStart => exact ⟨0, by omega, rfl, rfl, Lib.hid (Below.refl _ _)⟩
  case round =>
    obtain ⟨k, hk, rfl, rfl, HW⟩ := hrel
    have x0 : wr.cell? ⟨w.heap.size, 0, none⟩ = some (.int .i64 x) := by rw [blk_cell (blk_below K2.out HW.out)]; rfl
    by_cases hlt : k < n
    · have hd : decide ((k : Int) < (n : Int)) = true := by simp; omega
      obtain ⟨bb, o, rfl, hx0⟩ := (HI.out.below (bthen B2.out HW.out)).cell k hlt
      obtain ⟨y, hy⟩ : ∃ y, bad[k]? = some y := ⟨_, List.getElem?_eq_getElem (by omega)⟩
      have hgy : bad.getD k 0 = y := by simp [List.getD, hy]
      rw [hgy] at hx0
      have HT := Lib.hid (show hasB (bad.take (k + 1)) x = (hasB (bad.take k) x || (y == x)) by rw [List.take_add_one, hy]; exact hasB_snoc _ _ _)
      clear hy hgy
      generalize hasB (bad.take k) x = own at *
      cases own with
      | true =>
        go_wp2_with fail
        go_quiet (fail)
        go_wp2_with fail
        go_roundw
        case rel => exact ⟨k + 1, by omega, by go_num, by rw [HT.out]; rfl, Lib.hid (below_drewN HW.out _)⟩
        case measure => simp [intOf]; omega
      | false =>
        go_wp2_with fail
        go_quiet (fail)
        go_wp2_with fail
        go_roundw
        case rel => exact ⟨k + 1, by omega, by go_num, by rw [HT.out]; rfl, Lib.hid (below_drewN HW.out _)⟩
        case measure => simp [intOf]; omega
    · have hkn : k = n := by omega
      subst hkn
      have hd : decide ((k : Int) < (k : Int)) = false := by simp
      have hT : bad.take k = bad := List.take_of_length_le (by omega)
      rw [hT]
      have B3 := Lib.hid (bthen B2.out HW.out)
      have K3 := Lib.hid (blk_below K2.out HW.out)
      have CH := bhas_any (.pointer none) [] (x, t) wr (.inl ⟨rfl, rfl⟩) HO.out
      rw [show decide ((x, t) ∈ ([] : List Sg)) = false by simp] at CH
      unfold sgV at CH
      replace CH := Lib.hid CH
      have x1 : wr.cell? ⟨w.heap.size, 1, none⟩ = some (.string t) := by rw [blk_cell K3.out]; rfl
      clear HW K2 B2
      go_wp2_with fail
      refine CH.out.mono ?_
      rintro r w3 ⟨rfl, b3⟩
      have K4 := Lib.hid (blk_below K3.out b3)
      have B4 := Lib.hid (bthen B3.out b3)
      clear b3 K3 B3 x0 x1 CH
      go_wp2_with fail
      refine (blen_any (.pointer none) [] _ (.inl ⟨rfl, rfl⟩)).mono ?_
      rintro r w4 ⟨rfl, rfl⟩
      have x0 : w3.cell? ⟨w.heap.size, 0, none⟩ = some (.int .i64 x) := by rw [blk_cell K4.out]; rfl
      have x1 : w3.cell? ⟨w.heap.size, 1, none⟩ = some (.string t) := by rw [blk_cell K4.out]; rfl
      have hba := below_alloc w3 (.cells #[.int .i64 x, .string t] 34 (0, 0))
      have CD := bderiv_any (.pointer none) [] a k c bad (some ⟨w3.heap.size, 0, none⟩) 1 1 [(x, t)] _ (.inl ⟨rfl, rfl⟩) (HI.out.below (bthen B4.out hba)) (sl_made (l := [(x, t)]) (blk_alloc w3 (.cells #[.int .i64 x, .string t] 34 (0, 0))) (fun s hs => by rw [List.mem_singleton] at hs; subst hs; exact HO.out) (by simp))
      rw [deriv_one] at CD
      replace CD := Lib.hid CD
      have B5 := Lib.hid (bthen B4.out hba)
      clear hba
      generalize hasB bad x = own at *
      go_wp2_with fail
      refine CD.out.mono ?_
      rintro r w5 ⟨rfl, b5⟩
      have B6 := Lib.hid (bthen B5.out b5)
      have CD2 := bderiv_any (.pointer none) [] a k c bad none 0 0 [] w5 (.inl ⟨rfl, rfl⟩) (HI.out.below B6.out) ⟨rfl, Nat.le_refl _, by omega, by simp, fun _ => rfl, fun i y hy => by cases hy⟩
      rw [deriv_nil] at CD2
      replace CD2 := Lib.hid CD2
      clear b5 B5 CD x0 x1
      go_wp2_with fail
      refine CD2.out.mono ?_
      rintro r w7 ⟨rfl, b7⟩
      have B7 := Lib.hid (bthen B6.out b7)
      clear b7 CD2
      go_wp2_with fail
      go_ret
      exact ⟨rfl, B7.out⟩
set_option maxRecDepth 100000 in
theorem lifted (os : Os) (started : os.Started) (H : Type) (enc : TypeId × Value → H) :
    ReturnsInHanded {} Try.checked os 9 .any (Rows.termsNilSpec.pre6 enc Try.prog Try.f9 Rows.termsNilRow.domain false) (Rows.termsNilSpec.post enc Try.prog Try.f9 false true false false) := by
  refine returnsInHanded_of_change_sized (C := Try.checked) own started (by kernel_rfl) Try.func9
    (ChangeSpec.witness6 (enc := enc) (C := Try.checked) false ⟨#[], #[.agg #[.int .i64 0, .string ⟨#[]⟩], .slice none 0 0], []⟩ 8 (by kernel_rfl) (by kernel_rfl) (by kernel_rfl) (by kernel_rfl)) ?_
  intro W base args ds gs before hval0 hW hcnd hsz _
  have hval : ∀ (j : Nat) t v, Try.f9.params[j]? = some t → args[j]? = some v → Value.okWide Try.prog W .any base t v := hval0
  have hW' := hW
  obtain ⟨p, q, hA0, hV, rfl, hfz, hnd⟩ := hW
  have hA : DataW.TrodAll enc Try.prog W 0 (fun _ => true) true Try.f9.params.toList args.toList ds p := hA0
  rw [Try.params9] at hA hval hsz
  have hA2 := hA
  obtain ⟨v0, vs0, d0, ds0, p0, q0, hargs, rfl, rfl, h0, r0⟩ := trodAll_cons hA
  obtain ⟨v1, vs1, d1, ds1, p1, q1, rfl, rfl, rfl, h1, r1⟩ := trodAll_cons r0
  obtain ⟨rfl, rfl, rfl⟩ := trodAll_nil r1
  obtain rfl : args = #[v0, v1] := by cases args; simp_all
  obtain ⟨rfl, rfl⟩ := trodVars_none hV
  clear hargs
  have k0 := hval 0 34 v0 rfl rfl
  obtain ⟨fu0, m0⟩ := h0
  have w0 := weights_of hsz (j := 0) (t := 34) rfl rfl
  have F0 : Fit Try.prog 34 d0 := .inl w0
  have s0 := cells_agg Try.underlying34 k0
  obtain ⟨y0, E0, g0⟩ := vwSig.2.2 m0 F0
  obtain ⟨x0, t0, rfl, e0, f0⟩ := sig_open E0
  obtain ⟨z0, s01, s02⟩ := s0
  have e0' := agg_of ⟨s01, s02⟩ e0
  subst e0'
  have k1 := hval 1 22 v1 rfl rfl
  obtain ⟨fu1, m1⟩ := h1
  have w1 := weights_of hsz (j := 1) (t := 22) rfl rfl
  have F1 : Fit Try.prog 22 d1 := .inl w1
  obtain ⟨l1, ⟨a1, n1, c1, e1, f1⟩, g1⟩ := vwInts.2.2 m1 F1
  have e1' := slice_of Try.underlying22 k1 e1
  subst e1'
  refine (walk W x0 t0 f0 a1 n1 c1 l1 f1).mono fun e W' ⟨he, bel⟩ => ?_
  subst he
  exact ⟨_, rfl, _, _, _, [], _, [], hW', trodAll_mk1 (shut_bool Try.underlying4 _), trodAll_again laidOut bel (by kernel_rfl) hA2, rfl, bel.frame _, fun h => by cases h⟩

theorem over : Rows.termsNilRow.holds Try.pinned (OpenSpec.ofChange Rows.termsNilSpec) :=
  OpenClaim.holds_of_wide 9 Try.f9 rfl rfl rfl rfl rfl rfl rfl ⟨rfl, rfl, rfl, rfl, rfl⟩ rfl rfl rfl rfl rfl (by kernel_rfl) Try.func9 (by kernel_rfl)
    (of_decide_eq_true (by kernel_rfl)) (by unfold Func.isWrapper; first | (rw [if_pos (by decide +kernel)]; kernel_rfl) | (rw [if_neg (by decide +kernel)]; exact ⟨rfl, rfl⟩))
    (fun os started H enc _ => lifted os started H enc)

theorem proved : Rows.TermsNilSaid := over
#print axioms proved
end Go.Proofs.Ytelmpoaioccpoaa.termsNil
