/- PackFills: just as many bytes go in as the limit says, one by one, and the first one beyond it is the error that stays: for every input the law returns true, and its arguments read as before. No condition. -/
import Derived.Test.YtldlkhnhpbonkaaLift
import Derived.Test.YtldlkhnhpbonkaaPLive
import Derived.Deep.DeepCutAuto
namespace Go.Proofs.Ytldlkhnhpbonkaa.packFills
open Go.ChangeShapes Go.WideShapes Go.ChangeAt Go.RowKit
set_option linter.unusedVariables false

/-- A writer of room for M bytes, behind i bytes. -/
structure Fill (M i : Nat) (s : W) : Prop where
  len : s.out.length = min i M
  room : s.room = (M : Int) - (min i M : Nat)
  err : s.err = if i ≤ M then 0 else 3
theorem fill_step {M i : Nat} {s : W} (h : Fill M i s) (b : List UInt8) (hb : b.length = 1) : Fill M (i + 1) (wPut s true b) := by
  by_cases h1 : i ≤ M
  · have he : s.err = 0 := by rw [h.err, if_pos h1]
    by_cases h2 : i = M
    · subst h2
      rw [wPut_ok he, wAdd_full (by rw [h.room, hb]; omega)]
      exact ⟨by rw [h.len]; omega, by show s.room = _; rw [h.room]; omega, by rw [if_neg (by omega)]⟩
    · rw [wPut_ok he, wAdd_room (by rw [h.room, hb]; omega)]
      exact ⟨by show (s.out ++ b).length = _; rw [List.length_append, h.len, hb]; omega, by show s.room - _ = _; rw [h.room, hb]; omega, by show s.err = _; rw [he, if_pos (by omega)]⟩
  · have he : ¬ s.err = 0 := by rw [h.err, if_neg h1]; omega
    rw [wPut_err he]
    exact ⟨by rw [h.len]; omega, by rw [h.room]; omega, by rw [h.err, if_neg h1, if_neg (by omega)]⟩
theorem fill_ok {M i : Nat} {s : W} (h : Fill M i s) (hM : M ≤ 300) : WOk s :=
  ⟨by rw [h.room]; omega, by rw [h.err]; split <;> omega⟩

theorem mod_300 (a : Int) : ∃ x : Int, 0 ≤ x ∧ x < 300 ∧ wrap64 ((IntKind.u64.wrap a).tmod 300) = x := by
  have h : 0 ≤ IntKind.u64.wrap a := by simp [IntKind.wrap, IntKind.bits, IntKind.signed]; omega
  rw [Int.tmod_eq_emod_of_nonneg h]
  refine ⟨IntKind.u64.wrap a % 300, by omega, by omega, IntWalk.wrap64_in _ ⟨by omega, by omega⟩⟩

set_option maxHeartbeats 1000000 in
set_option maxRecDepth 10000 in
theorem walk (w : World) (a : Int) (ha : i64 a) (b : Int) (hb : i64 b) :
    Calls Try.prog 5 #[.int .i64 a, .int .i64 b] w fun e w' => e = .returned (.bool true) ∧ Below w.heap.size w w' := by
  obtain ⟨x, hx0, hx1, ex⟩ := mod_300 a
  obtain ⟨y, hy0, hy1, ey⟩ := mod_300 b
  clear ha hb
  go_enter Try.func5, Try.ntmps5
  go_wp2_with fail
  refine (lives_any _).mono ?_
  rintro e w1 ⟨rfl, b1⟩
  have HB := Lib.hid b1; clear b1
  go_wp2_with fail
  simp only [ex, ey]
  clear ex ey
  obtain ⟨L, hL⟩ : ∃ L, L = x - 4 := ⟨_, rfl⟩
  rw [← hL]
  have hL1 : L ≤ 300 := by omega
  clear hx0 hx1 hL
  refine (wnew_any L w1).mono ?_
  rintro e w2 ⟨rfl, hw2, b2⟩
  obtain ⟨M, hM⟩ : ∃ M : Nat, (M : Int) = max L 0 := ⟨(max L 0).toNat, by omega⟩
  have hM1 : M ≤ 300 := by omega
  have hF : Fill M 0 (wNew L) := ⟨by simp [wNew], by show max L 0 = _; rw [← hM]; omega, by simp [wNew]⟩
  have HM := Lib.hid hM
  obtain ⟨y, rfl⟩ := Int.eq_ofNat_of_zero_le hy0
  generalize wNew L = s0 at *
  have hBB := HB.out.size
  have HB2 := Lib.hid (bthen HB.out b2)
  have Hs : Hid (PWr w2 w1.heap.size w1.heap.size none s0) := Lib.hid hw2
  have HF := Lib.hid hF
  have hz2 := b2.size
  clear hw2 b2 hF hM hy0
  generalize w1.heap.size = p at *
  go_upto_region 6 with (fail)
  go_cut [6] (fun m wc => m = .int .i64 M ∧ w2 = wc)
  case first =>
    by_cases hL0 : 0 ≤ L
    · have HML := Lib.hid (show L = (M : Int) by have := HM.out; omega)
      clear HM
      go_wp2_with fail
      go_meet
      case rel => exact ⟨by rw [HML.out], rfl⟩
    · have HML := Lib.hid (show (0 : Int) = (M : Int) by have := HM.out; omega)
      clear HM
      go_wp2_with fail
      go_meet
      case rel => exact ⟨by rw [← HML.out], rfl⟩
  case rest =>
    obtain ⟨rfl, rfl⟩ := hcut
    clear HM
    go_wp2_with fail
    go_loopw [7] (fun i wr => ∃ k : Nat, ∃ s ob, k ≤ y ∧ i = .int .i64 k ∧ p ≤ wr.heap.size ∧ Hid (Fill M k s ∧ PWr wr p p ob s ∧ Below w.heap.size w wr ∧ ∀ k, ob = some k → w.heap.size ≤ k)) (fun i _ => y - (intOf i).toNat)
    case atStart => exact ⟨0, s0, none, by omega, rfl, hz2, Lib.hid ⟨HF.out, Hs.out, HB2.out, fun k hk => by cases hk⟩⟩
    case round =>
      clear HF Hs HB2 hz2
      obtain ⟨k, s, ob, hk, rfl, hp, Hr⟩ := hrel
      by_cases hky : k < y
      · have CB := Lib.hid (wbyte_any p p ob s (((k % 256 : Nat)) : Int) wr Hr.out.2.1 hp (fill_ok Hr.out.1 hM1) (by have := Hr.out.1.len; omega) (by simp [i64]; omega))
        rw [decide_eq_true (show 0 ≤ (((k % 256 : Nat)) : Int) ∧ (((k % 256 : Nat)) : Int) ≤ 255 by omega)] at CB
        have HF := Lib.hid (fill_step Hr.out.1 (beN ((((k % 256 : Nat)) : Int)).toNat 1) (beN_len _ _))
        go_wp2_with fail
        refine CB.out.mono ?_
        rintro e w3 ⟨rfl, ob3, ho3, hw3, o3⟩
        generalize wPut s true (beN ((((k % 256 : Nat)) : Int)).toNat 1) = s' at *
        have CL := Lib.hid (wlen_any p p ob3 s' w3 hw3)
        have hlen := HF.out.len
        have hp3 : p ≤ w3.heap.size := Nat.le_trans hp o3.size
        have HN := Lib.hid (show Fill M (k + 1) s' ∧ PWr w3 p p ob3 s' ∧ Below w.heap.size w w3 ∧ ∀ k, ob3 = some k → w.heap.size ≤ k from
          ⟨HF.out, hw3, Only.below Hr.out.2.2.1 o3 hBB Hr.out.2.2.2, fun j hj => by
            rcases ho3 with rfl | ⟨q, rfl, hq⟩
            · exact Hr.out.2.2.2 j hj
            · injection hj with hj; omega⟩)
        have Hlen := Lib.hid hlen
        clear hlen hw3 ho3 o3 CB HF Hr
        by_cases hkM : k + 1 ≤ M
        · have hl : s'.out.length = k + 1 := by rw [Hlen.out]; omega
          rw [hl] at CL
          clear hl Hlen
          have e1 : ((k + 1 : Nat) : Int) = (k : Int) + 1 := by omega
          go_wp2_with fail
          refine CL.out.mono ?_
          rintro e w4 ⟨rfl, rfl⟩
          clear CL
          go_wp2_with fail
          go_roundw
          case rel => exact ⟨k + 1, s', ob3, by omega, by go_num, hp3, HN⟩
          case measure => simp [intOf]; omega
        · have hl : s'.out.length = M := by rw [Hlen.out]; omega
          rw [hl] at CL
          clear hl Hlen
          go_wp2_with fail
          refine CL.out.mono ?_
          rintro e w4 ⟨rfl, rfl⟩
          clear CL
          go_wp2_with fail
          go_roundw
          case rel => exact ⟨k + 1, s', ob3, by omega, by go_num, hp3, HN⟩
          case measure => simp [intOf]; omega
      · obtain rfl : k = y := by omega
        have CD := Lib.hid (wdone_any p p ob s wr Hr.out.2.1)
        have HB := Lib.hid Hr.out.2.2.1
        have hlen := Hr.out.1.len
        by_cases hkM : k ≤ M
        · have he : s.err = 0 := by rw [Hr.out.1.err, if_pos hkM]
          have hd : (doneS s).size = k := by rw [doneS, if_pos he]; show s.out.toArray.size = k; simp; omega
          have hd' : (doneS s).data.size = k := hd
          rw [he] at CD
          generalize doneS s = D at *
          have hb2 : ((D.size : Int) == (k : Int)) = true := by rw [hd]; simp
          clear hlen Hr he hky
          go_wp2_with fail
          refine CD.out.mono ?_
          rintro e w4 ⟨rfl, b4⟩
          go_wp2_with fail
          go_ret
          exact ⟨rfl, bthen HB.out b4⟩
        · have he : s.err = 3 := by rw [Hr.out.1.err, if_neg hkM]
          have hd : doneS s = ⟨#[]⟩ := by rw [doneS, if_neg (by omega)]
          rw [he, hd] at CD
          clear hlen Hr he hd hky
          go_wp2_with fail
          refine CD.out.mono ?_
          rintro e w4 ⟨rfl, b4⟩
          go_wp2_with fail
          go_ret
          exact ⟨rfl, bthen HB.out b4⟩

set_option maxRecDepth 100000 in
theorem lifted (os : Os) (started : os.Started) (H : Type) (enc : TypeId × Value → H) :
    ReturnsInHanded {} Try.checked os 5 .any (Rows.packFillsSpec.pre6 enc Try.prog Try.f5 Rows.packFillsRow.domain false) (Rows.packFillsSpec.post enc Try.prog Try.f5 false true false false) := by
  refine returnsInHanded_of_change_sized (C := Try.checked) own started (by kernel_rfl) Try.func5
    (ChangeSpec.witness6 (enc := enc) (C := Try.checked) false ⟨#[], #[.int .i64 0, .int .i64 0], []⟩ 8 (by kernel_rfl) (by kernel_rfl) (by kernel_rfl) (by kernel_rfl)) ?_
  intro W base args ds gs before hval0 hW hcnd hsz _
  have hval : ∀ (j : Nat) t v, Try.f5.params[j]? = some t → args[j]? = some v → Value.okWide Try.prog W .any base t v := hval0
  have hW' := hW
  obtain ⟨p, q, hA0, hV, rfl, hfz, hnd⟩ := hW
  have hA : DataW.TrodAll enc Try.prog W 0 (fun _ => true) true Try.f5.params.toList args.toList ds p := hA0
  rw [Try.params5] at hA hval hsz
  have hA2 := hA
  obtain ⟨v0, vs0, d0, ds0, p0, q0, hargs, rfl, rfl, h0, r0⟩ := trodAll_cons hA
  obtain ⟨v1, vs1, d1, ds1, p1, q1, rfl, rfl, rfl, h1, r1⟩ := trodAll_cons r0
  obtain ⟨rfl, rfl, rfl⟩ := trodAll_nil r1
  obtain rfl : args = #[v0, v1] := by cases args; simp_all
  obtain ⟨rfl, rfl⟩ := trodVars_none hV
  clear hargs
  have k0 := hval 0 3 v0 rfl rfl
  obtain ⟨fu0, m0⟩ := h0
  have w0 := weights_of hsz (j := 0) (t := 3) rfl rfl
  obtain ⟨a0, e0, f0⟩ := view_int Try.underlying3 m0
  have e0' := int_of Try.underlying3 k0 e0
  subst e0'
  have k1 := hval 1 3 v1 rfl rfl
  obtain ⟨fu1, m1⟩ := h1
  have w1 := weights_of hsz (j := 1) (t := 3) rfl rfl
  obtain ⟨a1, e1, f1⟩ := view_int Try.underlying3 m1
  have e1' := int_of Try.underlying3 k1 e1
  subst e1'
  refine (walk W a0 f0 a1 f1).mono fun e W' ⟨he, bel⟩ => ?_
  subst he
  exact ⟨_, rfl, _, _, _, [], _, [], hW', trodAll_mk1 (shut_bool Try.underlying4 _), trodAll_again laidOut bel (by kernel_rfl) hA2, rfl, bel.frame _, fun h => by cases h⟩

theorem over : Rows.packFillsRow.holds Try.pinned (OpenSpec.ofChange Rows.packFillsSpec) :=
  OpenClaim.holds_of_wide 5 Try.f5 rfl rfl rfl rfl rfl rfl rfl ⟨rfl, rfl, rfl, rfl, rfl⟩ rfl rfl rfl rfl rfl (by kernel_rfl) Try.func5 (by kernel_rfl)
    (of_decide_eq_true (by kernel_rfl)) (by unfold Func.isWrapper; first | (rw [if_pos (by decide +kernel)]; kernel_rfl) | (rw [if_neg (by decide +kernel)]; exact ⟨rfl, rfl⟩))
    (fun os started H enc _ => lifted os started H enc)

theorem proved : Rows.PackFillsSaid := over
#print axioms proved
end Go.Proofs.Ytldlkhnhpbonkaa.packFills
