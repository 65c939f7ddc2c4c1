/- PackOnly: what is read to the end is written as just that: for every input the law returns true, and its arguments read as before. No condition. -/
import Derived.Test.YtldlkhnhpbonkaaRw
namespace Go.Proofs.Ytldlkhnhpbonkaa.packOnly
open Go.ChangeShapes Go.WideShapes Go.ChangeAt Go.RowKit
set_option linter.unusedVariables false

def Inv (text : ByteArray) (w : World) (pr pw : Nat) (wr : World) : Prop := ∃ ob sr sw, Rw text w pr pw wr ob sr sw ∧ Pl text.data.toList sr sw

set_option maxHeartbeats 2000000 in
theorem walk (w : World) (text : ByteArray) (hts : text.size ≤ 140737488351232) (a : Option Addr) (n c : Nat) (l : List It) (hl : SlAt shIt w a n c l) :
    Calls Try.prog 7 #[.string text, .slice a n c] w fun e w' => e = .returned (.bool true) ∧ Below w.heap.size w w' := by
  have HL := Lib.hid hl
  have hn : n ≤ 9223372036854775807 := Nat.le_trans hl.cap hl.max
  have hts' : text.data.toList.length ≤ 140737488351232 := by simpa using hts
  clear hl
  go_enter Try.func7, Try.ntmps7
  go_wp2_with fail
  refine (lives_any _).mono ?_
  rintro e w1 ⟨rfl, b1⟩
  go_wp2_with fail
  refine (read_any text w1 hts).mono ?_
  rintro e w2 ⟨rfl, hr2, b2⟩
  go_wp2_with fail
  refine (wnew_any text.size w2).mono ?_
  rintro e w3 ⟨rfl, hw3, b3⟩
  have hz1 := b1.size
  have hz2 := prd_lt hr2
  have hnew : wNew text.size = ⟨[], text.data.toList.length, 0⟩ := by
    have : text.data.toList.length = text.size := by simp
    rw [wNew, show max ((text.size : Nat) : Int) 0 = (text.size : Int) by omega, this]
  rw [hnew] at hw3
  have HI := Lib.hid (show Inv text w w1.heap.size w2.heap.size w3 from ⟨none, _, _, ⟨bthen (bthen b1 b2) b3, hz1, by omega, by omega, by simp, fun k hk => (by cases hk), prd_below hr2 b3, hw3⟩, Pl.start _⟩)
  clear b1 b2 b3 hr2 hw3 hnew
  generalize w1.heap.size = pr at *
  generalize w2.heap.size = pw at *
  go_wp2_with fail
  go_loopw [7] (fun i wr => ∃ j : Nat, j ≤ n ∧ i = .int .i64 j ∧ Hid (Inv text w pr pw wr)) (fun i _ => n - (intOf i).toNat)
  case atStart => exact ⟨0, by omega, rfl, HI⟩
  case round =>
    clear HI
    obtain ⟨j, hj, rfl, HI⟩ := hrel
    obtain ⟨ob, sr, sw, HR, HP⟩ := HI.out
    clear HI
    by_cases hlt : j < n
    · obtain ⟨b, o, k, m, x, t, rfl, _, c0, c1, c2, c3, _⟩ := it_cells (HL.out.old HR.below) hlt
      replace HR := Lib.hid HR; replace HP := Lib.hid HP
      have hj0 : (0 : Int) ≤ (j : Int) := by omega
      have hj1 : (j : Int) < (n : Int) := by omega
      go_wp2_with fail
      refine (kind_any k m x t wr).mono ?_
      rintro e w4 ⟨rfl, b4⟩
      replace HR := Lib.hid (HR.out.old b4)
      clear b4 c0 c1 c2 c3
      rcases kindN_range k with h | h | h | h | h
      · rw [h]
        clear h
        go_wp2_with fail
        refine (rbyte_any pr text sr _ HR.out.prd).mono ?_
        rintro e w5 ⟨rfl, hr5, o5⟩
        replace HR := Lib.hid (HR.out.rstep o5 hr5)
        replace HP := Lib.hid (show Pl text.data.toList sr sw ∧ Pl text.data.toList (rNext sr 1) (wPut sw true (beN (rVal sr 1) 1)) from ⟨HP.out, HP.out.num 1⟩)
        have hv : rVal sr 1 < 256 ^ 1 := rVal_lt sr 1
        clear hr5 o5
        generalize rVal sr 1 = v at *
        go_wp2_with fail
        refine (wbyte_any pw pw ob sw (v : Int) w5 HR.out.pwr (by have := WAt.lt HR.out.pwr; omega) (HP.out.1.ok hts') (HP.out.1.fits hts' 1) (by simp [i64]; omega)).mono ?_
        rw [decide_eq_true (show 0 ≤ (v : Int) ∧ (v : Int) ≤ 255 by omega), Int.toNat_natCast]
        rintro e w6 ⟨rfl, ob', hob, hw6, o6⟩
        have HN := Lib.hid (show Inv text w pr pw w6 from ⟨ob', _, _, HR.out.wstep hob o6 hw6, HP.out.2⟩)
        clear hw6 o6 hob HR HP hv
        go_wp2_with fail
        go_roundw
        case rel => exact ⟨j + 1, by omega, by go_num, HN⟩
        case measure => simp [intOf]; omega
      · rw [h]
        clear h
        go_wp2_with fail
        refine (rword_any pr text sr _ HR.out.prd).mono ?_
        rintro e w5 ⟨rfl, hr5, o5⟩
        replace HR := Lib.hid (HR.out.rstep o5 hr5)
        replace HP := Lib.hid (show Pl text.data.toList sr sw ∧ Pl text.data.toList (rNext sr 2) (wPut sw true (beN (rVal sr 2) 2)) from ⟨HP.out, HP.out.num 2⟩)
        have hv : rVal sr 2 < 256 ^ 2 := rVal_lt sr 2
        clear hr5 o5
        generalize rVal sr 2 = v at *
        go_wp2_with fail
        refine (wword_any pw pw ob sw (v : Int) w5 HR.out.pwr (by have := WAt.lt HR.out.pwr; omega) (HP.out.1.ok hts') (HP.out.1.fits hts' 2) (by simp [i64]; omega)).mono ?_
        rw [decide_eq_true (show 0 ≤ (v : Int) ∧ (v : Int) ≤ 65535 by omega), Int.toNat_natCast]
        rintro e w6 ⟨rfl, ob', hob, hw6, o6⟩
        have HN := Lib.hid (show Inv text w pr pw w6 from ⟨ob', _, _, HR.out.wstep hob o6 hw6, HP.out.2⟩)
        clear hw6 o6 hob HR HP hv
        go_wp2_with fail
        go_roundw
        case rel => exact ⟨j + 1, by omega, by go_num, HN⟩
        case measure => simp [intOf]; omega
      · rw [h]
        clear h
        go_wp2_with fail
        refine (rlong_any pr text sr _ HR.out.prd).mono ?_
        rintro e w5 ⟨rfl, hr5, o5⟩
        replace HR := Lib.hid (HR.out.rstep o5 hr5)
        replace HP := Lib.hid (show Pl text.data.toList sr sw ∧ Pl text.data.toList (rNext sr 4) (wPut sw true (beN (rVal sr 4) 4)) from ⟨HP.out, HP.out.num 4⟩)
        have hv : rVal sr 4 < 256 ^ 4 := rVal_lt sr 4
        clear hr5 o5
        generalize rVal sr 4 = v at *
        go_wp2_with fail
        refine (wlong_any pw pw ob sw (v : Int) w5 HR.out.pwr (by have := WAt.lt HR.out.pwr; omega) (HP.out.1.ok hts') (HP.out.1.fits hts' 4) (by simp [i64]; omega)).mono ?_
        rw [decide_eq_true (show 0 ≤ (v : Int) ∧ (v : Int) ≤ 4294967295 by omega), Int.toNat_natCast]
        rintro e w6 ⟨rfl, ob', hob, hw6, o6⟩
        have HN := Lib.hid (show Inv text w pr pw w6 from ⟨ob', _, _, HR.out.wstep hob o6 hw6, HP.out.2⟩)
        clear hw6 o6 hob HR HP hv
        go_wp2_with fail
        go_roundw
        case rel => exact ⟨j + 1, by omega, by go_num, HN⟩
        case measure => simp [intOf]; omega
      · rw [h]
        clear h
        go_wp2_with fail
        refine (rdbits_any pr text sr _ HR.out.prd).mono ?_
        rintro e w5 ⟨rfl, hr5, o5⟩
        replace HR := Lib.hid (HR.out.rstep o5 hr5)
        replace HP := Lib.hid (show Pl text.data.toList sr sw ∧ Pl text.data.toList (rNext sr 8) (wPut sw true (beN (rVal sr 8) 8)) from ⟨HP.out, HP.out.num 8⟩)
        have hv : rVal sr 8 < 256 ^ 8 := rVal_lt sr 8
        clear hr5 o5
        generalize rVal sr 8 = v at *
        go_wp2_with fail
        refine (wbits_any pw pw ob sw v w5 HR.out.pwr (by have := WAt.lt HR.out.pwr; omega) (HP.out.1.ok hts') (HP.out.1.fits hts' 8) (by omega)).mono ?_
        rintro e w6 ⟨rfl, ob', hob, hw6, o6⟩
        have HN := Lib.hid (show Inv text w pr pw w6 from ⟨ob', _, _, HR.out.wstep hob o6 hw6, HP.out.2⟩)
        clear hw6 o6 hob HR HP hv
        go_wp2_with fail
        go_roundw
        case rel => exact ⟨j + 1, by omega, by go_num, HN⟩
        case measure => simp [intOf]; omega
      · rw [h]
        clear h
        go_wp2_with fail
        refine (rdtext_any pr text sr _ HR.out.prd).mono ?_
        rintro e w5 ⟨rfl, hr5, o5⟩
        replace HR := Lib.hid (HR.out.rstep o5 hr5)
        replace HP := Lib.hid (show Pl text.data.toList sr sw ∧ Pl text.data.toList (tNext sr) (wPut sw true (beN (tVal sr).length 2 ++ tVal sr)) from ⟨HP.out, HP.out.text⟩)
        have hv := tVal_len sr
        clear hr5 o5
        generalize tVal sr = v at *
        go_wp2_with fail
        have hvs : (ByteArray.mk v.toArray).size = v.length := by simp [ByteArray.size]
        have CW := wtext_any pw pw ob sw ⟨v.toArray⟩ w5 HR.out.pwr (by have := WAt.lt HR.out.pwr; omega) (HP.out.1.ok hts') (HP.out.1.fits hts' _) (by rw [hvs]; omega)
        rw [hvs, decide_eq_true (show v.length ≤ 65535 by omega)] at CW
        refine CW.mono ?_
        rintro e w6 ⟨rfl, ob', hob, hw6, o6⟩
        have HN := Lib.hid (show Inv text w pr pw w6 from ⟨ob', _, _, HR.out.wstep hob o6 hw6, HP.out.2⟩)
        clear hw6 o6 hob HR HP hv hvs CW
        go_wp2_with fail
        go_roundw
        case rel => exact ⟨j + 1, by omega, by go_num, HN⟩
        case measure => simp [intOf]; omega
    · obtain rfl : j = n := by omega
      have CD := Lib.hid (wdone_any pw pw ob sw wr HR.pwr)
      have CE := Lib.hid (fun w' hb => end_any pr text sr w' (prd_below HR.prd hb))
      have HB := Lib.hid HR.below
      by_cases hE : endE sr = 0
      · have hb0 : sr.bad = false := by unfold endE at hE; split at hE <;> simp_all
        have hr0 : sr.rest = [] := by
          by_cases h0 : 0 < sr.rest.length
          · rw [endE, hb0, if_neg (by simp), if_pos h0] at hE; omega
          · exact List.eq_nil_of_length_eq_zero (by omega)
        obtain ⟨g1, g2, g3⟩ := HP.good hb0
        have hd : doneS sw = text := by
          rw [doneS, if_pos g2]
          rw [hr0, List.append_nil] at g1
          rw [g1]
        rw [hd, g2] at CD
        rw [hE] at CE
        clear HR HP hE hb0 hr0 g1 g2 g3 hd
        go_wp2_with fail
        refine CD.out.mono ?_
        rintro e w4 ⟨rfl, b4⟩
        go_wp2_with fail
        refine (CE.out w4 b4).mono ?_
        rintro e w5 ⟨rfl, q5, rfl⟩
        go_wp2_with fail
        go_ret
        exact ⟨rfl, below_drewN (bthen HB.out b4) _⟩
      · have hE2 : (endE sr != 0) = true := by simpa using hE
        clear HR HP hE
        generalize endE sr = ee at *
        generalize sw.err = er at *
        generalize doneS sw = D at *
        go_wp2_with fail
        refine CD.out.mono ?_
        rintro e w4 ⟨rfl, b4⟩
        go_wp2_with fail
        refine (CE.out w4 b4).mono ?_
        rintro e w5 ⟨rfl, q5, rfl⟩
        go_wp2_with fail
        go_ret
        exact ⟨rfl, below_drewN (bthen HB.out b4) _⟩

set_option maxRecDepth 100000 in
theorem lifted (os : Os) (started : os.Started) (H : Type) (enc : TypeId × Value → H) :
    ReturnsInHanded {} Try.checked os 7 .any (Rows.packOnlySpec.pre6 enc Try.prog Try.f7 Rows.packOnlyRow.domain false) (Rows.packOnlySpec.post enc Try.prog Try.f7 false true false false) := by
  refine returnsInHanded_of_change_sized (C := Try.checked) own started (by kernel_rfl) Try.func7
    (ChangeSpec.witness6 (enc := enc) (C := Try.checked) false ⟨#[], #[.string ⟨#[]⟩, .slice none 0 0], []⟩ 8 (by kernel_rfl) (by kernel_rfl) (by kernel_rfl) (by kernel_rfl)) ?_
  intro W base args ds gs before hval0 hW hcnd hsz _
  have hval : ∀ (j : Nat) t v, Try.f7.params[j]? = some t → args[j]? = some v → Value.okWide Try.prog W .any base t v := hval0
  have hW' := hW
  obtain ⟨p, q, hA0, hV, rfl, hfz, hnd⟩ := hW
  have hA : DataW.TrodAll enc Try.prog W 0 (fun _ => true) true Try.f7.params.toList args.toList ds p := hA0
  rw [Try.params7] at hA hval hsz
  have hA2 := hA
  obtain ⟨v0, vs0, d0, ds0, p0, q0, hargs, rfl, rfl, h0, r0⟩ := trodAll_cons hA
  obtain ⟨v1, vs1, d1, ds1, p1, q1, rfl, rfl, rfl, h1, r1⟩ := trodAll_cons r0
  obtain ⟨rfl, rfl, rfl⟩ := trodAll_nil r1
  obtain rfl : args = #[v0, v1] := by cases args; simp_all
  obtain ⟨rfl, rfl⟩ := trodVars_none hV
  clear hargs
  have k0 := hval 0 9 v0 rfl rfl
  obtain ⟨fu0, m0⟩ := h0
  have w0 := weights_of hsz (j := 0) (t := 9) rfl rfl
  obtain ⟨a0, e0, f0⟩ := view_string Try.underlying9 m0 w0
  have e0' := string_of Try.underlying9 k0 e0
  subst e0'
  have k1 := hval 1 22 v1 rfl rfl
  obtain ⟨fu1, m1⟩ := h1
  have w1 := weights_of hsz (j := 1) (t := 22) rfl rfl
  obtain ⟨l1, ⟨a1, n1, c1, e1, f1⟩, g1⟩ := vwIts.2.2 m1 w1
  have e1' := slice_of Try.underlying22 k1 e1
  subst e1'
  refine (walk W a0 f0 a1 n1 c1 l1 f1).mono fun e W' ⟨he, bel⟩ => ?_
  subst he
  exact ⟨_, rfl, _, _, _, [], _, [], hW', trodAll_mk1 (shut_bool Try.underlying4 _), trodAll_again laidOut bel (by kernel_rfl) hA2, rfl, bel.frame _, fun h => by cases h⟩

theorem over : Rows.packOnlyRow.holds Try.pinned (OpenSpec.ofChange Rows.packOnlySpec) :=
  OpenClaim.holds_of_wide 7 Try.f7 rfl rfl rfl rfl rfl rfl rfl ⟨rfl, rfl, rfl, rfl, rfl⟩ rfl rfl rfl rfl rfl (by kernel_rfl) Try.func7 (by kernel_rfl)
    (of_decide_eq_true (by kernel_rfl)) (by unfold Func.isWrapper; first | (rw [if_pos (by decide +kernel)]; kernel_rfl) | (rw [if_neg (by decide +kernel)]; exact ⟨rfl, rfl⟩))
    (fun os started H enc _ => lifted os started H enc)

theorem proved : Rows.PackOnlySaid := over
#print axioms proved
end Go.Proofs.Ytldlkhnhpbonkaa.packOnly
