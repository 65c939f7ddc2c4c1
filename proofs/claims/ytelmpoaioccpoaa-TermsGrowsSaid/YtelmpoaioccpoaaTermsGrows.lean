
/- TermsGrows: what is derivable stays so when more is noted and with more bad ones; without a bad one just what stands in the book is; what was noted is: for every input the law returns true, and its arguments read as before. No condition. -/
import Derived.Test.YtelmpoaioccpoaaGrP
import Derived.Test.YtelmpoaioccpoaaLift
import Derived.Test.YtelmpoaioccpoaaAo
namespace Go.Proofs.Ytelmpoaioccpoaa.termsGrows
set_option maxRecDepth 100000
open Go.ChangeShapes Go.WideShapes Go.ChangeAt Go.RowKit
set_option linter.unusedVariables false
set_option linter.unusedSimpArgs false

theorem info_int9 : (Try.prog.info? 3).map (fun i => (i.zero, i.size, i.bytes)) = some (some (.int .i64 0), 1, 8) := by kernel_rfl
theorem ints_news {w : World} {a : Option Addr} {n : Nat} {l : List Int} (h : IntsAt w a n l) : ∀ ad, a = some ad → ∀ j u, (intsV l)[j]? = some u → w.cell? (ad.add j) = some u := by
  intro ad ha j u hu
  have hj : j < l.length := by have := (List.getElem?_eq_some_iff.1 hu).1; simpa [intsV] using this
  obtain ⟨b, o, hb, hc⟩ := h.cell j (by rw [← h.len]; exact hj)
  rw [ha] at hb
  injection hb with hb
  subst hb
  rw [Addr.add_lit, hc, ← hu]
  simp [intsV, List.getD, hj]
theorem three_new (w : World) : ∀ j u, [Value.int .i64 3][j]? = some u → (w.alloc (.cells #[.int .i64 3] 3 (0, 0))).cell? ((⟨w.heap.size, 0, none⟩ : Addr).add j) = some u := by
  intro j u h
  rw [Addr.add_lit, blk_cell (blk_alloc w _), ← h]
  simp
theorem nil_ints (w : World) : IntsAt w none 0 [] := ⟨rfl, by omega, fun i hi => by omega, fun x hx => by cases hx⟩

set_option maxHeartbeats 1000000 in
theorem walk (w : World) (na : Option Addr) (nn nc : Nat) (notes : List Sg) (hn : SlAt shSig w na nn nc notes) (ba : Option Addr) (bn bc : Nat) (bad : List Int) (hb : SlAt Sh.int w ba bn bc bad) (sa : Option Addr) (sn sc : Nat) (sigs : List Sg) (hs : SlAt shSig w sa sn sc sigs) :
    Calls Try.prog 8 #[.slice na nn nc, .slice ba bn bc, .slice sa sn sc] w fun e w' => e = .returned (.bool true) ∧ Below w.heap.size w w' := by
  obtain ⟨ii, hi, hz0, hz1, hz2⟩ := info_parts info_int9
  have HI := Lib.hid (ints_of_sl hb); have HN := Lib.hid hn; have HS := Lib.hid hs
  have hnn : nn * 24 ≤ 140737488355328 := hn.bytes
  have hbn : bn * 8 ≤ 140737488355328 := hb.bytes
  have hbl := hb.len
  have hsl := hs.len
  have hsm : sn ≤ 9223372036854775807 := Nat.le_trans hs.cap hs.max
  have hbnil : ba = none → bn = 0 ∧ bc = 0 := fun h => ⟨by have := hb.nil h; have := hb.cap; omega, hb.nil h⟩
  have hbfit := (ints_of_sl hb).fit
  have CL := Lib.hid lives09_any
  have HBF := Lib.hid hbfit
  have P1 := Lib.hid (fun h => deriv_mono (l := []) (l' := noteP [] notes) (bad := bad) (bad' := bad) (sigs := sigs) (fun s hs => by cases hs) (fun _ h => h) h)
  have P2 := Lib.hid (fun h => deriv_mono (l := noteP [] notes) (l' := noteP [] notes) (bad := bad) (bad' := bad ++ [3]) (sigs := sigs) (fun s hs => hs) (fun x h => hasB_more bad 3 x h) h)
  have P3 := Lib.hid (show derivP (noteP [] notes) [] notes = true by
    rw [deriv_none, List.all_eq_true]; intro s hs; rw [decide_eq_true_eq, note_mem]; exact .inr hs)
  have P4 := Lib.hid (deriv_none (noteP [] notes) sigs)
  clear hn hb hs hbfit
  go_enter Try.func8, Try.ntmps8
  go_wp2_with fail
  refine (CL.out _).mono ?_
  rintro r w1 ⟨rfl, b1⟩
  have B1 := Lib.hid b1
  clear b1 CL
  go_wp2_with fail
  refine (bnew_any _).mono ?_
  rintro r w2 ⟨rfl, hbk, b2⟩
  have hm1 := B1.out.size
  generalize w1.heap.size = m at *
  have HB2 := Lib.hid hbk
  have B2 : Hid (Below w.heap.size w w2) := Lib.hid (B1.out.trans (b2.mono hm1))
  clear hbk b2 B1
  have CD := Lib.hid (bderiv_any (.pointer (some ⟨m + 1, 0, none⟩)) [] ba bn bc bad sa sn sc sigs w2 (.inr ⟨_, _, _, rfl, HB2.out, by omega⟩) (HI.out.below B2.out) (HS.out.old B2.out))
  go_wp2_with fail
  refine CD.out.mono ?_
  rintro r w3 ⟨rfl, b3⟩
  have HB3 := Lib.hid (HB2.out.old b3)
  have B3 := Lib.hid (bthen B2.out b3)
  clear b3 CD HB2 B2
  have CN := Lib.hid (note_any (m + 1) m [] 0 na nn nc notes w3 HB3.out (fun w' hk => HN.out.old (hk.below B3.out (fun k hk => by omega))) (by omega))
  go_wp2_with fail
  refine CN.out.mono ?_
  rintro r w4 ⟨rfl, hb4, k4⟩
  have HB4 := Lib.hid hb4
  have B4 := Lib.hid (k4.below B3.out (fun k hk => by omega))
  clear hb4 k4 CN HB3 B3
  have CD := Lib.hid (bderiv_any (.pointer (some ⟨m + 1, 0, none⟩)) (noteP [] notes) ba bn bc bad sa sn sc sigs w4 (.inr ⟨_, _, _, rfl, HB4.out, by omega⟩) (HI.out.below B4.out) (HS.out.old B4.out))
  go_wp2_with fail
  refine CD.out.mono ?_
  rintro r w5 ⟨rfl, b5⟩
  have HB5 := Lib.hid (HB4.out.old b5)
  have B5 := Lib.hid (bthen B4.out b5)
  clear b5 CD HB4 B4
  have HI5 := Lib.hid (HI.out.below B5.out)
  have hblen : (intsV bad).length = bn * 1 := by simp [intsV, hbl]
  go_wp2_with (first | (at_builtin; refine wpList_append_any _ rfl (.const (.slice none 0 0)) (.tmp 28) 22 rfl w.heap.size 3 ii (.int .i64 0) 1 8 Try.underlying22 hi hz0 hz1 hz2 rfl (by decide) (.slice none 0 0) 0 [] rfl (World.ownsRow_nil _ _ _ _) ba bn bc (intsV bad) rfl hblen hbnil (ints_news HI5.out) (intsV_one bad) (by unfold maxLen; omega) (by omega) B5.out.size ?_) | fail)
  intro v6 w6 ho6 hg6 hn6
  have b6 : Below w5.heap.size w5 w6 := grown_below_none hg6
  have HB6 := Lib.hid (HB5.out.old b6)
  have B6 := Lib.hid (bthen B5.out b6)
  have HO6 := Lib.hid (owns_old ho6 (below_alloc w6 (.cells #[.int .i64 3] 3 (0, 0))))
  have hf6 := owns_form ho6
  obtain ⟨a6, c6, rfl⟩ := hf6
  clear ho6 hg6 b6 HB5 B5 HI5
  go_wp2_with (first | (at_builtin; refine wpList_append_one _ rfl (.tmp 29) (.tmp 30) 22 rfl w.heap.size 3 ii (.int .i64 0) 1 8 Try.underlying22 hi hz0 hz1 hz2 rfl (by decide) (.slice a6 bn c6) bn (intsV bad) rfl HO6.out ⟨w6.heap.size, 0, none⟩ 1 [.int .i64 3] rfl rfl (three_new w6) (by simp [Value.oneCell']) (by unfold maxLen; omega) (by decide) (by omega) (by have := B6.out.size; simp; omega) ?_) | fail)
  intro v7 w7 ho7 hg7
  have hlt6 := HO6.out.lt
  have h77 : intsV bad ++ [.int .i64 3] = intsV (bad ++ [3]) := by simp [intsV]
  have hbl7 : bn + 1 = (bad ++ [3]).length := by simp [hbl]
  rw [h77, hbl7] at ho7
  have b7 := grown_below (bthen B6.out (below_alloc w6 (.cells #[.int .i64 3] 3 (0, 0)))) hg7 (fun j hj => (hlt6 j hj).1)
  have hg67 : Below w6.heap.size w6 (w6.alloc (.cells #[.int .i64 3] 3 (0, 0))) := below_alloc _ _
  have HB7 := Lib.hid (show BookAt w7 (m + 1) m (noteP [] notes) (0 + nn) from by
    have k7 : Keep (fun j => (Value.slice a6 bn c6).ownBlock = some j) w6 w7 := (Keep.of_below hg67).grown hg7 (fun k hk => .inr hk)
    have hrm : ∀ N D, w6.ownsMap Try.prog 34 intE m N D → some m ≠ (Value.slice a6 bn c6).ownBlock := fun N D h => row_ne_map HO6.out (h.alloc _)
    obtain ⟨n1, D, hom, -, -⟩ := HB6.out.mp
    refine HB6.out.keep k7 (fun h => ?_) (fun h => hrm _ _ hom h.symm)
    have hbx := HB6.out.box
    rcases HO6.out.2 with ⟨h0, _⟩ | ⟨g, cap, cur, h0, _, hg, _⟩
    · injection h0 with h1; rw [h1] at h; cases h
    · injection h0 with h1
      rw [h1] at h
      have hge : g = m + 1 := by simpa [Value.ownBlock] using h
      subst hge
      rw [blk_below hbx hg67] at hg
      injection hg with hg
      injection hg with _ h2 _
      revert h2
      decide)
  have hI7 := owns_ints ho7 (fun x hx => by
    rw [List.mem_append, List.mem_singleton] at hx
    rcases hx with hx | rfl
    · exact HBF.out x hx
    · simp [i64]) (by rw [← hbl7]; omega)
  rw [← hbl7] at hI7
  obtain ⟨a7, c7, rfl, hi7⟩ := hI7
  have HI7 := Lib.hid hi7
  have B7 := Lib.hid b7
  clear hbl7 h77 ho7 hg7 hg67 b7 hi7 HO6 HB6 B6 hlt6 hn6
  have CD := Lib.hid (bderiv_any (.pointer (some ⟨m + 1, 0, none⟩)) (noteP [] notes) a7 (bn + 1) c7 (bad ++ [3]) sa sn sc sigs w7 (.inr ⟨_, _, _, rfl, HB7.out, by omega⟩) HI7.out (HS.out.old B7.out))
  go_wp2_with fail
  refine CD.out.mono ?_
  rintro r w8 ⟨rfl, b8⟩
  have HB8 := Lib.hid (HB7.out.old b8)
  have B8 := Lib.hid (bthen B7.out b8)
  clear b8 CD HB7 B7 HI7
  generalize derivP [] bad sigs = d1 at *
  generalize derivP (noteP [] notes) bad sigs = d2 at *
  generalize derivP (noteP [] notes) (bad ++ [3]) sigs = d3 at *
  go_wp2_with fail
  go_loopw [11, 12] (fun al i wr => ∃ k : Nat, k ≤ sn ∧ i = .int .i64 k ∧ al = .bool ((sigs.take k).all fun s => decide (s ∈ noteP [] notes)) ∧ Hid (Below w8.heap.size w8 wr)) (fun _ i _ => sn - (intOf i).toNat)
  case atStart => exact ⟨0, by omega, rfl, rfl, Lib.hid (Below.refl _ _)⟩
  case round =>
    obtain ⟨k, hk, rfl, rfl, HW⟩ := hrel
    by_cases hlt : k < sn
    · have hd : decide ((k : Int) < (sn : Int)) = true := by simp; omega
      obtain ⟨bb, o, x, t, rfl, hy, x0, x1, h1, h2⟩ := sig_cells (HS.out.old (bthen B8.out HW.out)) hlt
      have HT := Lib.hid (show ((sigs.take (k + 1)).all fun s => decide (s ∈ noteP [] notes)) = (((sigs.take k).all fun s => decide (s ∈ noteP [] notes)) && decide ((x, t) ∈ noteP [] notes)) by rw [List.take_add_one, hy]; simp)
      have CH := bhas_any (.pointer (some ⟨m + 1, 0, none⟩)) (noteP [] notes) (x, t) wr (.inr ⟨_, _, _, rfl, HB8.out.old HW.out, by omega⟩) ⟨h1, h2⟩
      unfold sgV at CH
      dsimp only at CH
      replace CH := Lib.hid CH
      generalize ((sigs.take k).all fun s => decide (s ∈ noteP [] notes)) = own at *
      generalize decide ((x, t) ∈ noteP [] notes) = isin at *
      clear hy
      cases own with
      | true =>
        go_wp2_with fail
        refine CH.out.mono ?_
        rintro r w9 ⟨rfl, b9⟩
        have W9 := Lib.hid (bthen HW.out b9)
        clear b9 CH x0 x1
        go_wp2_with fail
        go_roundw
        case rel => exact ⟨k + 1, by omega, by go_num, by rw [HT.out]; rfl, W9⟩
        case measure => simp [intOf]; omega
      | false =>
        go_wp2_with fail
        go_roundw
        case rel => exact ⟨k + 1, by omega, by go_num, by rw [HT.out]; rfl, HW⟩
        case measure => simp [intOf]; omega
    · have hkn : k = sn := by omega
      subst hkn
      have hd : decide ((k : Int) < (k : Int)) = false := by simp
      have hT : sigs.take k = sigs := List.take_of_length_le (by omega)
      rw [hT]
      have B9 := Lib.hid (bthen B8.out HW.out)
      have HB9 := Lib.hid (HB8.out.old HW.out)
      have CD := bderiv_any (.pointer (some ⟨m + 1, 0, none⟩)) (noteP [] notes) none 0 0 [] sa k sc sigs wr (.inr ⟨_, _, _, rfl, HB9.out, by omega⟩) (nil_ints _) (HS.out.old B9.out)
      rw [P4.out] at CD
      replace CD := Lib.hid CD
      clear HW hT
      generalize (sigs.all fun s => decide (s ∈ noteP [] notes)) = al at *
      have hQ1 : ((!d1) || d2) = true := by
        cases d1
        · rfl
        · rw [P1.out rfl]; rfl
      have hQ2 : ((!d2) || d3) = true := by
        cases d2
        · rfl
        · rw [P2.out rfl]; rfl
      have P3' := P3.out
      clear P1 P2 P3 P4
      have tail : True := trivial
      cases d1 with
      | true =>
        cases d2 with
        | false => cases hQ1
        | true =>
          cases d3 with
          | false => cases hQ2
          | true =>
            go_wp2_with fail
            refine CD.out.mono ?_
            rintro r w10 ⟨rfl, b10⟩
            have B10 := Lib.hid (bthen B9.out b10)
            have CE := bderiv_any (.pointer (some ⟨m + 1, 0, none⟩)) (noteP [] notes) none 0 0 [] na nn nc notes w10 (.inr ⟨_, _, _, rfl, HB9.out.old b10, by omega⟩) (nil_ints _) (HN.out.old B10.out)
            rw [P3'] at CE
            replace CE := Lib.hid CE
            clear b10 CD B9 HB9
            go_wp2_with fail
            refine CE.out.mono ?_
            rintro r w11 ⟨rfl, b11⟩
            have B11 := Lib.hid (bthen B10.out b11)
            clear b11 CE
            go_wp2_with fail
            go_ret
            exact ⟨rfl, B11.out⟩
      | false =>
        cases d2 with
        | false =>
          go_wp2_with fail
          refine CD.out.mono ?_
          rintro r w10 ⟨rfl, b10⟩
          have B10 := Lib.hid (bthen B9.out b10)
          have CE := bderiv_any (.pointer (some ⟨m + 1, 0, none⟩)) (noteP [] notes) none 0 0 [] na nn nc notes w10 (.inr ⟨_, _, _, rfl, HB9.out.old b10, by omega⟩) (nil_ints _) (HN.out.old B10.out)
          rw [P3'] at CE
          replace CE := Lib.hid CE
          clear b10 CD B9 HB9
          go_wp2_with fail
          refine CE.out.mono ?_
          rintro r w11 ⟨rfl, b11⟩
          have B11 := Lib.hid (bthen B10.out b11)
          clear b11 CE
          go_wp2_with fail
          go_ret
          exact ⟨rfl, B11.out⟩
        | true =>
          cases d3 with
          | false => cases hQ2
          | true =>
            go_wp2_with fail
            refine CD.out.mono ?_
            rintro r w10 ⟨rfl, b10⟩
            have B10 := Lib.hid (bthen B9.out b10)
            have CE := bderiv_any (.pointer (some ⟨m + 1, 0, none⟩)) (noteP [] notes) none 0 0 [] na nn nc notes w10 (.inr ⟨_, _, _, rfl, HB9.out.old b10, by omega⟩) (nil_ints _) (HN.out.old B10.out)
            rw [P3'] at CE
            replace CE := Lib.hid CE
            clear b10 CD B9 HB9
            go_wp2_with fail
            refine CE.out.mono ?_
            rintro r w11 ⟨rfl, b11⟩
            have B11 := Lib.hid (bthen B10.out b11)
            clear b11 CE
            go_wp2_with fail
            go_ret
            exact ⟨rfl, B11.out⟩
set_option maxRecDepth 100000 in
theorem lifted (os : Os) (started : os.Started) (H : Type) (enc : TypeId × Value → H) :
    ReturnsInHanded {} Try.checked os 8 .any (Rows.termsGrowsSpec.pre6 enc Try.prog Try.f8 Rows.termsGrowsRow.domain false) (Rows.termsGrowsSpec.post enc Try.prog Try.f8 false true false false) := by
  refine returnsInHanded_of_change_sized (C := Try.checked) own started (by kernel_rfl) Try.func8
    (ChangeSpec.witness6 (enc := enc) (C := Try.checked) false ⟨#[], #[.slice none 0 0, .slice none 0 0, .slice none 0 0], []⟩ 8 (by kernel_rfl) (by kernel_rfl) (by kernel_rfl) (by kernel_rfl)) ?_
  intro W base args ds gs before hval0 hW hcnd hsz _
  have hval : ∀ (j : Nat) t v, Try.f8.params[j]? = some t → args[j]? = some v → Value.okWide Try.prog W .any base t v := hval0
  have hW' := hW
  obtain ⟨p, q, hA0, hV, rfl, hfz, hnd⟩ := hW
  have hA : DataW.TrodAll enc Try.prog W 0 (fun _ => true) true Try.f8.params.toList args.toList ds p := hA0
  rw [Try.params8] at hA hval hsz
  have hA2 := hA
  obtain ⟨v0, vs0, d0, ds0, p0, q0, hargs, rfl, rfl, h0, r0⟩ := trodAll_cons hA
  obtain ⟨v1, vs1, d1, ds1, p1, q1, rfl, rfl, rfl, h1, r1⟩ := trodAll_cons r0
  obtain ⟨v2, vs2, d2, ds2, p2, q2, rfl, rfl, rfl, h2, r2⟩ := trodAll_cons r1
  obtain ⟨rfl, rfl, rfl⟩ := trodAll_nil r2
  obtain rfl : args = #[v0, v1, v2] := by cases args; simp_all
  obtain ⟨rfl, rfl⟩ := trodVars_none hV
  clear hargs
  have k0 := hval 0 25 v0 rfl rfl
  obtain ⟨fu0, m0⟩ := h0
  have w0 := weights_of hsz (j := 0) (t := 25) rfl rfl
  have F0 : Fit Try.prog 25 d0 := .inl w0
  obtain ⟨l0, ⟨a0, n0, c0, e0, f0⟩, g0⟩ := vwSigs.2.2 m0 F0
  have e0' := slice_of Try.underlying25 k0 e0
  subst e0'
  have k1 := hval 1 22 v1 rfl rfl
  obtain ⟨fu1, m1⟩ := h1
  have w1 := weights_of hsz (j := 1) (t := 22) rfl rfl
  have F1 : Fit Try.prog 22 d1 := .inl w1
  obtain ⟨l1, ⟨a1, n1, c1, e1, f1⟩, g1⟩ := vwInts.2.2 m1 F1
  have e1' := slice_of Try.underlying22 k1 e1
  subst e1'
  have k2 := hval 2 25 v2 rfl rfl
  obtain ⟨fu2, m2⟩ := h2
  have w2 := weights_of hsz (j := 2) (t := 25) rfl rfl
  have F2 : Fit Try.prog 25 d2 := .inl w2
  obtain ⟨l2, ⟨a2, n2, c2, e2, f2⟩, g2⟩ := vwSigs.2.2 m2 F2
  have e2' := slice_of Try.underlying25 k2 e2
  subst e2'
  refine (walk W a0 n0 c0 l0 f0 a1 n1 c1 l1 f1 a2 n2 c2 l2 f2).mono fun e W' ⟨he, bel⟩ => ?_
  subst he
  exact ⟨_, rfl, _, _, _, [], _, [], hW', trodAll_mk1 (shut_bool Try.underlying4 _), trodAll_again laidOut bel (by kernel_rfl) hA2, rfl, bel.frame _, fun h => by cases h⟩

theorem over : Rows.termsGrowsRow.holds Try.pinned (OpenSpec.ofChange Rows.termsGrowsSpec) :=
  OpenClaim.holds_of_wide 8 Try.f8 rfl rfl rfl rfl rfl rfl rfl ⟨rfl, rfl, rfl, rfl, rfl⟩ rfl rfl rfl rfl rfl (by kernel_rfl) Try.func8 (by kernel_rfl)
    (of_decide_eq_true (by kernel_rfl)) (by unfold Func.isWrapper; first | (rw [if_pos (by decide +kernel)]; kernel_rfl) | (rw [if_neg (by decide +kernel)]; exact ⟨rfl, rfl⟩))
    (fun os started H enc _ => lifted os started H enc)

theorem proved : Rows.TermsGrowsSaid := over
#print axioms proved
end Go.Proofs.Ytelmpoaioccpoaa.termsGrows
