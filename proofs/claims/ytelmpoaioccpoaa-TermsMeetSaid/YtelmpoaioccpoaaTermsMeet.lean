
/- TermsMeet: two proofs for one configuration, of whatever texts, have a weak quorum of signers in common: for every input the law returns true, and its arguments read as before. No condition. -/
import Derived.Test.YtelmpoaioccpoaaMeP
import Derived.Test.YtelmpoaioccpoaaLift
namespace Go.Proofs.Ytelmpoaioccpoaa.termsMeet
set_option maxRecDepth 100000
open Go.ChangeShapes Go.WideShapes Go.ChangeAt Go.RowKit
set_option linter.unusedVariables false
set_option linter.unusedSimpArgs false

theorem heard_at {w : World} {p : Nat} {e : Int} {a : Option Addr} {n c : Nat} {t : ByteArray} {b : Option Addr} {o q : Nat} {T : TypeId} {fr : Nat × Nat} (h : w.heap[p]? = some (.cells #[.int .i64 e, .slice a n c, .string t, .slice b o q] T fr)) :
    w.cell? ⟨p, 0, none⟩ = some (.int .i64 e) ∧ w.cell? ⟨p, 1, none⟩ = some (.slice a n c) ∧ w.cell? ⟨p, 2, none⟩ = some (.string t) ∧ w.cell? ⟨p, 3, none⟩ = some (.slice b o q) :=
  ⟨by rw [blk_cell h]; rfl, by rw [blk_cell h]; rfl, by rw [blk_cell h]; rfl, by rw [blk_cell h]; rfl⟩
theorem proves_len {e : Int} {l : List Int} {t : ByteArray} {s : List Sg} (h : provesB e l t s = true) : s.length ≤ 16 := by
  unfold provesB at h
  simp only [Bool.and_eq_true, decide_eq_true_eq] at h
  exact h.1.1.2

set_option maxHeartbeats 2000000 in
theorem walk (w : World) (ce : Int) (ca : Option Addr) (cn cc : Nat) (cl : List Int) (hce : i64 ce) (hcl : SlAt Sh.int w ca cn cc cl)
    (ae : Int) (aa : Option Addr) (an ac : Nat) (al : List Int) (ta : ByteArray) (xa : Option Addr) (xn xc : Nat) (xs : List Sg) (ha : HeardIn w ae aa an ac al ta xa xn xc xs)
    (be : Int) (ba : Option Addr) (bn bc : Nat) (bl : List Int) (tb : ByteArray) (ya : Option Addr) (yn yc : Nat) (ys : List Sg) (hb : HeardIn w be ba bn bc bl tb ya yn yc ys) :
    Calls Try.prog 6 #[.agg #[.int .i64 ce, .slice ca cn cc], .agg #[.int .i64 ae, .slice aa an ac, .string ta, .slice xa xn xc], .agg #[.int .i64 be, .slice ba bn bc, .string tb, .slice ya yn yc]] w fun e w' => e = .returned (.bool true) ∧ Below w.heap.size w w' := by
  have HI := Lib.hid (ints_of_sl hcl); have HX := Lib.hid ha.s; have HY := Lib.hid hb.s
  have hxl := ha.s.len
  have hyl := hb.s.len
  have hcn : cn ≤ 9223372036854775807 := (ints_of_sl hcl).max
  have hcll := hcl.len
  have CL := Lib.hid lives09_any
  have PM := Lib.hid (fun h1 h2 => @meet ce cl ta tb xs ys h1 h2)
  have PX := Lib.hid (fun h => @proves_len ce cl ta xs h)
  have PY := Lib.hid (fun h => @proves_len ce cl tb ys h)
  obtain ⟨wl, hwl⟩ : ∃ wl, wl = ((w.alloc (.cells #[.int .i64 ce, .slice ca cn cc] 24)).alloc (.cells #[.int .i64 ae, .slice aa an ac, .string ta, .slice xa xn xc] 27)).alloc (.cells #[.int .i64 be, .slice ba bn bc, .string tb, .slice ya yn yc] 27) := ⟨_, rfl⟩
  have b1 := below_alloc w (.cells #[.int .i64 ce, .slice ca cn cc] 24)
  have b2 := below_alloc (w.alloc (.cells #[.int .i64 ce, .slice ca cn cc] 24)) (.cells #[.int .i64 ae, .slice aa an ac, .string ta, .slice xa xn xc] 27)
  have b3 := below_alloc ((w.alloc (.cells #[.int .i64 ce, .slice ca cn cc] 24)).alloc (.cells #[.int .i64 ae, .slice aa an ac, .string ta, .slice xa xn xc] 27)) (.cells #[.int .i64 be, .slice ba bn bc, .string tb, .slice ya yn yc] 27)
  have BL := Lib.hid (show Below w.heap.size w wl by rw [hwl]; exact bthen (bthen b1 b2) b3)
  have K0 := Lib.hid (show wl.heap[w.heap.size]? = some (.cells #[.int .i64 ce, .slice ca cn cc] 24 (0, 0)) by rw [hwl]; exact blk_below (blk_below (blk_alloc _ _) b2) b3)
  have K1 := Lib.hid (show wl.heap[w.heap.size + 1]? = some (.cells #[.int .i64 ae, .slice aa an ac, .string ta, .slice xa xn xc] 27 (0, 0)) by
    have := blk_alloc (w.alloc (.cells #[.int .i64 ce, .slice ca cn cc] 24)) (.cells #[.int .i64 ae, .slice aa an ac, .string ta, .slice xa xn xc] 27)
    rw [World.size_alloc] at this
    rw [hwl]; exact blk_below this b3)
  have K2 := Lib.hid (show wl.heap[w.heap.size + 1 + 1]? = some (.cells #[.int .i64 be, .slice ba bn bc, .string tb, .slice ya yn yc] 27 (0, 0)) by
    have := blk_alloc ((w.alloc (.cells #[.int .i64 ce, .slice ca cn cc] 24)).alloc (.cells #[.int .i64 ae, .slice aa an ac, .string ta, .slice xa xn xc] 27)) (.cells #[.int .i64 be, .slice ba bn bc, .string tb, .slice ya yn yc] 27)
    rw [World.size_alloc, World.size_alloc] at this
    rw [hwl]; exact this)
  clear b1 b2 b3 hce hcl ha hb
  go_enter Try.func6, Try.ntmps6
  go_wp2_with fail
  rw [← hwl]
  clear hwl
  refine (CL.out _).mono ?_
  rintro r w1 ⟨rfl, b1⟩
  have B1 := Lib.hid b1
  clear b1 CL
  have CP := Lib.hid (proves_any ce ca cn cc cl ta xa xn xc xs w1 (HI.out.below (bthen BL.out B1.out)) (HX.out.old (bthen BL.out B1.out)))
  have x0 : w1.cell? ⟨w.heap.size, 0, none⟩ = some (.int .i64 ce) := by rw [blk_cell (blk_below K0.out B1.out)]; rfl
  have x1 : w1.cell? ⟨w.heap.size, 1, none⟩ = some (.slice ca cn cc) := by rw [blk_cell (blk_below K0.out B1.out)]; rfl
  obtain ⟨-, -, y2, y3⟩ := heard_at (blk_below K1.out B1.out)
  generalize hpx : provesB ce cl ta xs = px at *
  cases px with
  | false =>
    go_wp2_with fail
    refine CP.out.mono ?_
    rintro r w2 ⟨rfl, b2⟩
    go_wp2_with fail
    go_ret
    exact ⟨rfl, bthen BL.out (bthen B1.out b2)⟩
  | true =>
    go_wp2_with fail
    refine CP.out.mono ?_
    rintro r w2 ⟨rfl, b2⟩
    have B2 := Lib.hid (bthen B1.out b2)
    clear b2 CP x0 x1 y2 y3 B1
    have CP := Lib.hid (proves_any ce ca cn cc cl tb ya yn yc ys w2 (HI.out.below (bthen BL.out B2.out)) (HY.out.old (bthen BL.out B2.out)))
    have x0 : w2.cell? ⟨w.heap.size, 0, none⟩ = some (.int .i64 ce) := by rw [blk_cell (blk_below K0.out B2.out)]; rfl
    have x1 : w2.cell? ⟨w.heap.size, 1, none⟩ = some (.slice ca cn cc) := by rw [blk_cell (blk_below K0.out B2.out)]; rfl
    obtain ⟨-, -, z2, z3⟩ := heard_at (blk_below K2.out B2.out)
    generalize hpy : provesB ce cl tb ys = py at *
    cases py with
    | false =>
      go_wp2_with fail
      refine CP.out.mono ?_
      rintro r w3 ⟨rfl, b3⟩
      go_wp2_with fail
      go_ret
      exact ⟨rfl, bthen BL.out (bthen B2.out b3)⟩
    | true =>
      obtain ⟨hm1, hm2⟩ := PM.out (by first | rfl | trivial | simp) (by first | rfl | trivial | simp)
      have h16x := PX.out (by first | rfl | trivial | simp)
      have h16y := PY.out (by first | rfl | trivial | simp)
      have hh := hits_le xs ys
      have hh2 : xs.length * ys.length ≤ 256 := Nat.mul_le_mul h16x h16y
      have HM := Lib.hid (And.intro hm1 hm2)
      clear PM PX PY hm1 hm2
      go_wp2_with fail
      refine CP.out.mono ?_
      rintro r w3 ⟨rfl, b3⟩
      have B3 := Lib.hid (bthen B2.out b3)
      clear b3 CP x0 x1 z2 z3 B2 hpx hpy
      go_wp2_with fail
      go_loopw [7, 8] (fun cnt i wr => ∃ k : Nat, k ≤ xn ∧ i = .int .i64 k ∧ cnt = .int .i64 (hits (xs.take k) ys) ∧ Hid (Below w3.heap.size w3 wr)) (fun _ i _ => xn - (intOf i).toNat)
      case atStart => exact ⟨0, by omega, rfl, rfl, Lib.hid (Below.refl _ _)⟩
      case round =>
        obtain ⟨k, hk, rfl, rfl, HW⟩ := hrel
        obtain ⟨-, -, -, y3⟩ := heard_at (blk_below K1.out (bthen B3.out HW.out))
        by_cases hlt : k < xn
        · have hd : decide ((k : Int) < (xn : Int)) = true := by simp; omega
          obtain ⟨⟨x, t⟩, hx⟩ : ∃ s, xs[k]? = some s := ⟨_, List.getElem?_eq_getElem (by omega)⟩
          have HT := Lib.hid (show hits (xs.take (k + 1)) ys = hits (xs.take k) ys + hitsR x ys by rw [List.take_add_one, hx]; exact hits_snoc _ _ _)
          have hle : hits (xs.take k) ys + hitsR x ys ≤ 256 := by
            have h1 := hits_le (xs.take (k + 1)) ys
            rw [HT.out] at h1
            have h2 : (xs.take (k + 1)).length * ys.length ≤ 16 * 16 := Nat.mul_le_mul (by rw [List.length_take]; omega) h16y
            omega
          go_wp2_with fail
          go_loopw [7, 9] (fun cnt j wq => ∃ q : Nat, q ≤ yn ∧ j = .int .i64 q ∧ cnt = .int .i64 ((hits (xs.take k) ys + hitsR x (ys.take q) : Nat) : Int) ∧ Hid (Below w3.heap.size w3 wq)) (fun _ j _ => yn - (intOf j).toNat)
          case atStart => exact ⟨0, by omega, rfl, by simp [hitsR], HW⟩
          case round =>
            obtain ⟨q, hq, rfl, rfl, HQ⟩ := hrel
            clear y3
            obtain ⟨-, -, -, y3⟩ := heard_at (blk_below K1.out (bthen B3.out HQ.out))
            obtain ⟨-, -, -, z3⟩ := heard_at (blk_below K2.out (bthen B3.out HQ.out))
            by_cases hlq : q < yn
            · have hdq : decide ((q : Int) < (yn : Int)) = true := by simp; omega
              obtain ⟨g1, o1, x', t', rfl, hx', c0, -, -, -⟩ := sig_cells (HX.out.old (bthen BL.out (bthen B3.out HQ.out))) hlt
              obtain ⟨g2, o2, y, u, rfl, hy, d0, -, -, -⟩ := sig_cells (HY.out.old (bthen BL.out (bthen B3.out HQ.out))) hlq
              rw [hx] at hx'
              injection hx' with hx'
              injection hx' with hxe hte
              subst hxe
              have HT2 := Lib.hid (show hitsR x (ys.take (q + 1)) = hitsR x (ys.take q) + if x = y then 1 else 0 by rw [List.take_add_one, hy]; exact hitsR_snoc _ _ _)
              have hle2 : hitsR x (ys.take q) ≤ q := Nat.le_trans (hitsR_le _ _) (by rw [List.length_take]; omega)
              have hle3 : hits (xs.take k) ys ≤ 256 := by omega
              by_cases hxy : x = y
              · have hc : (x == y) = true := by simpa using hxy
                have HE := Lib.hid (show hits (xs.take k) ys + hitsR x (ys.take (q + 1)) = hits (xs.take k) ys + hitsR x (ys.take q) + 1 by rw [HT2.out, if_pos hxy]; omega)
                have hb : hits (xs.take k) ys + hitsR x (ys.take q) ≤ 300 := by omega
                clear hx hy hte hxy HT2
                generalize hits (xs.take k) ys + hitsR x (ys.take q) = h at *
                have hwr : IntKind.i64.wrap ((h : Int) + 1) = (h : Int) + 1 := IntWalk.i64_in _ (by omega)
                go_wp2_with fail
                go_quiet (fail)
                go_wp2_with fail
                go_roundw
                case rel => exact ⟨q + 1, by omega, by go_num, by rw [HE.out]; rfl, Lib.hid (below_drewN HQ.out _)⟩
                case measure => simp [intOf]; omega
              · have hc : (x == y) = false := by simpa using hxy
                have HE := Lib.hid (show hits (xs.take k) ys + hitsR x (ys.take (q + 1)) = hits (xs.take k) ys + hitsR x (ys.take q) by rw [HT2.out, if_neg hxy]; omega)
                clear hx hy hte hxy HT2
                generalize hits (xs.take k) ys + hitsR x (ys.take q) = h at *
                go_wp2_with fail
                go_quiet (fail)
                go_wp2_with fail
                go_roundw
                case rel => exact ⟨q + 1, by omega, by go_num, by rw [HE.out], Lib.hid (below_drewN HQ.out _)⟩
                case measure => simp [intOf]; omega
            · have hqn : q = yn := by omega
              subst hqn
              have hdq : decide ((q : Int) < (q : Int)) = false := by simp
              have HE := Lib.hid (show hits (xs.take (k + 1)) ys = hits (xs.take k) ys + hitsR x (ys.take q) by rw [HT.out, List.take_of_length_le (l := ys) (by omega)])
              generalize hits (xs.take k) ys + hitsR x (ys.take q) = h at *
              go_wp2_with fail
              go_roundw
              case rel => exact ⟨k + 1, by omega, by go_num, by rw [HE.out], HQ⟩
              case measure => simp [intOf]; omega
        · have hkn : k = xn := by omega
          subst hkn
          have hd : decide ((k : Int) < (k : Int)) = false := by simp
          have hT : xs.take k = xs := List.take_of_length_le (by omega)
          rw [hT]
          obtain ⟨hm1, hm2⟩ := HM.out
          rw [hcll] at hm1 hm2
          have x1 : wr.cell? ⟨w.heap.size, 1, none⟩ = some (.slice ca cn cc) := by rw [blk_cell (blk_below K0.out (bthen B3.out HW.out))]; rfl
          have CW := weak_any (cn : Int) wr (by omega) (by omega)
          have CF := fun w => faults_any (cn : Int) w (by omega) (by omega)
          generalize hits xs ys = h at *
          have hd1 : decide (weakP (cn : Int) ≤ (h : Int)) = true := by simpa using hm1
          have hd2 : decide (faultsP (cn : Int) < (h : Int)) = true := by simpa using hm2
          generalize weakP (cn : Int) = wk at *
          generalize faultsP (cn : Int) = fa at *
          have CW := Lib.hid CW
          have CF := Lib.hid CF
          clear hT hm1 hm2 HM hh
          go_wp2_with fail
          refine CW.out.mono ?_
          rintro r w5 ⟨rfl, rfl⟩
          go_wp2_with fail
          refine (CF.out _).mono ?_
          rintro r w6 ⟨rfl, rfl⟩
          go_wp2_with fail
          go_ret
          exact ⟨rfl, bthen BL.out (bthen B3.out HW.out)⟩
set_option maxRecDepth 100000 in
theorem lifted (os : Os) (started : os.Started) (H : Type) (enc : TypeId × Value → H) :
    ReturnsInHanded {} Try.checked os 6 .any (Rows.termsMeetSpec.pre6 enc Try.prog Try.f6 Rows.termsMeetRow.domain false) (Rows.termsMeetSpec.post enc Try.prog Try.f6 false true false false) := by
  refine returnsInHanded_of_change_sized (C := Try.checked) own started (by kernel_rfl) Try.func6
    (ChangeSpec.witness6 (enc := enc) (C := Try.checked) false ⟨#[], #[.agg #[.int .i64 0, .slice none 0 0], .agg #[.int .i64 0, .slice none 0 0, .string ⟨#[]⟩, .slice none 0 0], .agg #[.int .i64 0, .slice none 0 0, .string ⟨#[]⟩, .slice none 0 0]], []⟩ 8 (by kernel_rfl) (by kernel_rfl) (by kernel_rfl) (by kernel_rfl)) ?_
  intro W base args ds gs before hval0 hW hcnd hsz _
  have hval : ∀ (j : Nat) t v, Try.f6.params[j]? = some t → args[j]? = some v → Value.okWide Try.prog W .any base t v := hval0
  have hW' := hW
  obtain ⟨p, q, hA0, hV, rfl, hfz, hnd⟩ := hW
  have hA : DataW.TrodAll enc Try.prog W 0 (fun _ => true) true Try.f6.params.toList args.toList ds p := hA0
  rw [Try.params6] at hA hval hsz
  have hA2 := hA
  obtain ⟨v0, vs0, d0, ds0, p0, q0, hargs, rfl, rfl, h0, r0⟩ := trodAll_cons hA
  obtain ⟨v1, vs1, d1, ds1, p1, q1, rfl, rfl, rfl, h1, r1⟩ := trodAll_cons r0
  obtain ⟨v2, vs2, d2, ds2, p2, q2, rfl, rfl, rfl, h2, r2⟩ := trodAll_cons r1
  obtain ⟨rfl, rfl, rfl⟩ := trodAll_nil r2
  obtain rfl : args = #[v0, v1, v2] := by cases args; simp_all
  obtain ⟨rfl, rfl⟩ := trodVars_none hV
  clear hargs
  have k0 := hval 0 24 v0 rfl rfl
  obtain ⟨fu0, m0⟩ := h0
  have w0 := weights_of hsz (j := 0) (t := 24) rfl rfl
  have F0 : Fit Try.prog 24 d0 := .inl w0
  have s0 := cells_agg Try.underlying24 k0
  obtain ⟨y0, E0, g0⟩ := vwConf.2.2 m0 F0
  obtain ⟨p0, l0, a0, n0, c0, rfl, e0, f0, j0⟩ := conf_open E0
  obtain ⟨z0, s01, s02⟩ := s0
  have e0' := agg_of ⟨s01, s02⟩ e0
  subst e0'
  have k1 := hval 1 27 v1 rfl rfl
  obtain ⟨fu1, m1⟩ := h1
  have w1 := weights_of hsz (j := 1) (t := 27) rfl rfl
  have F1 : Fit Try.prog 27 d1 := .inl w1
  have s1 := cells_agg Try.underlying27 k1
  obtain ⟨y1, E1, g1⟩ := vwHeard.2.2 m1 F1
  obtain ⟨p1, l1, tx1, sg1, a1, n1, c1, bb1, oo1, qc1, rfl, e1, f1⟩ := heard_open E1
  obtain ⟨z1, s11, s12⟩ := s1
  have e1' := agg_of ⟨s11, s12⟩ e1
  subst e1'
  have k2 := hval 2 27 v2 rfl rfl
  obtain ⟨fu2, m2⟩ := h2
  have w2 := weights_of hsz (j := 2) (t := 27) rfl rfl
  have F2 : Fit Try.prog 27 d2 := .inl w2
  have s2 := cells_agg Try.underlying27 k2
  obtain ⟨y2, E2, g2⟩ := vwHeard.2.2 m2 F2
  obtain ⟨p2, l2, tx2, sg2, a2, n2, c2, bb2, oo2, qc2, rfl, e2, f2⟩ := heard_open E2
  obtain ⟨z2, s21, s22⟩ := s2
  have e2' := agg_of ⟨s21, s22⟩ e2
  subst e2'
  refine (walk W p0 a0 n0 c0 l0 f0 j0 p1 a1 n1 c1 l1 tx1 bb1 oo1 qc1 sg1 f1 p2 a2 n2 c2 l2 tx2 bb2 oo2 qc2 sg2 f2).mono fun e W' ⟨he, bel⟩ => ?_
  subst he
  exact ⟨_, rfl, _, _, _, [], _, [], hW', trodAll_mk1 (shut_bool Try.underlying4 _), trodAll_again laidOut bel (by kernel_rfl) hA2, rfl, bel.frame _, fun h => by cases h⟩

theorem over : Rows.termsMeetRow.holds Try.pinned (OpenSpec.ofChange Rows.termsMeetSpec) :=
  OpenClaim.holds_of_wide 6 Try.f6 rfl rfl rfl rfl rfl rfl rfl ⟨rfl, rfl, rfl, rfl, rfl⟩ rfl rfl rfl rfl rfl (by kernel_rfl) Try.func6 (by kernel_rfl)
    (of_decide_eq_true (by kernel_rfl)) (by unfold Func.isWrapper; first | (rw [if_pos (by decide +kernel)]; kernel_rfl) | (rw [if_neg (by decide +kernel)]; exact ⟨rfl, rfl⟩))
    (fun os started H enc _ => lifted os started H enc)

theorem proved : Rows.TermsMeetSaid := over
#print axioms proved
end Go.Proofs.Ytelmpoaioccpoaa.termsMeet
