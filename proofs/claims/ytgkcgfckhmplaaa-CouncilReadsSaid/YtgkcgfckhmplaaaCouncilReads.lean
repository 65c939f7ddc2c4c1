/- CouncilReads: what Text tells is read again, what is read is told as just these bytes, unlike right configurations have unlike bytes: for every input the law returns true, and its arguments read as before. No condition. -/
import Derived.Test.YtgkcgfckhmplaaaLift
import Derived.Test.YtgkcgfckhmplaaaReR
namespace Go.Proofs.Ytgkcgfckhmplaaa.councilReads
open Go.ChangeShapes Go.WideShapes Go.ChangeAt Go.RowKit
set_option linter.unusedVariables false

theorem right_back {e : Int} {l : List Int} (h : rightB e l = true) : okB (textP e l) = true ∧ readE (textP e l) = e ∧ readL (textP e l) = l := by
  obtain ⟨e0, e1, hris⟩ := rightB_rising h
  have hl := risingB_len hris
  exact read_text h (by omega) (fun x hx => by have := risingB_range hris x hx; omega) (by omega) (by omega)
theorem textS_right {e : Int} {l : List Int} (h : rightB e l = true) : textS e l = ⟨(textP e l).toArray⟩ := by rw [textS, if_pos h]
theorem textE_right {e : Int} {l : List Int} (h : rightB e l = true) : textE e l = 0 := by rw [textE, if_pos h]
theorem textE_wrong {e : Int} {l : List Int} (h : rightB e l = false) : textE e l = 1 := by rw [textE, if_neg (by simp [h])]
theorem text_unlike {e e' : Int} {l l' : List Int} (h : rightB e l = true) (h' : rightB e' l' = true) (hne : ¬ (e = e' ∧ l = l')) : ¬ textS e l = textS e' l' := fun hc => by
  rw [textS_right h, textS_right h'] at hc
  have hp : textP e l = textP e' l' := by simpa using hc
  obtain ⟨_, a1, a2⟩ := right_back h
  obtain ⟨_, b1, b2⟩ := right_back h'
  exact hne ⟨by rw [← a1, hp, b1], by rw [← a2, hp, b2]⟩
/-- What was told is read. -/
theorem read_told {e : Int} {l : List Int} (h : rightB e l = true) (w : World) :
    Calls Try.prog 32 #[.string (textS e l)] w fun r w' => ∃ a n c, r = .returned (.tuple #[.agg #[.int .i64 e, .slice a n c], .int .i64 0]) ∧ IntsAt w' a n l ∧ Below w.heap.size w w' := by
  obtain ⟨e0, e1, hris⟩ := rightB_rising h
  have hl := risingB_len hris
  obtain ⟨h1, h2, h3⟩ := right_back h
  have hd : (textS e l).data.toList = textP e l := by rw [textS_right h]
  refine (read_conf (textS e l) w ?_).mono ?_
  · have : (textS e l).size = (textP e l).length := by rw [textS_right h]; simp [ByteArray.size]
    rw [this, textP_len]; omega
  · rintro r w' ⟨a, n, c, hr, hi, hb⟩
    rw [hd, h2, readC_yes h1] at hr
    rw [hd, h3] at hi
    exact ⟨a, n, c, hr, hi, hb⟩
/-- What is read is told. -/
theorem told_read {t : List UInt8} (h : okB t = true) : rightB (readE t) (readL t) = true ∧ textS (readE t) (readL t) = ⟨t.toArray⟩ := by
  obtain ⟨_, h2, h3, h4, h5⟩ := prog_ok h
  rw [h4, h5]
  exact ⟨h2, by rw [textS_right h2, h3]⟩

set_option maxHeartbeats 2000000 in
theorem walk (w : World) (pa : Int) (a : Option Addr) (n c : Nat) (la : List Int) (hpa : i64 pa) (hIa : IntsAt w a n la) (hca : (a = none → c = 0) ∧ n ≤ c ∧ c * 8 ≤ 140737488351232)
    (pb : Int) (b : Option Addr) (m d : Nat) (lb : List Int) (hpb : i64 pb) (hIb : IntsAt w b m lb) (hcb : (b = none → d = 0) ∧ m ≤ d ∧ d * 8 ≤ 140737488351232) (text : ByteArray) (hts : text.size ≤ 140737488351232) :
    Calls Try.prog 10 #[.agg #[.int .i64 pa, .slice a n c], .agg #[.int .i64 pb, .slice b m d], .string text] w fun e w' => e = .returned (.bool true) ∧ Below w.heap.size w w' := by
  have HA := Lib.hid ((hIa.alloc (.cells #[.int .i64 pa, .slice a n c] 30)).alloc (.cells #[.int .i64 pb, .slice b m d] 30))
  have HB := Lib.hid ((hIb.alloc (.cells #[.int .i64 pa, .slice a n c] 30)).alloc (.cells #[.int .i64 pb, .slice b m d] 30))
  have C1 := Lib.hid (fun w' => read_conf text w' hts)
  clear hIa hIb hts hca hcb hpa hpb
  have hsz : (w.alloc (.cells #[.int .i64 pa, .slice a n c] 30)).heap.size = w.heap.size + 1 := by simp
  have ba := blk_below (blk_alloc w (.cells #[.int .i64 pa, .slice a n c] 30 (0, 0))) (below_alloc _ (.cells #[.int .i64 pb, .slice b m d] 30 (0, 0)))
  have bb := blk_alloc (w.alloc (.cells #[.int .i64 pa, .slice a n c] 30 (0, 0))) (.cells #[.int .i64 pb, .slice b m d] 30 (0, 0))
  rw [hsz] at bb
  replace ba := Lib.hid ba; replace bb := Lib.hid bb
  have B := Lib.hid (balloc (below_alloc w (.cells #[.int .i64 pa, .slice a n c] 30 (0, 0))) (.cells #[.int .i64 pb, .slice b m d] 30 (0, 0)))
  clear hsz
  go_enter Try.func10, Try.ntmps10
  go_wp2_with fail
  generalize hw0 : (w.alloc (.cells #[.int .i64 pa, .slice a n c] 30 (0, 0))).alloc (.cells #[.int .i64 pb, .slice b m d] 30 (0, 0)) = w0 at *
  clear hw0
  refine (lives_any _).mono ?_
  rintro e w1 ⟨rfl, b1⟩
  replace HA := Lib.hid (HA.out.below b1); replace HB := Lib.hid (HB.out.below b1); replace ba := Lib.hid (blk_below ba.out b1); replace bb := Lib.hid (blk_below bb.out b1)
  replace B := Lib.hid (bthen B.out b1); clear b1
  have x0 : w1.cell? ⟨w.heap.size, 0, none⟩ = some (.int .i64 pa) := by rw [blk_cell ba.out]; rfl
  have x1 : w1.cell? ⟨w.heap.size, 1, none⟩ = some (.slice a n c) := by rw [blk_cell ba.out]; rfl
  go_wp2_with fail
  refine (text_any pa a n c la _ HA.out).mono ?_
  rintro e w2 ⟨rfl, b1⟩
  replace HA := Lib.hid (HA.out.below b1); replace HB := Lib.hid (HB.out.below b1); replace ba := Lib.hid (blk_below ba.out b1); replace bb := Lib.hid (blk_below bb.out b1)
  replace B := Lib.hid (bthen B.out b1); clear b1 x0 x1
  have y0 : w2.cell? ⟨w.heap.size + 1, 0, none⟩ = some (.int .i64 pb) := by rw [blk_cell bb.out]; rfl
  have y1 : w2.cell? ⟨w.heap.size + 1, 1, none⟩ = some (.slice b m d) := by rw [blk_cell bb.out]; rfl
  go_wp2_with fail
  refine (text_any pb b m d lb _ HB.out).mono ?_
  rintro e w3 ⟨rfl, b1⟩
  replace HA := Lib.hid (HA.out.below b1); replace HB := Lib.hid (HB.out.below b1); replace ba := Lib.hid (blk_below ba.out b1); replace bb := Lib.hid (blk_below bb.out b1)
  replace B := Lib.hid (bthen B.out b1); clear b1 y0 y1
  have x0 : w3.cell? ⟨w.heap.size, 0, none⟩ = some (.int .i64 pa) := by rw [blk_cell ba.out]; rfl
  have x1 : w3.cell? ⟨w.heap.size, 1, none⟩ = some (.slice a n c) := by rw [blk_cell ba.out]; rfl
  have CR := right_any pa a n c la w3 HA.out
  cases hra : rightB pa la
  case' false =>
    rw [textE_wrong hra]
    rw [hra] at CR
    replace CR := Lib.hid CR
    generalize textS pa la = S
    generalize textS pb lb = T
    generalize textE pb lb = F
    clear hra
    go_wp2_with fail
    refine CR.out.mono ?_
    rintro e w4 ⟨rfl, b1⟩
    replace B := Lib.hid (bthen B.out b1); clear b1 x0 x1 CR HA HB ba bb
    go_wp2_with fail
  case' true =>
    rw [textE_right hra]
    have CT := Lib.hid (fun w' => read_told hra w')
    rw [hra] at CR
    replace CR := Lib.hid CR
    cases hrb : rightB pb lb
    case' false =>
      rw [textE_wrong hrb]
      generalize textS pa la = S at *
      generalize textS pb lb = T at *
      clear hra hrb
      go_wp2_with fail
      refine CR.out.mono ?_
      rintro e w4 ⟨rfl, b1⟩
      replace HA := Lib.hid (HA.out.below b1); replace HB := Lib.hid (HB.out.below b1); replace ba := Lib.hid (blk_below ba.out b1); replace bb := Lib.hid (blk_below bb.out b1)
      replace B := Lib.hid (bthen B.out b1); clear b1 x0 x1 CR
      have x0 : w4.cell? ⟨w.heap.size, 0, none⟩ = some (.int .i64 pa) := by rw [blk_cell ba.out]; rfl
      have x1 : w4.cell? ⟨w.heap.size, 1, none⟩ = some (.slice a n c) := by rw [blk_cell ba.out]; rfl
      clear HB bb x0 x1
      go_wp2_with fail
    case' true =>
      rw [textE_right hrb]
      by_cases heq : pa = pb ∧ la = lb
      case' pos =>
        obtain ⟨rfl, rfl⟩ := heq
        generalize textS pa la = S at *
        clear hra hrb
        go_wp2_with fail
        refine CR.out.mono ?_
        rintro e w4 ⟨rfl, b1⟩
        replace HA := Lib.hid (HA.out.below b1); replace HB := Lib.hid (HB.out.below b1); replace ba := Lib.hid (blk_below ba.out b1); replace bb := Lib.hid (blk_below bb.out b1)
        replace B := Lib.hid (bthen B.out b1); clear b1 x0 x1 CR
        have x0 : w4.cell? ⟨w.heap.size, 0, none⟩ = some (.int .i64 pa) := by rw [blk_cell ba.out]; rfl
        have x1 : w4.cell? ⟨w.heap.size, 1, none⟩ = some (.slice a n c) := by rw [blk_cell ba.out]; rfl
        have y0 : w4.cell? ⟨w.heap.size + 1, 0, none⟩ = some (.int .i64 pa) := by rw [blk_cell bb.out]; rfl
        have y1 : w4.cell? ⟨w.heap.size + 1, 1, none⟩ = some (.slice b m d) := by rw [blk_cell bb.out]; rfl
        have CS := sameints_any a n c la b m d la w4 HA.out HB.out
        rw [beq_self_eq_true] at CS
        replace CS := Lib.hid CS
        go_wp2_with fail
        refine CS.out.mono ?_
        rintro e w5 ⟨rfl, q5, rfl⟩
        have b1 := below_drewN (Below.refl w4.heap.size w4) q5
        replace HA := Lib.hid (HA.out.below b1); replace ba := Lib.hid (blk_below ba.out b1)
        replace B := Lib.hid (bthen B.out b1); clear b1 x0 x1 y0 y1 CS HB bb
        go_wp2_with fail
        generalize w4.drewN q5 = w5 at *
      case' neg =>
        have hne2 := str_ne (text_unlike hra hrb heq)
        by_cases hpp : pa = pb
        case' pos =>
          subst hpp
          have hll : (la == lb) = false := by
            cases hc : (la == lb) with
            | false => rfl
            | true => exact absurd ⟨rfl, by simpa using hc⟩ heq
          generalize textS pa la = S at *
          generalize textS pa lb = T at *
          clear hra hrb heq
          go_wp2_with fail
          refine CR.out.mono ?_
          rintro e w4 ⟨rfl, b1⟩
          replace HA := Lib.hid (HA.out.below b1); replace HB := Lib.hid (HB.out.below b1); replace ba := Lib.hid (blk_below ba.out b1); replace bb := Lib.hid (blk_below bb.out b1)
          replace B := Lib.hid (bthen B.out b1); clear b1 x0 x1 CR
          have x0 : w4.cell? ⟨w.heap.size, 0, none⟩ = some (.int .i64 pa) := by rw [blk_cell ba.out]; rfl
          have x1 : w4.cell? ⟨w.heap.size, 1, none⟩ = some (.slice a n c) := by rw [blk_cell ba.out]; rfl
          have y0 : w4.cell? ⟨w.heap.size + 1, 0, none⟩ = some (.int .i64 pa) := by rw [blk_cell bb.out]; rfl
          have y1 : w4.cell? ⟨w.heap.size + 1, 1, none⟩ = some (.slice b m d) := by rw [blk_cell bb.out]; rfl
          have CS := sameints_any a n c la b m d lb w4 HA.out HB.out
          rw [hll] at CS
          replace CS := Lib.hid CS
          go_wp2_with fail
          refine CS.out.mono ?_
          rintro e w5 ⟨rfl, q5, rfl⟩
          have b1 := below_drewN (Below.refl w4.heap.size w4) q5
          replace HA := Lib.hid (HA.out.below b1); replace ba := Lib.hid (blk_below ba.out b1)
          replace B := Lib.hid (bthen B.out b1); clear b1 x0 x1 y0 y1 CS HB bb
          go_wp2_with fail
          generalize w4.drewN q5 = w5 at *
        case' neg =>
          have hpp2 : (pa == pb) = false := by simpa using hpp
          generalize textS pa la = S at *
          generalize textS pb lb = T at *
          clear hra hrb heq
          go_wp2_with fail
          refine CR.out.mono ?_
          rintro e w4 ⟨rfl, b1⟩
          replace HA := Lib.hid (HA.out.below b1); replace HB := Lib.hid (HB.out.below b1); replace ba := Lib.hid (blk_below ba.out b1); replace bb := Lib.hid (blk_below bb.out b1)
          replace B := Lib.hid (bthen B.out b1); clear b1 x0 x1 CR
          have x0 : w4.cell? ⟨w.heap.size, 0, none⟩ = some (.int .i64 pa) := by rw [blk_cell ba.out]; rfl
          have x1 : w4.cell? ⟨w.heap.size, 1, none⟩ = some (.slice a n c) := by rw [blk_cell ba.out]; rfl
          have y0 : w4.cell? ⟨w.heap.size + 1, 0, none⟩ = some (.int .i64 pb) := by rw [blk_cell bb.out]; rfl
          have y1 : w4.cell? ⟨w.heap.size + 1, 1, none⟩ = some (.slice b m d) := by rw [blk_cell bb.out]; rfl
          go_wp2_with fail
          clear HB bb x0 x1 y0 y1
    all_goals
      refine (CT.out _).mono ?_
      rintro e w6 ⟨a6, n6, c6, rfl, h6, b6⟩
      clear CT
      have b7 := bthen b6 (below_alloc w6 (.cells #[.int .i64 pa, .slice a6 n6 c6] 30))
      replace HA := HA.out.below b7; replace ba := blk_below ba.out b7
      replace h6 := h6.alloc (.cells #[.int .i64 pa, .slice a6 n6 c6] 30)
      replace B := Lib.hid (bthen B.out b7); clear b6 b7
      have x0 : (w6.alloc (.cells #[.int .i64 pa, .slice a6 n6 c6] 30)).cell? ⟨w.heap.size, 0, none⟩ = some (.int .i64 pa) := by rw [blk_cell ba]; rfl
      have x1 : (w6.alloc (.cells #[.int .i64 pa, .slice a6 n6 c6] 30)).cell? ⟨w.heap.size, 1, none⟩ = some (.slice a n c) := by rw [blk_cell ba]; rfl
      have CS := sameints_any a6 n6 c6 la a n c la _ h6 HA
      rw [beq_self_eq_true] at CS
      replace CS := Lib.hid CS
      clear HA ba h6
      go_wp2_with fail
      refine CS.out.mono ?_
      rintro e w7 ⟨rfl, q7, rfl⟩
      replace B := Lib.hid (below_drewN B.out q7); clear CS x0 x1
      go_wp2_with fail
  all_goals
    refine (C1.out _).mono ?_
    rintro e w8 ⟨a8, n8, c8, rfl, h8, b8⟩
    replace B := Lib.hid (bthen B.out b8); clear b8 C1
    replace h8 := Lib.hid (h8.alloc (.cells #[.int .i64 (readE text.data.toList), .slice a8 n8 c8] 30))
    cases hok : okB text.data.toList
    case' false =>
      rw [readC_no hok]
      generalize readE text.data.toList = E8 at *
      clear h8 hok
      go_wp2_with fail
      go_ret
      exact ⟨rfl, balloc B.out _⟩
    case' true =>
      obtain ⟨hr8, hs8⟩ := told_read hok
      have he8 := textE_right hr8
      rw [readC_yes hok]
      generalize readE text.data.toList = E8 at *
      generalize readL text.data.toList = L8 at *
      have CX := text_any E8 a8 n8 c8 L8 _ h8.out
      rw [hs8, he8] at CX
      have CY := fun w' hb => right_any E8 a8 n8 c8 L8 w' (h8.out.below hb)
      rw [hr8] at CY
      replace CX := Lib.hid CX; replace CY := Lib.hid CY
      clear h8 hok hr8 hs8 he8
      go_wp2_with fail
      refine CX.out.mono ?_
      rintro e w9 ⟨rfl, b9⟩
      have z0 := below_cell b9 (b := w8.heap.size) (o := 0) (v := .int .i64 E8) (by simp)
      have z1 := below_cell b9 (b := w8.heap.size) (o := 1) (v := .slice a8 n8 c8) (by simp)
      go_wp2_with fail
      refine (CY.out _ b9).mono ?_
      rintro e w10 ⟨rfl, b10⟩
      go_wp2_with fail
      go_ret
      exact ⟨rfl, bthen (bthen (balloc B.out _) b9) b10⟩

set_option maxRecDepth 100000 in
theorem lifted (os : Os) (started : os.Started) (H : Type) (enc : TypeId × Value → H) :
    ReturnsInHanded {} Try.checked os 10 .any (Rows.councilReadsSpec.pre6 enc Try.prog Try.f10 Rows.councilReadsRow.domain false) (Rows.councilReadsSpec.post enc Try.prog Try.f10 false true false false) := by
  refine returnsInHanded_of_change_sized (C := Try.checked) own started (by kernel_rfl) Try.func10
    (ChangeSpec.witness6 (enc := enc) (C := Try.checked) false ⟨#[], #[.agg #[.int .i64 0, .slice none 0 0], .agg #[.int .i64 0, .slice none 0 0], .string ⟨#[]⟩], []⟩ 8 (by kernel_rfl) (by kernel_rfl) (by kernel_rfl) (by kernel_rfl)) ?_
  intro W base args ds gs before hval0 hW hcnd hsz _
  have hval : ∀ (j : Nat) t v, Try.f10.params[j]? = some t → args[j]? = some v → Value.okWide Try.prog W .any base t v := hval0
  have hW' := hW
  obtain ⟨p, q, hA0, hV, rfl, hfz, hnd⟩ := hW
  have hA : DataW.TrodAll enc Try.prog W 0 (fun _ => true) true Try.f10.params.toList args.toList ds p := hA0
  rw [Try.params10] at hA hval hsz
  have hA2 := hA
  obtain ⟨v0, vs0, d0, ds0, p0, q0, hargs, rfl, rfl, h0, r0⟩ := trodAll_cons hA
  obtain ⟨v1, vs1, d1, ds1, p1, q1, rfl, rfl, rfl, h1, r1⟩ := trodAll_cons r0
  obtain ⟨v2, vs2, d2, ds2, p2, q2, rfl, rfl, rfl, h2, r2⟩ := trodAll_cons r1
  obtain ⟨rfl, rfl, rfl⟩ := trodAll_nil r2
  obtain rfl : args = #[v0, v1, v2] := by cases args; simp_all
  obtain ⟨rfl, rfl⟩ := trodVars_none hV
  clear hargs
  have k0 := hval 0 30 v0 rfl rfl
  obtain ⟨fu0, m0⟩ := h0
  have w0 := weights_of hsz (j := 0) (t := 30) rfl rfl
  have s0 := cells_agg Try.underlying30 k0
  obtain ⟨p0, a0, n0, c0, l0, e0, g0, f0⟩ := view_conf Try.underlying30 rfl rfl (by kernel_rfl) (by kernel_rfl) (by kernel_rfl) Try.underlying3 Try.underlying28 Try.underlying3 (by kernel_rfl) (by kernel_rfl) m0 w0
  obtain ⟨z0, s01, s02⟩ := s0
  have e0' := agg_of ⟨s01, s02⟩ e0
  subst e0'
  have k1 := hval 1 30 v1 rfl rfl
  obtain ⟨fu1, m1⟩ := h1
  have w1 := weights_of hsz (j := 1) (t := 30) rfl rfl
  have s1 := cells_agg Try.underlying30 k1
  obtain ⟨p1, a1, n1, c1, l1, e1, g1, f1⟩ := view_conf Try.underlying30 rfl rfl (by kernel_rfl) (by kernel_rfl) (by kernel_rfl) Try.underlying3 Try.underlying28 Try.underlying3 (by kernel_rfl) (by kernel_rfl) m1 w1
  obtain ⟨z1, s11, s12⟩ := s1
  have e1' := agg_of ⟨s11, s12⟩ e1
  subst e1'
  have k2 := hval 2 9 v2 rfl rfl
  obtain ⟨fu2, m2⟩ := h2
  have w2 := weights_of hsz (j := 2) (t := 9) rfl rfl
  obtain ⟨a2, e2, f2⟩ := view_string Try.underlying9 m2 w2
  have e2' := string_of Try.underlying9 k2 e2
  subst e2'
  refine (walk W p0 a0 n0 c0 l0 g0 f0.1 f0.2 p1 a1 n1 c1 l1 g1 f1.1 f1.2 a2 f2).mono fun e W' ⟨he, bel⟩ => ?_
  subst he
  exact ⟨_, rfl, _, _, _, [], _, [], hW', trodAll_mk1 (shut_bool Try.underlying4 _), trodAll_again laidOut bel (by kernel_rfl) hA2, rfl, bel.frame _, fun h => by cases h⟩

theorem over : Rows.councilReadsRow.holds Try.pinned (OpenSpec.ofChange Rows.councilReadsSpec) :=
  OpenClaim.holds_of_wide 10 Try.f10 rfl rfl rfl rfl rfl rfl rfl ⟨rfl, rfl, rfl, rfl, rfl⟩ rfl rfl rfl rfl rfl (by kernel_rfl) Try.func10 (by kernel_rfl)
    (of_decide_eq_true (by kernel_rfl)) (by unfold Func.isWrapper; first | (rw [if_pos (by decide +kernel)]; kernel_rfl) | (rw [if_neg (by decide +kernel)]; exact ⟨rfl, rfl⟩))
    (fun os started H enc _ => lifted os started H enc)

theorem proved : Rows.CouncilReadsSaid := over
#print axioms proved
end Go.Proofs.Ytgkcgfckhmplaaa.councilReads
