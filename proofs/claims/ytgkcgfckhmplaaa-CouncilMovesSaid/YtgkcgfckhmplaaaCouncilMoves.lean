/- CouncilMoves: who joins and who leaves, or why not, is what the document says; the list stays, and what is answered is new memory: for every input the law returns true, and its arguments read as before. No condition. -/
import Derived.Test.YtgkcgfckhmplaaaLift
import Derived.Test.YtgkcgfckhmplaaaJoW5
namespace Go.Proofs.Ytgkcgfckhmplaaa.councilMoves
open Go.ChangeShapes Go.WideShapes Go.ChangeAt Go.RowKit
set_option linter.unusedVariables false

/-- One contract for both ways of each function. -/
theorem join_any (a : Option Addr) (n c : Nat) (l : List Int) (id : Int) (w : World) (h : IntsAt w a n l) (hc : n ≤ c) (hid : i64 id) :
    Calls Try.prog 25 #[.slice a n c, .int .i64 id] w (MovePost w (joinP l id) (joinE l id)) := by
  by_cases he : joinE l id = 0
  · rw [he]; exact join_yes a n c l id w h hc hid he
  · rw [joinP_no he]; exact join_no a n c l id w h hid he
theorem rjoin_any (a : Option Addr) (n c : Nat) (l : List Int) (id : Int) (w : World) (h : IntsAt w a n l) (hid : i64 id) :
    Calls Try.prog 26 #[.slice a n c, .int .i64 id] w (MovePost w (joinP l id) (joinE l id)) := by
  by_cases he : joinE l id = 0
  · rw [he]; exact rjoin_yes a n c l id w h hid he
  · rw [joinP_no he]; exact rjoin_no a n c l id w h hid he
theorem leave_any (a : Option Addr) (n c : Nat) (l : List Int) (id : Int) (w : World) (h : IntsAt w a n l) (hc : n ≤ c) (hid : i64 id) :
    Calls Try.prog 27 #[.slice a n c, .int .i64 id] w (MovePost w (leaveP l id) (leaveE l id)) := by
  by_cases he : leaveE l id = 0
  · rw [he]; exact leave_yes a n c l id w h hc hid he
  · rw [leaveP_no he]; exact leave_no a n c l id w h hid he
theorem rleave_any (a : Option Addr) (n c : Nat) (l : List Int) (id : Int) (w : World) (h : IntsAt w a n l) (hid : i64 id) :
    Calls Try.prog 28 #[.slice a n c, .int .i64 id] w (MovePost w (leaveP l id) (leaveE l id)) := by
  by_cases he : leaveE l id = 0
  · rw [he]; exact rleave_yes a n c l id w h hid he
  · rw [leaveP_no he]; exact rleave_no a n c l id w h hid he

theorem joinP_fit {l : List Int} {id : Int} (hl : ∀ x ∈ l, i64 x) (hid : i64 id) : (∀ x ∈ joinP l id, i64 x) ∧ (joinP l id).length ≤ 11 := by
  by_cases he : joinE l id = 0
  · have h2 := (joinE_0 he).2.2
    refine ⟨fun x hx => ?_, ?_⟩
    · rcases (joinP_mem he x).1 hx with rfl | hx
      · exact hid
      · exact hl x hx
    · rw [joinP_ok he]; simp; omega
  · rw [joinP_no he]; exact ⟨fun x hx => by (cases hx), by simp⟩
theorem leaveP_fit {l : List Int} {id : Int} (hl : ∀ x ∈ l, i64 x) : (∀ x ∈ leaveP l id, i64 x) ∧ (leaveP l id).length ≤ 11 := by
  by_cases he : leaveE l id = 0
  · have h2 := risingB_len (fitsB_ris (leaveE_0 he).1).1
    refine ⟨fun x hx => ?_, ?_⟩
    · rw [← dropP_leave he] at hx
      exact hl x (List.mem_filter.1 hx).1
    · rw [leaveP_ok he]; simp; omega
  · rw [leaveP_no he]; exact ⟨fun x hx => by (cases hx), by simp⟩

/-- What is answered, opened. -/
theorem move_open {w : World} {l : List Int} {err : Int} {e : Ending} {w' : World} (h : MovePost w l err e w') (hf : (∀ x ∈ l, i64 x) ∧ l.length ≤ 11) :
    ∃ ao c, e = .returned (.tuple #[.slice ao l.length c, .int .i64 err]) ∧ IntsAt w' ao l.length l ∧ OwnW w' 3 w.heap.size ao l.length ∧ Below w.heap.size w w' := by
  obtain ⟨v, rfl, ho, hb⟩ := h
  obtain ⟨ao, c, rfl, hi⟩ := owns_ints ho hf.1 (by have := hf.2; omega)
  exact ⟨ao, c, rfl, hi, owns_ownw ho, hb⟩

set_option maxHeartbeats 1000000 in
theorem walk (w : World) (a : Option Addr) (n c : Nat) (l : List Int) (hI : IntsAt w a n l) (hc : (a = none → c = 0) ∧ n ≤ c ∧ c * 8 ≤ 140737488351232) (id : Int) (hid : i64 id) :
    Calls Try.prog 7 #[.slice a n c, .int .i64 id] w fun e w' => e = .returned (.bool true) ∧ Below w.heap.size w w' := by
  have hlen := hI.len
  have Hfit := Lib.hid hI.fit
  have H := Lib.hid hI; clear hI
  obtain ⟨ii, hi, hz0, hz1, hz2⟩ := info_parts info_int
  obtain ⟨hc0, hc1, hc2⟩ := hc
  have Hc0 := Lib.hid hc0
  have Hlen := Lib.hid hlen
  have Hid' := Lib.hid hid
  clear hc0 hlen hid
  go_enter Try.func7, Try.ntmps7
  go_wp2_with fail
  refine (lives_any _).mono ?_
  rintro e w1 ⟨rfl, b1⟩
  go_wp2_with (refine wpList_append_any _ rfl (.const (.slice none 0 0)) (.tmp 18) 28 rfl w.heap.size 3 ii (.int .i64 0) 1 8 Try.underlying28 hi hz0 hz1 hz2 rfl (by decide) _ 0 [] rfl (World.ownsRow_nil _ _ _ _) a n c (intsV l) rfl ?c1 ?c2 ?c3 (intsV_one l) ?c4 ?c5 ?c6 ?_)
  case c1 => rw [intsV_len, Hlen.out]; simp
  case c2 => intro h; have := Hc0.out h; omega
  case c3 =>
    intro ad had j u hj
    have hjl : j < l.length := by have := (List.getElem?_eq_some_iff.1 hj).1; rwa [intsV_len] at this
    obtain ⟨b, o, hab, hcell⟩ := (H.out.below b1).cell j (by rw [← Hlen.out]; exact hjl)
    rw [had] at hab
    obtain rfl := Option.some.inj hab
    rw [Addr.add_lit, hcell, ← hj]
    simp [intsV, List.getD, hjl]
  case c4 => simp only [maxLen]; omega
  case c5 => omega
  case c6 => exact b1.size
  intro v1 w2 hown1 hgr1 _
  have hb2 : Below w.heap.size w w2 := b1.grown hgr1 b1.size (fun k hk => by (simp [Value.ownBlock] at hk))
  have Hb2 := Lib.hid hb2; have Hown1 := Lib.hid hown1
  clear hown1 hgr1 b1 hb2
  go_wp2_with (at_builtin; refine wpList_append_own _ rfl (.tmp 19) (.tmp 20) 28 rfl w.heap.size 3 ii (.int .i64 0) 1 8 Try.underlying28 hi hz0 hz1 hz2 rfl (by decide) _ n (intsV l) rfl (Hown1.out.alloc _) ⟨w2.heap.size, 0, none⟩ 1 1 [.int .i64 (-7)] rfl rfl ?d1 ?d2 ?d3 ?d4 ?d5 ?_)
  case d1 => exact cell_one_new _ _ _
  case d2 => simp [Value.oneCell']
  case d3 => simp only [maxLen]; omega
  case d4 => omega
  case d5 => have := Hb2.out.size; simp; omega
  intro v2 w3 hown2 hgr2 _
  have hb3 : Below w.heap.size w w3 := (balloc Hb2.out _).grown hgr2 (by have := Hb2.out.size; simp; omega) (fun k hk => (Hown1.out.lt k hk).1)
  clear Hown1 Hb2 hgr2
  have hex : ∃ g cap, v2 = .slice (some ⟨g, 0, none⟩) (n + 1) cap ∧ w.heap.size ≤ g ∧ g < w3.heap.size ∧ n + 1 ≤ cap ∧ (∀ j u, (intsV l ++ [.int .i64 (-7)])[j]? = some u → w3.cell? ⟨g, j, none⟩ = some u) := by
    rcases hown2.2 with ⟨_, h0⟩ | ⟨g, cap, cur, rfl, hB, hg, hn, _, _, _⟩
    · omega
    · exact ⟨g, cap, rfl, hB, blk_lt hg, hn, fun j u hj => by have := hown2.cells (g := g) rfl j u hj; rwa [Addr.add_lit, Nat.zero_add] at this⟩
  obtain ⟨g, cap, hv2, hg0, hg1, hcap, hcells⟩ := hex
  rw [hv2]
  have hown : IntsAt w3 (some ⟨g, 0, none⟩) n l := ⟨Hlen.out, by omega, fun i hi => ⟨g, 0, rfl, by
    rw [Nat.zero_add]
    refine hcells i _ ?_
    have hil : i < l.length := by rw [Hlen.out]; exact hi
    rw [List.getElem?_append_left (by rw [intsV_len]; exact hil)]
    simp [intsV, List.getD, hil]⟩, Hfit.out⟩
  have hlast : w3.cell? ⟨g, n, none⟩ = some (.int .i64 (-7)) := hcells n _ (by
    rw [List.getElem?_append_right (by rw [intsV_len, Hlen.out]; exact Nat.le_refl _), intsV_len, Hlen.out]; simp)
  have Hown := Lib.hid hown; have Hlast := Lib.hid hlast; have Hb3 := Lib.hid hb3
  clear hown hlast hb3 hcells hown2 hv2
  go_wp2_with fail
  refine (join_any _ n cap l id _ Hown.out (by omega) Hid'.out).mono ?_
  intro e w4 hpost
  obtain ⟨ao, ca, rfl, hia, hwa, b4⟩ := move_open hpost (joinP_fit Hfit.out Hid'.out)
  have hz3 := b4.size
  replace Hown := Lib.hid (Hown.out.below b4); replace Hlast := Lib.hid (below_cell b4 Hlast.out); replace Hb3 := Lib.hid (bthen Hb3.out b4)
  have Hia := Lib.hid hia; have Hwa := Lib.hid hwa; clear hpost hia hwa b4
  go_wp2_with fail
  refine (rjoin_any a n c l id _ (H.out.below Hb3.out) Hid'.out).mono ?_
  intro e w5 hpost
  obtain ⟨bo, cb, rfl, hib, _, b5⟩ := move_open hpost (joinP_fit Hfit.out Hid'.out)
  have hz4 := b5.size
  replace Hown := Lib.hid (Hown.out.below b5); replace Hlast := Lib.hid (below_cell b5 Hlast.out); replace Hb3 := Lib.hid (bthen Hb3.out b5)
  replace Hia := Lib.hid (Hia.out.below b5); replace Hwa := Lib.hid (ownw_below Hwa.out b5)
  have Hib := Lib.hid hib; clear hpost hib b5
  have hfitA := joinP_fit (l := l) (id := id) Hfit.out Hid'.out
  generalize joinP l id = la at *
  generalize joinE l id = ea at *
  have HlenA := Lib.hid (rfl : la.length = la.length)
  have hna := hfitA.2
  generalize la.length = na at *
  clear hfitA
  go_wp2_with fail
  refine (leave_any _ n cap l id _ Hown.out (by omega) Hid'.out).mono ?_
  intro e w6 hpost
  obtain ⟨co, cc, rfl, hic, hwc, b6⟩ := move_open hpost (leaveP_fit Hfit.out)
  have hz5 := b6.size
  replace Hown := Lib.hid (Hown.out.below b6); replace Hlast := Lib.hid (below_cell b6 Hlast.out); replace Hb3 := Lib.hid (bthen Hb3.out b6)
  replace Hia := Lib.hid (Hia.out.below b6); replace Hwa := Lib.hid (ownw_below Hwa.out b6); replace Hib := Lib.hid (Hib.out.below b6)
  have Hic := Lib.hid hic; have Hwc := Lib.hid hwc; clear hpost hic hwc b6
  go_wp2_with fail
  refine (rleave_any a n c l id _ (H.out.below Hb3.out) Hid'.out).mono ?_
  intro e w7 hpost
  obtain ⟨dd, cd, rfl, hid, _, b7⟩ := move_open hpost (leaveP_fit Hfit.out)
  replace Hown := Lib.hid (Hown.out.below b7); replace Hlast := Lib.hid (below_cell b7 Hlast.out); replace Hb3 := Lib.hid (bthen Hb3.out b7)
  replace Hia := Lib.hid (Hia.out.below b7); replace Hwa := Lib.hid (ownw_below Hwa.out b7); replace Hib := Lib.hid (Hib.out.below b7)
  replace Hic := Lib.hid (Hic.out.below b7); replace Hwc := Lib.hid (ownw_below Hwc.out b7)
  have HidD := Lib.hid hid; clear hpost hid b7
  have hfitC := leaveP_fit (l := l) (id := id) Hfit.out
  generalize leaveP l id = lc at *
  generalize leaveE l id = ec at *
  have hnc := hfitC.2
  generalize lc.length = nc at *
  clear hfitC
  go_wp2_with fail
  have CS := sameints_any ao na ca la bo na cb la w7 Hia.out Hib.out
  rw [beq_self_eq_true] at CS
  refine CS.mono ?_
  clear CS
  rintro e w8 ⟨rfl, q8, rfl⟩
  have CS := sameints_any co nc cc lc dd nc cd lc (w7.drewN q8) (Hic.out.below (below_drewN (Below.refl _ _) _)) (HidD.out.below (below_drewN (Below.refl _ _) _))
  rw [beq_self_eq_true] at CS
  replace CS := Lib.hid CS
  go_wp2_with fail
  refine CS.out.mono ?_
  clear CS
  rintro e w8 ⟨rfl, q9, rfl⟩
  go_wp2_with fail
  go_loopw [14] (fun i wr => ∃ k : Nat, k ≤ na ∧ i = .int .i64 k ∧ Hid (Below w.heap.size w wr) ∧ Hid (OwnW wr 3 w3.heap.size ao na) ∧ Hid (OwnW wr 3 w5.heap.size co nc) ∧ Hid (IntsAt wr (some ⟨g, 0, none⟩) n l) ∧ Hid (wr.cell? ⟨g, n, none⟩ = some (.int .i64 (-7)))) (fun i _ => na - (intOf i).toNat)
  case atStart => exact ⟨0, by omega, rfl, Lib.hid (below_drewN Hb3.out _), Lib.hid (ownw_below Hwa.out (below_drewN (Below.refl _ _) _)), Lib.hid (ownw_below Hwc.out (below_drewN (Below.refl _ _) _)), Lib.hid (Hown.out.below (below_drewN (Below.refl _ _) _)), Lib.hid Hlast.out⟩
  case round =>
    clear Hown Hlast Hb3 Hia Hwa Hib Hic Hwc HidD
    obtain ⟨k, hk, rfl, HB, HA, HC, HO, HL⟩ := hrel
    by_cases hlt : k < na
    · obtain ⟨ga, cur, v, rfl, hga, hcell, hfr, _⟩ := ownw_at HA.out k hlt
      go_wp2_with fail
      go_roundw
      case rel => exact ⟨k + 1, by omega, by go_num, Lib.hid (HB.out.setCell (p := ⟨ga, k, none⟩) (by show w.heap.size ≤ ga; omega) _), Lib.hid (ownw_set HA.out ga k _), Lib.hid (ownw_set HC.out ga k _), Lib.hid (ints_set_other HO.out _ _ _ (by omega)), Lib.hid (cell_set_other HL.out _ _ _ (by omega))⟩
      case measure => simp [intOf]; omega
    · clear HA
      go_wp2_with fail
      obtain ⟨w9, hw9⟩ : ∃ w9, w9 = wr := ⟨_, rfl⟩
      subst hw9
      go_loopw [15] (fun i wr => ∃ k : Nat, k ≤ nc ∧ i = .int .i64 k ∧ Hid (Below w.heap.size w wr) ∧ Hid (OwnW wr 3 w5.heap.size co nc) ∧ Hid (IntsAt wr (some ⟨g, 0, none⟩) n l) ∧ Hid (wr.cell? ⟨g, n, none⟩ = some (.int .i64 (-7)))) (fun i _ => nc - (intOf i).toNat)
      case atStart => exact ⟨0, by omega, rfl, HB, HC, HO, HL⟩
      case round =>
        clear HB HC HO HL
        obtain ⟨k, hk, rfl, HB, HC, HO, HL⟩ := hrel
        by_cases hlt : k < nc
        · obtain ⟨gc, cur, v, rfl, hgc, hcell, hfr, _⟩ := ownw_at HC.out k hlt
          go_wp2_with fail
          go_roundw
          case rel => exact ⟨k + 1, by omega, by go_num, Lib.hid (HB.out.setCell (p := ⟨gc, k, none⟩) (by show w.heap.size ≤ gc; omega) _), Lib.hid (ownw_set HC.out gc k _), Lib.hid (ints_set_other HO.out _ _ _ (by omega)), Lib.hid (cell_set_other HL.out _ _ _ (by omega))⟩
          case measure => simp [intOf]; omega
        · have CS := sameints_any (some ⟨g, 0, none⟩) n cap l a n c l wr HO.out (H.out.below HB.out)
          rw [beq_self_eq_true] at CS
          replace CS := Lib.hid CS
          have hl := HL.out
          go_wp2_with fail
          refine CS.out.mono ?_
          clear CS
          rintro e w8 ⟨rfl, q9, rfl⟩
          go_wp2_with fail
          go_ret
          exact ⟨rfl, below_drewN HB.out _⟩

set_option maxRecDepth 100000 in
theorem lifted (os : Os) (started : os.Started) (H : Type) (enc : TypeId × Value → H) :
    ReturnsInHanded {} Try.checked os 7 .any (Rows.councilMovesSpec.pre6 enc Try.prog Try.f7 Rows.councilMovesRow.domain false) (Rows.councilMovesSpec.post enc Try.prog Try.f7 false true false false) := by
  refine returnsInHanded_of_change_sized (C := Try.checked) own started (by kernel_rfl) Try.func7
    (ChangeSpec.witness6 (enc := enc) (C := Try.checked) false ⟨#[], #[.slice none 0 0, .int .i64 0], []⟩ 8 (by kernel_rfl) (by kernel_rfl) (by kernel_rfl) (by kernel_rfl)) ?_
  intro W base args ds gs before hval0 hW hcnd hsz _
  have hval : ∀ (j : Nat) t v, Try.f7.params[j]? = some t → args[j]? = some v → Value.okWide Try.prog W .any base t v := hval0
  have hW' := hW
  obtain ⟨p, q, hA0, hV, rfl, hfz, hnd⟩ := hW
  have hA : DataW.TrodAll enc Try.prog W 0 (fun _ => true) true Try.f7.params.toList args.toList ds p := hA0
  rw [Try.params7] at hA hval hsz
  have hA2 := hA
  obtain ⟨v0, vs0, d0, ds0, p0, q0, hargs, rfl, rfl, h0, r0⟩ := trodAll_cons hA
  obtain ⟨v1, vs1, d1, ds1, p1, q1, rfl, rfl, rfl, h1, r1⟩ := trodAll_cons r0
  obtain ⟨rfl, rfl, rfl⟩ := trodAll_nil r1
  obtain rfl : args = #[v0, v1] := by cases args; simp_all
  obtain ⟨rfl, rfl⟩ := trodVars_none hV
  clear hargs
  have k0 := hval 0 28 v0 rfl rfl
  obtain ⟨fu0, m0⟩ := h0
  have w0 := weights_of hsz (j := 0) (t := 28) rfl rfl
  obtain ⟨a0, n0, c0, l0, e0, f0⟩ := view_ints Try.underlying28 Try.underlying3 (by kernel_rfl) (by kernel_rfl) m0 w0
  have e0' := slice_of Try.underlying28 k0 e0
  subst e0'
  have k1 := hval 1 3 v1 rfl rfl
  obtain ⟨fu1, m1⟩ := h1
  have w1 := weights_of hsz (j := 1) (t := 3) rfl rfl
  obtain ⟨a1, e1, f1⟩ := view_int Try.underlying3 m1
  have e1' := int_of Try.underlying3 k1 e1
  subst e1'
  refine (walk W a0 n0 c0 l0 f0.1 f0.2 a1 f1).mono fun e W' ⟨he, bel⟩ => ?_
  subst he
  exact ⟨_, rfl, _, _, _, [], _, [], hW', trodAll_mk1 (shut_bool Try.underlying4 _), trodAll_again laidOut bel (by kernel_rfl) hA2, rfl, bel.frame _, fun h => by cases h⟩

theorem over : Rows.councilMovesRow.holds Try.pinned (OpenSpec.ofChange Rows.councilMovesSpec) :=
  OpenClaim.holds_of_wide 7 Try.f7 rfl rfl rfl rfl rfl rfl rfl ⟨rfl, rfl, rfl, rfl, rfl⟩ rfl rfl rfl rfl rfl (by kernel_rfl) Try.func7 (by kernel_rfl)
    (of_decide_eq_true (by kernel_rfl)) (by unfold Func.isWrapper; first | (rw [if_pos (by decide +kernel)]; kernel_rfl) | (rw [if_neg (by decide +kernel)]; exact ⟨rfl, rfl⟩))
    (fun os started H enc _ => lifted os started H enc)

theorem proved : Rows.CouncilMovesSaid := over
#print axioms proved
end Go.Proofs.Ytgkcgfckhmplaaa.councilMoves
