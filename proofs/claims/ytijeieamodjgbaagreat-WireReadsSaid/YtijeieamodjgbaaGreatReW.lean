
/- Walk of the program's Read. -/
import Derived.Test.YtijeieamodjgbaaGreatReM
import Derived.Test.YtijeieamodjgbaaGreatTxP
import Derived.Test.YtijeieamodjgbaaGreatJoP

namespace Go.Proofs.YtijeieamodjgbaaGreat
set_option maxRecDepth 100000
open Go.RowKit
set_option linter.unusedVariables false

def PBox (text : ByteArray) (w0 : World) (p q : Nat) (e : Int) (wr : World) (s : R) (v : Value) (xs : List Int) : Prop := Box 89 3 (fun w s => PRd w p text s) w0 p q e wr s v xs
theorem prd_kept7 (p : Nat) (text : ByteArray) (w w' : World) (s : R) (h : w'.heap[p]? = w.heap[p]?) (hr : PRd w p text s) : PRd w' p text s := by
  obtain ⟨at0, ha, hts, hb, hrest⟩ := hr
  exact ⟨at0, ha, hts, by rw [h]; exact hb, hrest⟩
theorem prd_lt7 {p : Nat} {text : ByteArray} {w : World} {s : R} (hr : PRd w p text s) : p < w.heap.size := by
  obtain ⟨at0, ha, hts, hb, hrest⟩ := hr
  exact blk_lt hb

/-- The same, and where the members lie. -/
def ReadOwn (w : World) (t : List UInt8) (e : Ending) (w' : World) : Prop :=
  ∃ a n c, e = .returned (.tuple #[.agg #[.int .i64 (readE t), .slice a n c], .int .i64 (readC t)]) ∧ IntsAt w' a n (readL t) ∧ Below w.heap.size w w' ∧ w'.ownsRow w.heap.size 3 1 (.slice a n c) n (intsV (readL t))
set_option maxHeartbeats 2000000 in
theorem read_own (text : ByteArray) (w : World) (hts : text.size ≤ 140737488351232) : Calls Tryz.prog 127 #[.string text] w (ReadOwn w text.data.toList) := by
  obtain ⟨ii, hi, hz0, hz1, hz2⟩ := info_parts info_int
  obtain ⟨t, ht⟩ : ∃ t, t = text.data.toList := ⟨_, rfl⟩
  rw [← ht]
  have Ht := Lib.hid ht; clear ht
  go_enter Tryz.func127, Tryz.ntmps127
  go_wp2_with fail
  refine (read_any text _ hts).mono ?_
  rintro e' w1 ⟨rfl, hr1, b1⟩
  have res1 := blk_below (blk_alloc w (.cells #[.int .i64 0, .slice none 0 0] 89 (0, 0))) b1
  have B1 := bthen (below_alloc w _) b1
  have B1s := b1.size
  have hsz : (w.alloc (.cells #[.int .i64 0, .slice none 0 0] 89 (0, 0))).heap.size = w.heap.size + 1 := by simp
  rw [hsz] at hr1 B1s
  rw [← Ht.out] at hr1
  go_wp2_with fail
  refine (rbyte_any _ text _ _ hr1).mono ?_
  rintro e' w2 ⟨rfl, hr2, o2⟩
  generalize hh : rVal ⟨t, false⟩ 1 = hd
  have Hh := Lib.hid (show headN t = hd from hh); clear hh
  have hr2' : PRd w2 (w.heap.size + 1) text (rd1 t) := hr2
  clear hr2
  go_wp2_with fail
  refine (rword_any _ text _ _ hr2').mono ?_
  rintro e' w3 ⟨rfl, hr3, o3⟩
  generalize he : rVal (rd1 t) 2 = ep
  have He := Lib.hid (show epochN t = ep from he); clear he
  have hr3' : PRd w3 (w.heap.size + 1) text (rd2 t) := hr3
  have res3 : w3.heap[w.heap.size]? = some (.cells #[.int .i64 0, .slice none 0 0] 89 (0, 0)) := by
    have l1 := blk_lt res1
    rw [o3.block _ (Nat.lt_of_lt_of_le l1 o2.size) (by omega) (by simp), o2.block _ l1 (by omega) (by simp)]; exact res1
  have B3 : Below w.heap.size w w3 := Only.below (Only.below B1 o2 (by omega) (fun k hk => by cases hk)) o3 (by omega) (fun k hk => by cases hk)
  have l3 := prd_lt7 hr3'
  have Hr3 := Lib.hid hr3'; have Res3 := Lib.hid res3; have BB3 := Lib.hid B3; have L3 := Lib.hid l3
  clear hr3 hr3' res3 B3 l3 o2 o3 hr2' hr1 res1 B1 B1s b1 hsz
  go_wp2_with fail
  refine (rbyte_any _ text _ _ (prd_kept7 _ _ _ _ _ (Below.heap_alloc _ _ _ L3.out) Hr3.out)).mono ?_
  rintro e' w4 ⟨rfl, hr4, o4⟩
  have hn256 : rVal (rd2 t) 1 < 256 := rVal_lt _ 1
  generalize hn : rVal (rd2 t) 1 = n0 at *
  have Hn := Lib.hid (show numN t = n0 from hn); clear hn
  have HB := Lib.hid (show PBox text w (w.heap.size + 1) w3.heap.size ep w4 ⟨(rd3 t).rest.drop 0, (rd3 t).bad⟩ (.slice none 0 0) (intL ((rd3 t).rest.take 0)) from
    Box.start BB3.out Res3.out (by omega) L3.out o4 hr4)
  generalize w3.heap.size = q at *
  clear hr4 o4 Hr3 Res3 BB3 L3
  have hRD := prd_kept7 (w.heap.size + 1) text
  go_wp2_with fail
  go_loopw [8] (fun i wr => ∃ k j : Nat, ∃ v, k ≤ (rd3 t).rest.length ∧ k + j = n0 ∧ i = .int .i64 j ∧ Hid (PBox text w (w.heap.size + 1) q ep wr ⟨(rd3 t).rest.drop k, (rd3 t).bad⟩ v (intL ((rd3 t).rest.take k)))) (fun i _ => (intOf i).toNat)
  case atStart => exact ⟨0, n0, _, by omega, by omega, rfl, HB⟩
  case round =>
    clear HB
    obtain ⟨k, j, v, hk, hkj, rfl, HB⟩ := hrel
    by_cases hcont : 0 < j ∧ k < (rd3 t).rest.length
    · obtain ⟨hj, hlt⟩ := hcont
      have hbad := num_pos (t := t) (by rw [Hn.out]; omega)
      have CL := Lib.hid (left_any _ text _ wr HB.out.rd)
      have hdl : ((rd3 t).rest.drop k).length = (rd3 t).rest.length - k := List.length_drop ..
      have hj' : (0 : Int) < (j : Int) := by omega
      obtain ⟨hs1, hs2⟩ := mem_step hlt hbad
      have Hs1 := Lib.hid hs1; have Hs2 := Lib.hid hs2; have Hbad := Lib.hid hbad; have Hdl := Lib.hid hdl
      have hL : 0 < ((rd3 t).rest.drop k).length := by rw [hdl]; omega
      clear hs1 hs2 hbad hdl
      generalize hLL : ((rd3 t).rest.drop k).length = L at *
      clear hLL Hdl
      go_wp2_with fail
      refine CL.out.mono ?_
      rintro e' w5 ⟨rfl, nq, rfl⟩
      have HB5 := Lib.hid (Box.drewN HB.out hRD nq)
      have CB : ∀ (w' : World), w'.heap = (wr.drewN nq).heap → Calls Tryz.prog 71 #[.pointer (some ⟨w.heap.size + 1, 0, none⟩)] w' (fun e w'' => e = .returned (.int .i64 (rVal ⟨(rd3 t).rest.drop k, (rd3 t).bad⟩ 1)) ∧ PRd w'' (w.heap.size + 1) text (rNext ⟨(rd3 t).rest.drop k, (rd3 t).bad⟩ 1) ∧ Only (w.heap.size + 1) none w' w'') :=
        fun w' hw => rbyte_any (w.heap.size + 1) text ⟨(rd3 t).rest.drop k, (rd3 t).bad⟩ w' (hRD _ w' _ (by rw [hw]) HB5.out.rd)
      replace CB := Lib.hid CB
      obtain ⟨hq0, hq1⟩ := HB5.out.cells
      clear hq0
      clear CL HB
      generalize hw5 : wr.drewN nq = w5 at *
      clear hw5
      have hwj : IntKind.i64.wrap ((j : Int) - 1) = ((j - 1 : Nat) : Int) := by rw [IntWalk.i64_in _ (by omega)]; omega
      have hL' : decide ((0 : Int) < (L : Int)) = true := by simp; omega
      go_wp2_with fail
      have hxl : (intL ((rd3 t).rest.take k)).length ≤ 256 := by rw [intL_len, List.length_take]; omega
      generalize hX : intL ((rd3 t).rest.take k) = X at *
      generalize hx : rVal ⟨(rd3 t).rest.drop k, (rd3 t).bad⟩ 1 = x at *
      clear hX hx
      go_region_law (first | (refine step_calls rfl 71 #[.pointer (some ⟨w.heap.size + 1, 0, none⟩)] (by go_simp) (CB.out _ rfl) ?_; rintro e' w6 ⟨rfl, hr6, ho6⟩; refine ⟨_, rfl, ?_⟩; obtain ⟨k6, k7⟩ := HB5.out.cell6 ho6; have l6 := blk_lt (HB5.out.box6 ho6); have own6 := Lib.hid (HB5.out.own6 ho6)) | (refine step_append_lies _ rfl (.tmp 31) (.tmp 34) 30 rfl (q + 1) 3 ii (.int .i64 0) 1 8 Tryz.underlying30 hi hz0 hz1 hz2 rfl (by decide) v X.length (intsV X) (by rfl) (by exact owns_below own6.out (below_alloc _ _)) ⟨w6.heap.size, 0, none⟩ 1 1 [.int .i64 x] (by rfl) rfl (by exact cell_one_new _ _ _) (by simp [Value.oneCell']) (by decide) (by simp only [maxLen]; omega) (by omega) (by simp; omega) _ rfl ?_; intro g cap w8 hown8 hg8 hor8 hlt8; obtain ⟨m8, m9⟩ := HB5.out.cell8 ho6 _ hg8))
      all_goals
        have HB9 := Lib.hid (HB5.out.step hRD ho6 hr6 (prd_lt7 hr6) _ x hown8 hg8)
        clear hown8 hg8 hor8 hlt8 m8 m9 own6 l6 k6 k7 ho6 hr6 hq1
        go_wp2_with fail
        go_roundw
        case rel => exact ⟨k + 1, j - 1, _, by omega, by omega, rfl, Lib.hid (by rw [Hs2.out, ← Hs1.out]; exact HB9.out)⟩
        case measure => simp [intOf]; omega
    · obtain ⟨a, c, rfl, hints⟩ := owns_ints HB.out.own (intL_i64 _) (by rw [intL_len, List.length_take]; omega)
      have hkm : memN t = k := by rw [memN, Hn.out]; omega
      obtain ⟨hq0, hq1⟩ := HB.out.cells
      have HX := Lib.hid (show memL t = intL ((rd3 t).rest.take k) by rw [memL, hkm])
      have Hi := Lib.hid hints
      clear hints hkm
      by_cases hj : 0 < j
      case' pos =>
        have CL := left_any _ text _ wr HB.out.rd
        have hdl : ((rd3 t).rest.drop k).length = 0 := by rw [List.length_drop]; omega
        have hj' : (0 : Int) < (j : Int) := by omega
        simp only [hdl] at CL
        replace CL := Lib.hid CL
        clear hcont hdl
        go_wp2_with fail
        refine CL.out.mono ?_
        rintro e' w5 ⟨rfl, nq, rfl⟩
        replace HB := Lib.hid (Box.drewN HB.out hRD nq)
        replace Hi := Lib.hid (Hi.out.below (below_drewN (Below.refl _ _) nq))
        go_wp2_with fail
      case' neg =>
        obtain rfl : j = 0 := by omega
        clear hcont hj
        go_wp2_with fail
      all_goals
        refine (text_any ep a _ c _ _ Hi.out).mono ?_
        rintro e' w7 ⟨rfl, b7⟩
        generalize intL ((rd3 t).rest.take k) = X at *
        have hb7 := blk_below HB.out.box b7
        have res7 := blk_below HB.out.res b7
        have O7 := Lib.hid (owns_below HB.out.own b7)
        have Hxi : ∀ x ∈ X, i64 x := (Hi.out).fit
        have Hxl := Hi.out.max
        have B7 := Lib.hid (bthen HB.out.below b7)
        have hHq := Nat.lt_trans HB.out.hp HB.out.pq
        have x0 : w7.cell? ⟨q, 0, none⟩ = some (.int .i64 ep) := by rw [blk_cell hb7]; rfl
        have x1 : w7.cell? ⟨q, 1, none⟩ = some (.slice a X.length c) := by rw [blk_cell hb7]; rfl
        have y0 : w7.cell? ⟨w.heap.size, 0, none⟩ = some (.int .i64 0) := by rw [blk_cell res7]; rfl
        have y1 : w7.cell? ⟨w.heap.size, 1, none⟩ = some (.slice none 0 0) := by rw [blk_cell res7]; rfl
        have f0 : w7.frozen? ⟨w.heap.size, 0, none⟩ = false := blk_frozen res7 _
        have f1 : w7.frozen? ⟨w.heap.size, 1, none⟩ = false := blk_frozen res7 _
        have Res7 := Lib.hid res7
        clear hb7 b7 HB Hi hRD res7
        clear hq0 hq1 hts
        have hts : (⟨t.toArray⟩ : ByteArray) = text := by rw [Ht.out]
        cases hok : okB t with
        | true =>
          obtain ⟨h1, h2, h3, h4, h5⟩ := prog_ok hok
          have hC := Lib.hid (readC_yes hok)
          obtain rfl : hd = 67 := by rw [← Hh.out]; exact h1
          rw [He.out, HX.out] at h2 h3
          rw [He.out] at h4
          rw [HX.out] at h5
          have hS : textS ep X = text := by rw [textS, if_pos h2, h3, hts]
          have hE : textE ep X = 0 := by rw [textE, if_pos h2]
          have H4 := Lib.hid h4; have H5 := Lib.hid h5
          rw [hS, hE]
          clear h1 h2 h3 h4 h5 hok hts hS hE
          go_wp2_with fail
          refine bodyPost_ret (v := .tuple #[.agg #[.int .i64 ep, .slice a X.length c], .int .i64 0]) (by simp [results, Tryz.results127, go_sem, y0, y1]) rfl ⟨a, X.length, c, by rw [H4.out, hC.out], ?_, ?_, ?_⟩
          · rw [H5.out]
            exact owns_ints_at (owns_set_low (owns_set_low O7.out (by omega) _ _) (by omega) _ _) Hxi Hxl
          · exact (B7.out.setCell (Nat.le_refl _) _).setCell (Nat.le_refl _) _
          · rw [H5.out]
            exact owns_mono (owns_set_low (owns_set_low O7.out (by omega) _ _) (by omega) _ _) (by omega)
        | false =>
          have H4 := Lib.hid (readE_no hok); have H5 := Lib.hid (readL_no hok)
          have hC := Lib.hid (readC_no hok)
          by_cases h67 : hd = 67
          case' neg =>
            have hne : ¬ ((hd : Int) = 67) := by omega
            clear h67 hok hts
            generalize textS ep X = S
            generalize textE ep X = E
          case' pos =>
            subst h67
            cases hr : rightB ep X
            case' false =>
              have hE : textE ep X = 1 := by rw [textE, if_neg (by simp [hr])]
              rw [hE]
              clear hE hr hok hts
              generalize textS ep X = S
            case' true =>
              have hE : textE ep X = 0 := by rw [textE, if_pos hr]
              have hS : ¬ textS ep X = text := fun hc => by
                rw [textS, if_pos hr, ← hts] at hc
                have h3 : textP ep X = t := by simpa using hc
                have := prog_of Hh.out (by rw [He.out, HX.out]; exact hr) (by rw [He.out, HX.out]; exact h3)
                rw [this] at hok; cases hok
              rw [hE]
              generalize textS ep X = S at *
              have hS2 := str_ne hS
              clear hE hr hok hts
          all_goals
            go_wp2_with fail
            refine bodyPost_ret (v := .tuple #[.agg #[.int .i64 0, .slice none 0 0], .int .i64 5]) (by simp [results, Tryz.results127, go_sem, y0, y1]) rfl ⟨none, 0, 0, by rw [H4.out, hC.out], ?_, ?_, ?_⟩
            · rw [H5.out]; exact nil_ints _
            · exact (B7.out.setCell (Nat.le_refl _) _).setCell (Nat.le_refl _) _
            · rw [H5.out]; exact World.ownsRow_nil _ _ _ _
end Go.Proofs.YtijeieamodjgbaaGreat
