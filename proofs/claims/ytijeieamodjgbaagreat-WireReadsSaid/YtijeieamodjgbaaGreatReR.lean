
/- Walk of the reference's Read, and of Same. -/
import Derived.Test.YtijeieamodjgbaaGreatKp
import Derived.Test.YtijeieamodjgbaaGreatReW
import Derived.Test.YtijeieamodjgbaaGreatJoP

namespace Go.Proofs.YtijeieamodjgbaaGreat
set_option maxRecDepth 100000
open Go.RowKit
set_option linter.unusedVariables false

def QBox (w0 : World) (p q : Nat) (e : Int) (wr : World) (s : R) (v : Value) (xs : List Int) : Prop := Box 89 3 (fun w s => RRd w p s) w0 p q e wr s v xs
theorem rrd_kept7 (p : Nat) (w w' : World) (s : R) (h : w'.heap[p]? = w.heap[p]?) (hr : RRd w p s) : RRd w' p s := by
  obtain ⟨S, hb, hrest, hts⟩ := hr
  exact ⟨S, by rw [h]; exact hb, hrest, hts⟩
theorem rrd_lt {p : Nat} {w : World} {s : R} (hr : RRd w p s) : p < w.heap.size := by
  obtain ⟨S, hb, hrest, hts⟩ := hr
  exact blk_lt hb
theorem endE_0 {s : R} : endE s = 0 ↔ s.bad = false ∧ s.rest = [] := by
  unfold endE
  cases hb : s.bad with
  | true => simp
  | false =>
    cases hr : s.rest with
    | nil => simp
    | cons x r => simp

set_option maxHeartbeats 2000000 in
theorem rread_own (text : ByteArray) (w : World) (hts : text.size ≤ 140737488351232) : Calls Tryz.prog 36 #[.string text] w (ReadOwn w text.data.toList) := by
  obtain ⟨ii, hi, hz0, hz1, hz2⟩ := info_parts info_int
  obtain ⟨t, ht⟩ : ∃ t, t = text.data.toList := ⟨_, rfl⟩
  rw [← ht]
  have Ht := Lib.hid ht; clear ht
  have hsz : (w.alloc (.cells #[.int .i64 0, .slice none 0 0] 89 (0, 0))).heap.size = w.heap.size + 1 := by simp
  have Hr1 := Lib.hid (show RRd ((w.alloc (.cells #[.int .i64 0, .slice none 0 0] 89 (0, 0))).alloc (.cells #[.string text, .bool false] 75 (0, 0))) (w.heap.size + 1) ⟨t, false⟩ from
    ⟨text, by rw [← hsz]; exact blk_alloc _ _, Ht.out.symm, hts⟩)
  have Res1 := Lib.hid (blk_below (blk_alloc w (.cells #[.int .i64 0, .slice none 0 0] 89 (0, 0))) (below_alloc _ (.cells #[.string text, .bool false] 75 (0, 0))))
  have B1 := Lib.hid (balloc (below_alloc w (.cells #[.int .i64 0, .slice none 0 0] 89 (0, 0))) (.cells #[.string text, .bool false] 75 (0, 0)))
  clear hts hsz
  go_enter Tryz.func36, Tryz.ntmps36
  go_wp2_with fail
  generalize hw1 : (w.alloc (.cells #[.int .i64 0, .slice none 0 0] 89 (0, 0))).alloc (.cells #[.string text, .bool false] 75 (0, 0)) = w1 at *
  clear hw1
  refine (rrnum_any _ _ 1 _ Hr1.out (by omega)).mono ?_
  rintro e' w2 ⟨rfl, hr2, o2⟩
  generalize hh : rVal ⟨t, false⟩ 1 = hd
  have Hh := Lib.hid (show headN t = hd from hh); clear hh
  have hr2' : RRd w2 (w.heap.size + 1) (rd1 t) := hr2
  clear hr2
  go_wp2_with fail
  refine (rrnum_any _ _ 2 _ hr2' (by omega)).mono ?_
  rintro e' w3 ⟨rfl, hr3, o3⟩
  generalize he : rVal (rd1 t) 2 = ep
  have He := Lib.hid (show epochN t = ep from he); clear he
  have hr3' : RRd w3 (w.heap.size + 1) (rd2 t) := hr3
  have res3 : w3.heap[w.heap.size]? = some (.cells #[.int .i64 0, .slice none 0 0] 89 (0, 0)) := by
    have l1 := blk_lt Res1.out
    rw [o3.block _ (Nat.lt_of_lt_of_le l1 o2.size) (by omega) (by simp), o2.block _ l1 (by omega) (by simp)]; exact Res1.out
  have B3 : Below w.heap.size w w3 := Only.below (Only.below B1.out o2 (by omega) (fun k hk => by cases hk)) o3 (by omega) (fun k hk => by cases hk)
  have l3 := rrd_lt hr3'
  have Hr3 := Lib.hid hr3'; have Res3 := Lib.hid res3; have BB3 := Lib.hid B3; have L3 := Lib.hid l3
  clear hr3 hr3' res3 B3 l3 o2 o3 hr2' Hr1 Res1 B1
  go_wp2_with fail
  refine (rrnum_any _ _ 1 _ (rrd_kept7 _ _ _ _ (Below.heap_alloc _ _ _ L3.out) Hr3.out) (by omega)).mono ?_
  rintro e' w4 ⟨rfl, hr4, o4⟩
  have hn256 : rVal (rd2 t) 1 < 256 := rVal_lt _ 1
  generalize hn : rVal (rd2 t) 1 = n0 at *
  have Hn := Lib.hid (show numN t = n0 from hn); clear hn
  have HB := Lib.hid (show QBox w (w.heap.size + 1) w3.heap.size ep w4 (rAfter (rd3 t) 0) (.slice none 0 0) (rVals (rd3 t) 0) from
    Box.start BB3.out Res3.out (by omega) L3.out o4 hr4)
  generalize w3.heap.size = q at *
  clear hr4 o4 Hr3 Res3 BB3 L3
  have hRD := rrd_kept7 (w.heap.size + 1)
  go_wp2_with fail
  go_loopw [8] (fun i wr => ∃ k : Nat, ∃ v, k ≤ n0 ∧ i = .int .i64 k ∧ Hid (QBox w (w.heap.size + 1) q ep wr (rAfter (rd3 t) k) v (rVals (rd3 t) k))) (fun i _ => n0 - (intOf i).toNat)
  case atStart => exact ⟨0, _, by omega, rfl, HB⟩
  case round =>
    clear HB
    obtain ⟨k, v, hk, rfl, HB⟩ := hrel
    by_cases hlt : k < n0
    · have CB : ∀ (w' : World), w'.heap = wr.heap → Calls Tryz.prog 30 #[.pointer (some ⟨w.heap.size + 1, 0, none⟩), .int .i64 1] w' (fun e w'' => e = .returned (.int .i64 (rVal (rAfter (rd3 t) k) 1)) ∧ RRd w'' (w.heap.size + 1) (rNext (rAfter (rd3 t) k) 1) ∧ Only (w.heap.size + 1) none w' w'') :=
        fun w' hw => rrnum_any (w.heap.size + 1) (rAfter (rd3 t) k) 1 w' (hRD _ w' _ (by rw [hw]) HB.out.rd) (by omega)
      replace CB := Lib.hid CB
      obtain ⟨hq0, hq1⟩ := HB.out.cells
      clear hq0
      have Hs1 := Lib.hid (show rAfter (rd3 t) (k + 1) = rNext (rAfter (rd3 t) k) 1 from rfl)
      have Hs2 := Lib.hid (show rVals (rd3 t) (k + 1) = rVals (rd3 t) k ++ [(rVal (rAfter (rd3 t) k) 1 : Int)] from rfl)
      have hxl : (rVals (rd3 t) k).length ≤ 256 := by rw [rVals_len]; omega
      generalize rVals (rd3 t) k = X at *
      generalize rVal (rAfter (rd3 t) k) 1 = x at *
      go_wp2_with fail
      go_region_law (first | (refine step_calls rfl 30 #[.pointer (some ⟨w.heap.size + 1, 0, none⟩), .int .i64 1] (by go_simp) (CB.out _ rfl) ?_; rintro e' w6 ⟨rfl, hr6, ho6⟩; refine ⟨_, rfl, ?_⟩; obtain ⟨k6, k7⟩ := HB.out.cell6 ho6; have l6 := blk_lt (HB.out.box6 ho6); have own6 := Lib.hid (HB.out.own6 ho6)) | (refine step_append_lies _ rfl (.tmp 25) (.tmp 28) 30 rfl (q + 1) 3 ii (.int .i64 0) 1 8 Tryz.underlying30 hi hz0 hz1 hz2 rfl (by decide) v X.length (intsV X) (by rfl) (by exact owns_below own6.out (below_alloc _ _)) ⟨w6.heap.size, 0, none⟩ 1 1 [.int .i64 x] (by rfl) rfl (by exact cell_one_new _ _ _) (by simp [Value.oneCell']) (by decide) (by simp only [maxLen]; omega) (by omega) (by simp; omega) _ rfl ?_; intro g cap w8 hown8 hg8 hor8 hlt8; obtain ⟨m8, m9⟩ := HB.out.cell8 ho6 _ hg8))
      all_goals
        have HB9 := Lib.hid (HB.out.step hRD ho6 hr6 (rrd_lt hr6) _ x hown8 hg8)
        clear hown8 hg8 hor8 hlt8 m8 m9 own6 l6 k6 k7 ho6 hr6 hq1
        go_wp2_with fail
        go_roundw
        case rel => exact ⟨k + 1, _, by omega, by go_num, Lib.hid (by rw [Hs2.out, Hs1.out]; exact HB9.out)⟩
        case measure => simp [intOf]; omega
    · obtain rfl : k = n0 := by omega
      obtain ⟨a, c, rfl, hints⟩ := owns_ints HB.out.own (rVals_i64 _ _) (by rw [rVals_len]; omega)
      obtain ⟨hq0, hq1⟩ := HB.out.cells
      have O7 := Lib.hid HB.out.own
      have Hxi := rVals_i64 (rd3 t) k
      have Hxl := hints.max
      have Hi := Lib.hid hints
      have res7 := HB.out.res
      have hHq := Nat.lt_trans HB.out.hp HB.out.pq
      have y0 : wr.cell? ⟨w.heap.size, 0, none⟩ = some (.int .i64 0) := by rw [blk_cell res7]; rfl
      have y1 : wr.cell? ⟨w.heap.size, 1, none⟩ = some (.slice none 0 0) := by rw [blk_cell res7]; rfl
      have f0 : wr.frozen? ⟨w.heap.size, 0, none⟩ = false := blk_frozen res7 _
      have f1 : wr.frozen? ⟨w.heap.size, 1, none⟩ = false := blk_frozen res7 _
      have B7 := Lib.hid HB.out.below
      have CE := Lib.hid (rrend_any (w.heap.size + 1) _ wr HB.out.rd)
      have CR := rright_any ep a _ c _ wr hints
      have HX := Lib.hid (show rVals (rd3 t) (numN t) = rVals (rd3 t) k by rw [Hn.out])
      have HE := Lib.hid (show endE (rAfter (rd3 t) (numN t)) = endE (rAfter (rd3 t) k) by rw [Hn.out])
      have Res7 := Lib.hid res7; have Hbox := Lib.hid HB.out.box
      generalize rVals (rd3 t) k = X at *
      generalize endE (rAfter (rd3 t) k) = E at *
      clear hints res7 HB hRD hlt
      cases hok : okB t with
      | true =>
        obtain ⟨h1, h2, h3, h4, h5, h6⟩ := ref_ok hok
        have hC := Lib.hid (readC_yes hok)
        obtain rfl : hd = 67 := by rw [← Hh.out]; exact h1
        rw [He.out, HX.out] at h4
        rw [He.out] at h5
        rw [HX.out] at h6
        obtain rfl : E = 0 := by rw [← HE.out]; exact endE_0.2 ⟨h2, h3⟩
        rw [h4] at CR
        replace CR := Lib.hid CR
        have H5 := Lib.hid h5; have H6 := Lib.hid h6
        clear h1 h2 h3 h4 h5 h6 hok
        go_wp2_with fail
        refine CE.out.mono ?_
        rintro e' w6 ⟨rfl, rfl⟩
        go_wp2_with fail
        refine CR.out.mono ?_
        rintro e' w7 ⟨rfl, b7⟩
        clear hq0 hq1 y0 y1 f0 f1
        have hb8 := blk_below Hbox.out b7
        have hr8 := blk_below Res7.out b7
        have hq0 : w7.cell? ⟨q, 0, none⟩ = some (.int .i64 ep) := by rw [blk_cell hb8]; rfl
        have hq1 : w7.cell? ⟨q, 1, none⟩ = some (.slice a X.length c) := by rw [blk_cell hb8]; rfl
        have y0 : w7.cell? ⟨w.heap.size, 0, none⟩ = some (.int .i64 0) := by rw [blk_cell hr8]; rfl
        have y1 : w7.cell? ⟨w.heap.size, 1, none⟩ = some (.slice none 0 0) := by rw [blk_cell hr8]; rfl
        have f0 : w7.frozen? ⟨w.heap.size, 0, none⟩ = false := blk_frozen hr8 _
        have f1 : w7.frozen? ⟨w.heap.size, 1, none⟩ = false := blk_frozen hr8 _
        replace B7 := Lib.hid (bthen B7.out b7)
        replace O7 := Lib.hid (owns_below O7.out b7)
        clear hb8 hr8 b7
        go_wp2_with fail
        refine bodyPost_ret (v := .tuple #[.agg #[.int .i64 ep, .slice a X.length c], .int .i64 0]) (by simp [results, Tryz.results36, go_sem, y0, y1]) rfl ⟨a, X.length, c, by rw [H5.out, hC.out], ?_, ?_, ?_⟩
        · rw [H6.out]
          exact owns_ints_at (owns_set_low (owns_set_low O7.out (by omega) _ _) (by omega) _ _) Hxi Hxl
        · exact (B7.out.setCell (Nat.le_refl _) _).setCell (Nat.le_refl _) _
        · rw [H6.out]
          exact owns_lower (owns_set_low (owns_set_low O7.out (by omega) _ _) (by omega) _ _) (by omega)
      | false =>
        have H5 := Lib.hid (readE_no hok); have H6 := Lib.hid (readL_no hok)
        have hC := Lib.hid (readC_no hok)
        by_cases h67 : hd = 67
        case' neg =>
          have hne : ¬ ((hd : Int) = 67) := by omega
          clear h67 hok CE CR
          go_wp2_with fail
        case' pos =>
          subst h67
          by_cases hE : E = 0
          case' neg =>
            clear hok CR
            go_wp2_with fail
            refine CE.out.mono ?_
            rintro e' w6 ⟨rfl, rfl⟩
            go_wp2_with fail
          case' pos =>
            subst hE
            have hr : rightB ep X = false := by
              cases hr : rightB ep X with
              | false => rfl
              | true =>
                obtain ⟨g1, g2⟩ := endE_0.1 HE.out
                rw [ref_of Hh.out g1 g2 (by rw [He.out, HX.out]; exact hr)] at hok; cases hok
            rw [hr] at CR
            replace CR := Lib.hid CR
            clear hok hr
            go_wp2_with fail
            refine CE.out.mono ?_
            rintro e' w6 ⟨rfl, rfl⟩
            go_wp2_with fail
            refine CR.out.mono ?_
            rintro e' w7 ⟨rfl, b7⟩
            clear hq0 hq1 y0 y1 f0 f1
            have hb8 := blk_below Hbox.out b7
            have hr8 := blk_below Res7.out b7
            have hq0 : w7.cell? ⟨q, 0, none⟩ = some (.int .i64 ep) := by rw [blk_cell hb8]; rfl
            have hq1 : w7.cell? ⟨q, 1, none⟩ = some (.slice a X.length c) := by rw [blk_cell hb8]; rfl
            have y0 : w7.cell? ⟨w.heap.size, 0, none⟩ = some (.int .i64 0) := by rw [blk_cell hr8]; rfl
            have y1 : w7.cell? ⟨w.heap.size, 1, none⟩ = some (.slice none 0 0) := by rw [blk_cell hr8]; rfl
            have f0 : w7.frozen? ⟨w.heap.size, 0, none⟩ = false := blk_frozen hr8 _
            have f1 : w7.frozen? ⟨w.heap.size, 1, none⟩ = false := blk_frozen hr8 _
            replace B7 := Lib.hid (bthen B7.out b7)
            replace O7 := Lib.hid (owns_below O7.out b7)
            clear hb8 hr8 b7
            go_wp2_with fail
        all_goals
          refine bodyPost_ret (v := .tuple #[.agg #[.int .i64 0, .slice none 0 0], .int .i64 5]) (by simp [results, Tryz.results36, go_sem, y0, y1]) rfl ⟨none, 0, 0, by rw [H5.out, hC.out], ?_, ?_, ?_⟩
          · rw [H6.out]; exact nil_ints _
          · exact (B7.out.setCell (Nat.le_refl _) _).setCell (Nat.le_refl _) _
          · rw [H6.out]; exact World.ownsRow_nil _ _ _ _
end Go.Proofs.YtijeieamodjgbaaGreat
