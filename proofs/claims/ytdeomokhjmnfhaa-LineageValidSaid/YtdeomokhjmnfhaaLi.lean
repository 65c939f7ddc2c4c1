
/- Walk of lives, and its plain facts. -/
import Derived.Test.YtdeomokhjmnfhaaTr9
import Derived.Deep.RegionHeld3
namespace Go.Proofs.Ytdeomokhjmnfhaa
open Go.RowKit
set_option linter.unusedVariables false

def sg3 : List Sg := [(0, textS 1 [0, 1, 2, 3, 4]), (1, textS 1 [0, 1, 2, 3, 4]), (3, textS 1 [0, 1, 2, 3, 4])]
theorem sg3_len (h : (textS 1 [0, 1, 2, 3, 4]).size ≤ 140737488351232) : ∀ s ∈ sg3, i64 s.1 ∧ s.2.size ≤ 140737488351232 := by
  intro s hs
  simp only [sg3, List.mem_cons, List.not_mem_nil, or_false] at hs
  rcases hs with rfl | rfl | rfl
  all_goals exact ⟨by simp [i64], h⟩
theorem valid_lives : validC 0 [0, 1, 2, 3] 1 [0, 1, 2, 3, 4] sg3 = 0 := by
  have h : ∀ t : ByteArray, sigsUp [0, 1, 2, 3] t (-1) [(0, t), (1, t), (3, t)] = true := fun t => by simp [sigsUp, hasB]
  have hr : rightB 0 [0, 1, 2, 3] = true := by decide +kernel
  have hr1 : rightB 1 [0, 1, 2, 3, 4] = true := by decide +kernel
  rw [validC_end hr hr1 rfl, provesB_4 hr (by simp [sg3]) (by decide +kernel), sg3, h]
  rfl
theorem valid_lives0 : validC 0 [0, 1, 2, 3] 1 [0, 1, 2, 3, 4] [] = 15 := by
  have hr : rightB 0 [0, 1, 2, 3] = true := by decide +kernel
  have hr1 : rightB 1 [0, 1, 2, 3, 4] = true := by decide +kernel
  rw [validC_end hr hr1 rfl, provesB_3 (by decide +kernel)]
  rfl
theorem text_small : (textS 1 [0, 1, 2, 3, 4]).size ≤ 140737488351232 := by decide +kernel

theorem made_ints (w : World) (l : List Int) (t : TypeId) (hf : ∀ x ∈ l, i64 x) (hl : l.length * 8 ≤ 140737488355328) : SlAt Sh.int (w.alloc (.cells (intsV l).toArray t)) (some ⟨w.heap.size, 0, none⟩) l.length l.length l :=
  sl_of_ints (IntsAt.made w l t hf (by omega)) (Nat.le_refl _) (by omega) hl (fun h => by cases h)
theorem made_sigs (w : World) (l : List Sg) (hf : ∀ s ∈ l, i64 s.1 ∧ s.2.size ≤ 140737488351232) (hl : l.length * 24 ≤ 140737488355328) : SlAt shSig (w.alloc (.cells (sigV l).toArray 62)) (some ⟨w.heap.size, 0, none⟩) l.length l.length l :=
  sigs_row (B := w.heap.size) ⟨sigV_len l, .inr ⟨w.heap.size, l.length, (sigV l).toArray, rfl, Nat.le_refl _, blk_alloc w _, Nat.le_refl _, by simp only [maxLen]; omega, by simp [sigV_len], by simp [← sigV_len]⟩⟩ rfl hf hl

theorem trX_ge {w : World} {B p : Nat} {oc os : Option Nat} {cs : List Cf} {ss : List (List Sg)} (h : Trk w B p oc os cs ss) : ∀ k, trX p oc os k → B ≤ k := fun k hk => by
  obtain ⟨_, h1, h2⟩ := h.lt
  rcases hk with rfl | hk | hk
  · exact h.hB
  · exact (h1 k hk).1
  · exact (h2 k hk).1

set_option maxHeartbeats 2000000 in
theorem lives10_any (w : World) : Calls Try.prog 9 #[] w fun r w' => r = .returned (.bool true) ∧ Below w.heap.size w w' := by
  obtain ⟨w1, hw1⟩ : ∃ w1, w1 = (w.alloc (.cells (intsV [0, 1, 2, 3, 4]).toArray 3)).alloc (.cells #[.int .i64 1, .slice (some ⟨w.heap.size, 0, none⟩) 5 5] 24) := ⟨_, rfl⟩
  have bb := below_alloc (w.alloc (.cells (intsV [0, 1, 2, 3, 4]).toArray 3)) (.cells #[.int .i64 1, .slice (some ⟨w.heap.size, 0, none⟩) 5 5] 24)
  have b1 : Below w.heap.size w w1 := by rw [hw1]; exact bthen (below_alloc _ _) bb
  have hN : SlAt Sh.int w1 (some ⟨w.heap.size, 0, none⟩) 5 5 [0, 1, 2, 3, 4] := by rw [hw1]; exact (made_ints w [0, 1, 2, 3, 4] 3 (by simp [i64]) (by decide)).old bb
  have k1 : w1.heap[w.heap.size + 1]? = some (.cells #[.int .i64 1, .slice (some ⟨w.heap.size, 0, none⟩) 5 5] 24 (0, 0)) := by
    have := blk_alloc (w.alloc (.cells (intsV [0, 1, 2, 3, 4]).toArray 3)) (.cells #[.int .i64 1, .slice (some ⟨w.heap.size, 0, none⟩) 5 5] 24)
    rw [World.size_alloc] at this
    rw [hw1]; exact this
  have HN := Lib.hid hN; have K1 := Lib.hid k1; have B1 := Lib.hid b1
  clear bb b1 hN
  go_enter Try.func9, Try.ntmps9
  go_wp2_with fail
  replace hw1 : World.alloc (World.alloc w (.cells #[.int .i64 0, .int .i64 1, .int .i64 2, .int .i64 3, .int .i64 4] 3)) (.cells #[.int .i64 1, .slice (some ⟨w.heap.size, 0, none⟩) 5 5] 24) = w1 := hw1.symm
  rw [hw1]
  clear hw1
  refine (rtext_any _ _ _ _ _ _ (ints_of_sl HN.out)).mono ?_
  rintro r w2 ⟨rfl, b2⟩
  have k2 := blk_below k1 b2
  have x0 : w2.cell? ⟨w.heap.size + 1, 0, none⟩ = some (.int .i64 1) := by rw [blk_cell k2]; rfl
  have x1 : w2.cell? ⟨w.heap.size + 1, 1, none⟩ = some (.slice (some ⟨w.heap.size, 0, none⟩) 5 5) := by rw [blk_cell k2]; rfl
  have B2 := Lib.hid (bthen B1.out b2)
  have HN2 := Lib.hid (HN.out.old b2)
  have K2 := Lib.hid k2
  have HV := Lib.hid valid_lives
  have HV0 := Lib.hid valid_lives0
  have HS := Lib.hid (show ∀ t, t = textS 1 [0, 1, 2, 3, 4] → SlAt shSig (w2.alloc (.cells #[.int .i64 0, .string t, .int .i64 1, .string t, .int .i64 3, .string t] 62)) (some ⟨w2.heap.size, 0, none⟩) 3 3 sg3 from fun t ht => by
    subst ht
    exact made_sigs w2 sg3 (sg3_len text_small) (by decide))
  rw [show textE 1 [0, 1, 2, 3, 4] = 0 by decide +kernel]
  generalize hT : textS 1 [0, 1, 2, 3, 4] = T at *
  replace hT := Lib.hid hT
  clear k1 k2 b2 B1 K1 HN
  obtain ⟨wl, hwl⟩ : ∃ wl, wl = (w2.alloc (.cells #[.int .i64 0, .string T, .int .i64 1, .string T, .int .i64 3, .string T] 62)).alloc (.cells #[.int .i64 1, .slice (some ⟨w.heap.size, 0, none⟩) 5 5, .slice (some ⟨w2.heap.size, 0, none⟩) 3 3] 27) := ⟨_, rfl⟩
  have bb := below_alloc (w2.alloc (.cells #[.int .i64 0, .string T, .int .i64 1, .string T, .int .i64 3, .string T] 62)) (.cells #[.int .i64 1, .slice (some ⟨w.heap.size, 0, none⟩) 5 5, .slice (some ⟨w2.heap.size, 0, none⟩) 3 3] 27)
  have bl : Below w2.heap.size w2 wl := by rw [hwl]; exact bthen (below_alloc _ _) bb
  have kl : wl.heap[w2.heap.size + 1]? = some (.cells #[.int .i64 1, .slice (some ⟨w.heap.size, 0, none⟩) 5 5, .slice (some ⟨w2.heap.size, 0, none⟩) 3 3] 27 (0, 0)) := by
    have := blk_alloc (w2.alloc (.cells #[.int .i64 0, .string T, .int .i64 1, .string T, .int .i64 3, .string T] 62)) (.cells #[.int .i64 1, .slice (some ⟨w.heap.size, 0, none⟩) 5 5, .slice (some ⟨w2.heap.size, 0, none⟩) 3 3] 27)
    rw [World.size_alloc] at this
    rw [hwl]; exact this
  have HSl := Lib.hid (show SlAt shSig wl (some ⟨w2.heap.size, 0, none⟩) 3 3 sg3 by rw [hwl]; exact (HS.out T rfl).old bb)
  have HNl := Lib.hid (HN2.out.old bl)
  have BL := Lib.hid bl; have KL := Lib.hid kl
  clear bb bl kl HS HN2
  go_wp2_with fail
  rw [← hwl]
  clear hwl
  refine (four_any _).mono ?_
  rintro r w3 ⟨b3, rfl, h3, b3'⟩
  have B3 := Lib.hid b3'
  clear b3'
  go_wp2_with fail
  refine (new_any 0 _ 4 4 [0, 1, 2, 3] w3 (ints_of_sl h3) (by simp) (by decide) (by simp [i64])).mono ?_
  rintro r w4 ⟨b4, h4⟩
  clear h3
  rcases h4 with ⟨_, _, p, oc, rfl, hp, ht⟩ | ⟨hno, _⟩
  · have B34 := Lib.hid (bthen B3.out b4)
    have k3 := blk_below KL.out B3.out
    have x0 := below_cell (bthen BL.out B3.out) x0
    have x1 := below_cell (bthen BL.out B3.out) x1
    have y0 : w3.cell? ⟨w2.heap.size + 1, 0, none⟩ = some (.int .i64 1) := by rw [blk_cell k3]; rfl
    have y1 : w3.cell? ⟨w2.heap.size + 1, 1, none⟩ = some (.slice (some ⟨w.heap.size, 0, none⟩) 5 5) := by rw [blk_cell k3]; rfl
    have y2 : w3.cell? ⟨w2.heap.size + 1, 2, none⟩ = some (.slice (some ⟨w2.heap.size, 0, none⟩) 3 3) := by rw [blk_cell k3]; rfl
    have HC := Lib.hid (show ∀ w', Below w3.heap.size w3 w' → (w'.cell? ⟨w.heap.size + 1, 0, none⟩ = some (.int .i64 1) ∧ w'.cell? ⟨w.heap.size + 1, 1, none⟩ = some (.slice (some ⟨w.heap.size, 0, none⟩) 5 5)) ∧ w'.cell? ⟨w2.heap.size + 1, 0, none⟩ = some (.int .i64 1) ∧
      w'.cell? ⟨w2.heap.size + 1, 1, none⟩ = some (.slice (some ⟨w.heap.size, 0, none⟩) 5 5) ∧ w'.cell? ⟨w2.heap.size + 1, 2, none⟩ = some (.slice (some ⟨w2.heap.size, 0, none⟩) 3 3) from
      fun w' hb => ⟨⟨below_cell hb x0, below_cell hb x1⟩, below_cell hb y0, below_cell hb y1, below_cell hb y2⟩)
    have HT := Lib.hid ht
    have B03 := Lib.hid (bthen (bthen B2.out BL.out) B3.out)
    have B4 := Lib.hid b4
    have CA := Lib.hid (fun (w' : World) (hb : Below w4.heap.size w4 w') => add_any w3.heap.size p oc none [(0, [0, 1, 2, 3])] [] 0 0 [0, 1, 2, 3] 1 (some ⟨w.heap.size, 0, none⟩) 5 5 [0, 1, 2, 3, 4] (some ⟨w2.heap.size, 0, none⟩) 3 3 sg3 w'
      (HT.out.old hb) (Nat.le_trans B4.out.size hb.size) rfl rfl (by simp) (by simp) (by simp [i64]) ((HNl.out.old (bthen B3.out B4.out)).old hb)
      (slRob (HSl.out.old B3.out) (bthen B4.out hb) (trX_ge HT.out)) (slRob (HNl.out.old B3.out) (bthen B4.out hb) (trX_ge HT.out)))
    rw [HV.out] at CA
    obtain ⟨⟨x0, x1⟩, y0, y1, y2⟩ := HC.out _ B4.out
    clear k3 ht b4 hp
    go_wp2_with fail
    go_region_held3 (fun w' => (w'.cell? ⟨w.heap.size + 1, 0, none⟩ = some (.int .i64 1) ∧ w'.cell? ⟨w.heap.size + 1, 1, none⟩ = some (.slice (some ⟨w.heap.size, 0, none⟩) 5 5)) ∧ w'.cell? ⟨w2.heap.size + 1, 0, none⟩ = some (.int .i64 1) ∧
      w'.cell? ⟨w2.heap.size + 1, 1, none⟩ = some (.slice (some ⟨w.heap.size, 0, none⟩) 5 5) ∧ w'.cell? ⟨w2.heap.size + 1, 2, none⟩ = some (.slice (some ⟨w2.heap.size, 0, none⟩) 3 3)) (exact ⟨⟨by assumption, by assumption⟩, by assumption, by assumption, by assumption⟩)
      (first
        | (go_at_call 25; refine (CA.out _ (below_drewN (Below.refl _ _) 1)).mono ?_; rintro r w6 ⟨rfl, -, h6⟩; obtain ⟨oc', os', -, -, ht6, hk6⟩ := h6 rfl; clear h6; have HT6 := Lib.hid ht6; have B6 := Lib.hid (hk6.below (bthen B4.out (below_drewN (Below.refl _ _) 1)) (trX_ge HT.out)); clear ht6 hk6; obtain ⟨⟨x0, x1⟩, y0, y1, y2⟩ := HC.out _ B6.out)
        | (go_at_call 14; refine (epoch_any _ _ _ _ _ _ _ HT6.out (by simp) (by simp)).mono ?_; rintro r w7 ⟨rfl, rfl⟩)
        | (go_at_call 27; refine (four_any _).mono ?_; rintro r w7 ⟨b7, rfl, h7, b7'⟩; have HH7 := Lib.hid h7; have B7 := Lib.hid b7'; clear h7 b7'; obtain ⟨⟨x0, x1⟩, y0, y1, y2⟩ := HC.out _ (bthen B6.out B7.out))
        | (go_at_call 10; refine (valid_any _ _ _ _ _ _ _ _ _ _ _ _ _ [] _ (ints_of_sl HH7.out) (ints_of_sl ((HNl.out.old B3.out).old (bthen B6.out B7.out))) ⟨rfl, by simp, by simp, by simp, fun _ => rfl, fun i y hy => by cases hy⟩).mono ?_; rintro r w8 ⟨rfl, b8⟩; rw [HV0.out]; have B8 := Lib.hid b8; clear b8; obtain ⟨⟨x0, x1⟩, y0, y1, y2⟩ := HC.out _ (bthen (bthen B6.out B7.out) B8.out)))
    trace_state
    go_wp2_with fail
    go_ret
    exact ⟨rfl, bthen B03.out (bthen (bthen B6.out B7.out) B8.out)⟩
  · exact (hno ⟨by decide +kernel, rfl⟩).elim
theorem conf_open {w : World} {y : Cf} {cs : List Value} (h : shConf.E w y cs) : ∃ e l a n c, y = (e, l) ∧ cs = [.int .i64 e, .slice a n c] ∧ i64 e ∧ SlAt Sh.int w a n c l := by
  obtain ⟨e, l⟩ := y
  obtain ⟨x1, x2, rfl, ⟨rfl, he⟩, a, n, c, rfl, hs⟩ := h
  exact ⟨e, l, a, n, c, rfl, rfl, he, hs⟩
theorem link_open {w : World} {y : Lk} {cs : List Value} (h : shLink.E w y cs) : ∃ e l s a n c sa sn sc, y = ((e, l), s) ∧ cs = [.int .i64 e, .slice a n c, .slice sa sn sc] ∧ i64 e ∧ SlAt Sh.int w a n c l ∧ SlAt shSig w sa sn sc s := by
  obtain ⟨⟨e, l⟩, s⟩ := y
  obtain ⟨x1, x2, rfl, ⟨y1, y2, rfl, ⟨rfl, he⟩, a, n, c, rfl, hs⟩, sa, sn, sc, rfl, hss⟩ := h
  exact ⟨e, l, s, a, n, c, sa, sn, sc, rfl, rfl, he, hs, hss⟩
end Go.Proofs.Ytdeomokhjmnfhaa
