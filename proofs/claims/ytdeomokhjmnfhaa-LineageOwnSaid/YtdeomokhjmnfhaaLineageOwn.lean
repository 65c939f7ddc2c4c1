
/- LineageOwn: what is handed in stays and isn't kept, what is handed out is new memory: for every input the law returns true, and its arguments read as before. No condition. -/
import Derived.Test.YtdeomokhjmnfhaaSpo
namespace Go.Proofs.Ytdeomokhjmnfhaa.lineageOwn
open Go.ChangeShapes Go.WideShapes Go.ChangeAt Go.RowKit
set_option linter.unusedVariables false

/-- The copies made so far. -/
def MSt (w4 : World) (chain : List Lk) (k : Nat) (v : Value) (wr : World) : Prop :=
  (∃ a c xs, v = .slice a k c ∧ wr.ownsRow w4.heap.size 27 3 (.slice a k c) k xs ∧ rowOf (shOLink w4.heap.size) (fun j => j < w4.heap.size ∨ (Value.slice a k c).ownBlock = some j) wr (chain.take k) xs) ∧ Below w4.heap.size w4 wr
/-- One copy more. -/
theorem MSt.step {w4 wr w6 w8 : World} {chain : List Lk} {k g cap c : Nat} {a : Option Addr} {xs : List Value} {e : Int} {l : List Int} {sg : List Sg} {a6 s6 : Option Addr} {n1 c6 sn d6 : Nat}
    (hb : Below w4.heap.size w4 wr) (ho : wr.ownsRow w4.heap.size 27 3 (.slice a k c) k xs) (hr : rowOf (shOLink w4.heap.size) (fun j => j < w4.heap.size ∨ (Value.slice a k c).ownBlock = some j) wr (chain.take k) xs)
    (hy : chain[k]? = some ((e, l), sg)) (he : i64 e) (hl : l.length = n1) (hf : ∀ x ∈ l, i64 x) (hby : n1 * 8 ≤ 140737488355328) (hls : sg.length = sn) (hfs : ∀ s ∈ sg, i64 s.1 ∧ s.2.size ≤ 140737488351232) (hbs : sn * 24 ≤ 140737488355328)
    (ho5 : w6.ownsRow wr.heap.size 3 1 (.slice a6 n1 c6) n1 (intsV l)) (ho6 : w6.ownsRow wr.heap.size 62 2 (.slice s6 sn d6) sn (sigV sg)) (hb6 : Below wr.heap.size wr w6)
    (hown : w8.ownsRow w4.heap.size 27 3 (.slice (some ⟨g, 0, none⟩) (k + 1) cap) (k + 1) (xs ++ [.int .i64 e, .slice a6 n1 c6, .slice s6 sn d6]))
    (hg : (w6.alloc (.cells #[.int .i64 e, .slice a6 n1 c6, .slice s6 sn d6] 27)).grownBy w8 (Value.slice a k c).ownBlock) (hor : (Value.slice a k c).ownBlock = some g ∨ g = w6.heap.size + 1) :
    MSt w4 chain (k + 1) (.slice (some ⟨g, 0, none⟩) (k + 1) cap) w8 := by
  have hb7 := bthen hb6 (below_alloc w6 (.cells #[.int .i64 e, .slice a6 n1 c6, .slice s6 sn d6] 27))
  have K8 : Keep (fun j => (Value.slice a k c).ownBlock = some j) wr w8 := (Keep.of_below hb7).grown hg (fun k hk => .inr hk)
  have K6 : Keep (fun j => (Value.slice a k c).ownBlock = some j) w6 w8 := (Keep.of_below (below_alloc w6 _)).grown hg (fun k hk => .inr hk)
  have hol := ho.lt
  have hzr := hb.size
  have hz6 := hb6.size
  refine ⟨⟨_, _, _, rfl, hown, ?_⟩, grown_below (bthen hb hb7) hg (fun j hj => (hol j hj).1)⟩
  rw [List.take_add_one, hy]
  have m6 := owns_keep ho5 K6 (fun j hj hc => by have := (ho5.lt j hj).1; have := (hol j hc).2; omega)
  have m7 := owns_keep ho6 K6 (fun j hj hc => by have := (ho6.lt j hj).1; have := (hol j hc).2; omega)
  have hX : ∀ j, wr.heap.size ≤ j → j < w6.heap.size → ¬ (j < w4.heap.size ∨ (Value.slice (some ⟨g, 0, none⟩) (k + 1) cap).ownBlock = some j) := fun j h1 h2 hx => by
    rcases hx with hx | hx
    · omega
    · have hx : some g = some j := hx
      injection hx with hx; subst hx
      rcases hor with h8 | h8
      · have := (hol _ h8).2; omega
      · omega
  refine (hr.step K8 (fun j _ hj => .inr hj) (fun j hj hx => ?_)).snoc rfl (fun w' hk' => ⟨a6, n1, c6, s6, sn, d6, rfl, he, owns_lower (owns_keep m6 hk' (fun j hj hx => hX j (ho5.lt j hj).1 (ho5.lt j hj).2 hx)) hzr, hl, hf, hby, owns_lower (owns_keep m7 hk' (fun j hj hx => hX j (ho6.lt j hj).1 (ho6.lt j hj).2 hx)) hzr, hls, hfs, hbs⟩)
  rcases hx with hx | hx
  · exact .inl hx
  · have hx : some g = some j := hx
    injection hx with hx; subst hx
    rcases hor with h8 | h8
    · exact .inr h8
    · omega

set_option maxRecDepth 100000 in
set_option maxHeartbeats 4000000 in
theorem walk (w : World) (e0 : Int) (a0 : Option Addr) (n0 c0 : Nat) (l0 : List Int) (h0 : i64 e0) (s0 : SlAt Sh.int w a0 n0 c0 l0) (a : Option Addr) (n c : Nat) (chain : List Lk) (hs : SlAt shLink w a n c chain) :
    Calls Try.prog 7 #[.agg #[.int .i64 e0, .slice a0 n0 c0], .slice a n c] w fun e w' => e = .returned (.bool true) ∧ Below w.heap.size w w' := by
  obtain ⟨i1, hi1, hc0, hc1, hc2⟩ := info_parts info_int'
  obtain ⟨il, hil, hl0, hl1, hl2⟩ := info_parts info_link'
  have hlen := hs.len
  have hmax := Nat.le_trans hs.cap hs.max
  have hbyc : n * 56 ≤ 140737488355328 := hs.bytes
  have HS := Lib.hid hs
  have HI := Lib.hid s0
  have k1 : n0 ≤ maxLen := by have := s0.cap; have := s0.max; simp only [maxLen]; omega
  have k2 : n0 * 8 ≤ 140737488355328 := s0.bytes
  have hn1 := Lib.hid (show a0 = none → n0 = 0 ∧ c0 = 0 from fun hn => ⟨by have := s0.nil hn; have := s0.cap; omega, s0.nil hn⟩)
  have q1 := Lib.hid (show (intsV l0).length = n0 * 1 by simp [intsV, s0.len])
  have HL0 := Lib.hid s0.len
  have HLC := Lib.hid hlen
  clear hs s0 hlen
  go_enter Try.func7, Try.ntmps7
  go_wp2_with fail
  refine (lives10_any _).mono ?_
  rintro r w1 ⟨rfl, b1⟩
  have HX := Lib.hid (show ∀ w', Below w1.heap.size w1 w' → w'.cell? ⟨w.heap.size, 0, none⟩ = some (.int .i64 e0) ∧ w'.cell? ⟨w.heap.size, 1, none⟩ = some (.slice a0 n0 c0) from fun w' hb =>
    ⟨below_cell hb (below_cell b1 (b := w.heap.size) (o := 0) (v := .int .i64 e0) (by simp)), below_cell hb (below_cell b1 (b := w.heap.size) (o := 1) (v := .slice a0 n0 c0) (by simp))⟩)
  have B1 := Lib.hid (bthen (below_alloc w _) b1)
  obtain ⟨x0, x1⟩ := HX.out w1 (Below.refl _ _)
  have HB := Lib.hid (below_drewN (Below.refl w1.heap.size w1) 1)
  have HIN := Lib.hid (fun (w' : World) (hb : Below w1.heap.size w1 w') => ints_news (ints_of_sl (HI.out.old (bthen B1.out hb))))
  clear b1
  go_wp2_with fail
  have hlt0 := World.block_lt x0
  have hne1 : ¬ w1.heap.size = w.heap.size := by omega
  have hne2 : ¬ w.heap.size = w1.heap.size := by omega
  have HBa := Lib.hid (bthen HB.out (below_alloc w1.drew (.cells #[.int .i64 0, .slice none 0 0] 24)))
  go_cut [5] (fun v wc => Hid (∃ P a5 c5, v = .pointer (some ⟨P, 0, none⟩) ∧ w1.heap.size ≤ P ∧ wc.heap[P]? = some (.cells #[.int .i64 e0, .slice a5 n0 c5] 24 (0, 0)) ∧ wc.ownsRow w1.heap.size 3 1 (.slice a5 n0 c5) n0 (intsV l0) ∧ (∀ k, a5 = some ⟨k, 0, none⟩ → k ≠ P) ∧ Below w1.heap.size w1 wc))
  case first =>
    go_region_held3 (fun w' => w'.cell? ⟨w.heap.size, 0, none⟩ = some (.int .i64 e0) ∧ w'.cell? ⟨w.heap.size, 1, none⟩ = some (.slice a0 n0 c0)) (first | exact ⟨by assumption, by assumption⟩ | go_keep)
      (first
        | (refine step_append_nil _ rfl (.const (.slice none 0 0)) (.tmp 23) 22 rfl 3 i1 (.int .i64 0) 1 8 Try.underlying22 hi1 hc0 hc1 hc2 rfl (by decide) rfl a0 n0 c0 (intsV l0) rfl q1.out hn1.out (HIN.out _ HB.out) (intsV_one l0) k1 k2 ?_; intro v5 w2 ho5 b2; obtain ⟨a5, c5, rfl⟩ := owns_form ho5; have HB := Lib.hid (bthen HB.out b2); have HO5 := Lib.hid ho5; clear ho5 b2; obtain ⟨x0, x1⟩ := HX.out _ HB.out)
        | (refine step_append_nil _ rfl (.const (.slice none 0 0)) (.tmp 23) 22 rfl 3 i1 (.int .i64 0) 1 8 Try.underlying22 hi1 hc0 hc1 hc2 rfl (by decide) rfl a0 n0 c0 (intsV l0) rfl q1.out hn1.out (HIN.out _ HBa.out) (intsV_one l0) k1 k2 ?_; intro v5 w2 ho5 b2; obtain ⟨a5, c5, rfl⟩ := owns_form ho5; have KP := Lib.hid (show w2.heap[w1.heap.size]? = some (.cells #[.int .i64 0, .slice none 0 0] 24 (0, 0)) from blk_below (blk_alloc w1.drew (.cells #[.int .i64 0, .slice none 0 0] 24)) b2); have y0 : w2.cell? ⟨w1.heap.size, 0, none⟩ = some (.int .i64 0) := (by rw [blk_cell KP.out]; rfl); have y1 : w2.cell? ⟨w1.heap.size, 1, none⟩ = some (.slice none 0 0) := (by rw [blk_cell KP.out]; rfl); have yf : ∀ o, w2.frozen? ⟨w1.heap.size, o, none⟩ = false := (fun o => blk_frozen KP.out o); have HB := Lib.hid (bthen HBa.out b2); have HO5 := Lib.hid ho5; clear ho5 b2; obtain ⟨x0, x1⟩ := HX.out _ HB.out))
    · have HM := Lib.hid (show ∃ P a5' c5', Value.pointer (some ⟨w2.heap.size, 0, none⟩) = .pointer (some ⟨P, 0, none⟩) ∧ w1.heap.size ≤ P ∧ (w2.alloc (.cells #[.int .i64 e0, .slice a5 n0 c5] 24)).heap[P]? = some (.cells #[.int .i64 e0, .slice a5' n0 c5'] 24 (0, 0)) ∧ (w2.alloc (.cells #[.int .i64 e0, .slice a5 n0 c5] 24)).ownsRow w1.heap.size 3 1 (.slice a5' n0 c5') n0 (intsV l0) ∧ (∀ k, a5' = some ⟨k, 0, none⟩ → k ≠ P) ∧ Below w1.heap.size w1 (w2.alloc (.cells #[.int .i64 e0, .slice a5 n0 c5] 24)) from
        ⟨w2.heap.size, a5, c5, rfl, HB.out.size, blk_alloc _ _, owns_old HO5.out (below_alloc _ _), fun k hk => by
          have := (HO5.out.lt k (by rw [hk]; rfl)).2
          omega, bthen HB.out (below_alloc _ _)⟩)
      clear x0 x1
      go_wp2_with fail
      go_meet
      case rel => exact HM
    · have hs := blk_set (blk_set KP.out 0 (.int .i64 e0)) 1 (.slice a5 n0 c5)
      have ho : w2.ownsRow (w1.heap.size + 1) 3 1 (.slice a5 n0 c5) n0 (intsV l0) := by have h := HO5.out; simpa using h
      have HM := Lib.hid (show ∃ P a5' c5', Value.pointer (some ⟨w1.heap.size, 0, none⟩) = .pointer (some ⟨P, 0, none⟩) ∧ w1.heap.size ≤ P ∧ ((w2.setCell ⟨w1.heap.size, 0, none⟩ (.int .i64 e0)).setCell ⟨w1.heap.size, 1, none⟩ (.slice a5 n0 c5)).heap[P]? = some (.cells #[.int .i64 e0, .slice a5' n0 c5'] 24 (0, 0)) ∧ ((w2.setCell ⟨w1.heap.size, 0, none⟩ (.int .i64 e0)).setCell ⟨w1.heap.size, 1, none⟩ (.slice a5 n0 c5)).ownsRow w1.heap.size 3 1 (.slice a5' n0 c5') n0 (intsV l0) ∧ (∀ k, a5' = some ⟨k, 0, none⟩ → k ≠ P) ∧ Below w1.heap.size w1 ((w2.setCell ⟨w1.heap.size, 0, none⟩ (.int .i64 e0)).setCell ⟨w1.heap.size, 1, none⟩ (.slice a5 n0 c5)) from
        ⟨w1.heap.size, a5, c5, rfl, Nat.le_refl _, hs, owns_lower (owns_setlow (owns_setlow ho (Nat.lt_succ_self _) 0 (.int .i64 e0)) (Nat.lt_succ_self _) 1 (.slice a5 n0 c5)) (Nat.le_succ _), fun k hk => by
          have := (ho.lt k (by rw [hk]; rfl)).1
          omega, (HB.out.setCell (p := ⟨w1.heap.size, 0, none⟩) (Nat.le_refl _) (.int .i64 e0)).setCell (p := ⟨w1.heap.size, 1, none⟩) (Nat.le_refl _) (.slice a5 n0 c5)⟩)
      clear x0 x1 y0 y1 yf hs ho
      go_wp2_with fail
      go_meet
      case rel => exact HM
  case rest =>
    obtain ⟨P, a5, c5, rfl, hP, hk5, ho5, hne5, hb5⟩ := hcut.out
    have KP := Lib.hid hk5; have HO5 := Lib.hid ho5; have HNE := Lib.hid hne5; have B3 := Lib.hid hb5
    have hP3 := blk_lt hk5
    have z0 : wc.cell? ⟨P, 0, none⟩ = some (.int .i64 e0) := by rw [blk_cell hk5]; rfl
    have z1 : wc.cell? ⟨P, 1, none⟩ = some (.slice a5 n0 c5) := by rw [blk_cell hk5]; rfl
    have HSO := Lib.hid (ints_row ho5 HL0.out (ints_of_sl HI.out).fit k2)
    have HN5 := Lib.hid (show a5 = none → c5 = 0 ∧ n0 = 0 from fun h => ⟨HSO.out.nil h, by have := HSO.out.nil h; have := HSO.out.cap; omega⟩)
    clear hcut hk5 ho5 hne5 hb5 x0 x1 HB HBa hne1 hne2
    go_wp2_with fail
    refine (new_any e0 a5 n0 c5 l0 wc (ints_of_sl HSO.out) HN5.out k2 h0).mono ?_
    rintro r w4 ⟨b4, h4⟩
    have B4 := Lib.hid (bthen B3.out b4)
    have BC4 := Lib.hid b4
    clear z0 z1 b4
    rcases h4 with ⟨_, he, X, p, oc, rfl, hp, hX, ht⟩ | ⟨_, rfl⟩
    · have HE := Lib.hid (show 0 ≤ ((e0, l0) : Cf).1 by rw [he]; exact Int.le_refl _)
      have HT4 := Lib.hid ht; have HXC := Lib.hid hX
      clear he ht hX hp
      go_wp2_with fail
      have HM0 := Lib.hid (show MSt w4 chain 0 (.slice none 0 0) w4 from ⟨⟨none, 0, [], rfl, World.ownsRow_nil _ _ _ _, rfl⟩, Below.refl _ _⟩)
      have hil' := Lib.hid hil
      have HL2 := Lib.hid hl2
      have hz4 := B4.out.size
      have BW4 := Lib.hid (bthen B1.out B4.out)
      clear hl2
      go_loopw [8, 9] (fun v i wr => ∃ k : Nat, k ≤ n ∧ i = .int .i64 k ∧ Hid (MSt w4 chain k v wr)) (fun _ i _ => n - (intOf i).toNat)
      case atStart => exact ⟨0, by omega, rfl, HM0⟩
      case round =>
        clear HM0
        obtain ⟨k, hk, rfl, HM⟩ := hrel
        by_cases hlt : k < n
        · obtain ⟨⟨av, cv, xs, rfl, ho, hr⟩, hb⟩ := HM.out
          obtain ⟨⟨⟨e, l⟩, sg⟩, hy⟩ : ∃ y, chain[k]? = some y := ⟨_, List.getElem?_eq_getElem (by rw [HLC.out]; exact hlt)⟩
          obtain ⟨b, o, a1, n1, c1, sa, sn, sc, rfl, m0, m1, m2, he, hs1, hg1⟩ := link_cells (HS.out.old (bthen BW4.out hb)) hy
          have hj0 : (0 : Int) ≤ (k : Int) := by omega
          have hj1 : (k : Int) < (n : Int) := by omega
          have CP := Lib.hid (copied_any e a1 n1 c1 l sa sn sc sg wr hs1 hg1)
          have HSTEP := Lib.hid (fun (w6 w8 : World) (g cap : Nat) (a6 s6 : Option Addr) (c6 d6 : Nat) h1 h2 h3 h4 h5 h6 => MSt.step (w6 := w6) (w8 := w8) (g := g) (cap := cap) (a6 := a6) (s6 := s6) (c6 := c6) (d6 := d6) hb ho hr hy he hs1.len (ints_of_sl hs1).fit hs1.bytes hg1.len (sl_fit hg1) hg1.bytes h1 h2 h3 h4 h5 h6)
          have HO := Lib.hid ho
          have hzr := hb.size
          have ho1 : k + 1 ≤ maxLen := by simp only [maxLen]; omega
          have ho2 : (k + 1) * 56 ≤ 140737488355328 := by omega
          clear ho hr hb hy he hs1 hg1 HM
          go_wp2_with fail
          refine CP.out.mono ?_
          rintro r w6 ⟨a6, c6, s6, d6, rfl, h5, h6, _, hb6⟩
          have H5 := Lib.hid h5; have H6 := Lib.hid h6; have HB6 := Lib.hid hb6
          have hz6 := hb6.size
          have HOW := Lib.hid (owns_old HO.out (bthen hb6 (below_alloc w6 (.cells #[.int .i64 e, .slice a6 n1 c6, .slice s6 sn d6] 27))))
          clear h5 h6 hb6 CP m0 m1 m2
          go_wp2_with (first | (at_builtin; refine wpList_append_lies _ rfl (.tmp 41) (.tmp 47) 36 rfl w4.heap.size 27 il (.agg #[.int .i64 0, .slice none 0 0, .slice none 0 0]) 3 56 Try.underlying36 hil'.out hl0 hl1 HL2.out rfl (by decide) (.slice av k cv) k xs rfl HOW.out ⟨w6.heap.size, 0, none⟩ 1 1 [.int .i64 e, .slice a6 n1 c6, .slice s6 sn d6] rfl rfl (link_new w6 e a6 n1 c6 s6 sn d6 _) (by simp [Value.oneCell']) (by decide) ho1 ho2 (by simp; omega) _ rfl ?_) | fail)
          intro g cap w8 hown8 hg8 hor8 hlt8
          have HN := Lib.hid (HSTEP.out w6 w8 g cap a6 s6 c6 d6 H5.out H6.out HB6.out hown8 hg8 (by simpa using hor8))
          clear hown8 hg8 hor8 hlt8 HSTEP HOW HO H5 H6 HB6
          go_wp2_with fail
          go_roundw
          case rel => exact ⟨k + 1, by omega, rfl, HN⟩
          case measure => simp [intOf]; omega
        · obtain rfl : n = k := by omega
          obtain ⟨⟨av, cv, xs, rfl, ho, hr⟩, hb⟩ := HM.out
          have hLn := HLC.out
          rw [List.take_of_length_le (by omega)] at hr
          subst hLn
          obtain ⟨w5, rfl⟩ : ∃ w5 : World, w5 = wr := ⟨_, rfl⟩
          have hR : RSl shLink (trX p oc none) w5 av chain.length cv chain := rsl_row (S := shLink) ho ((row_links hr).step (Y := fun _ => False) (Keep.refl _ _) (fun _ _ h => h.elim) (fun k _ hk => .inl (trX_lt HT4.out k hk))) hbyc (fun k hk hx => by
            have := (ho.lt k hk).1
            have := trX_lt HT4.out k hx
            omega)
          have CT := Lib.hid (take_any X wc.heap.size p oc none (e0, l0) [] [] av chain.length cv chain w5 (HT4.out.old hb) (Nat.le_trans BC4.out.size hb.size) (by simp) (by simp) hR)
          have HR := Lib.hid hR; have HO := Lib.hid ho; have HRR := Lib.hid hr; have HB5 := Lib.hid hb
          have HOR := Lib.hid (orow_of ho rfl hr)
          have HTZ := Lib.hid (fun h : takeC (e0, l0) [] chain = 0 => (take_zero (L := []) h).1)
          generalize takeC (e0, l0) [] chain = x at *
          clear hR ho hr hb HM
          go_wp2_with fail
          refine CT.out.mono ?_
          intro r w6 h6
          obtain ⟨⟨L', hos, hx0, hx1⟩, hk6⟩ := ost_take HT4.out HXC.out HB5.out h6
          obtain ⟨rfl, -, -⟩ := h6
          have HLL := Lib.hid (show L'.length ≤ 64 from by
            by_cases hx : x = 0
            · rw [hx0 hx]; exact HTZ.out hx
            · rw [hx1 hx]; decide)
          have HOS := Lib.hid hos; have HK6 := Lib.hid hk6; have HX0 := Lib.hid hx0; have HX1 := Lib.hid hx1
          have B6 := Lib.hid (show Below wc.heap.size wc w6 from hk6.below (bthen BC4.out HB5.out) (fun k hk => trX_ge HT4.out k hk))
          have BW6 := Lib.hid (bthen (bthen B1.out B3.out) B6.out)
          have hz6 := hk6.size
          have HOR6 := Lib.hid (HOR.out.far hk6 (fun k _ hk => ⟨fun hc => by have := trX_lt HT4.out k hk; omega, fun hc => by
            have := (HO.out.lt k (by rw [hc]; rfl)).1
            have := trX_lt HT4.out k hk
            omega⟩))
          have CS := samelinks_any av chain.length cv chain a chain.length c chain w6 (HR.out.rob w6 hk6) (HS.out.old BW6.out)
          rw [decide_eq_true rfl] at CS
          replace CS := Lib.hid CS
          clear hos hk6 hx0 hx1 CT HR
          go_wp2_with fail
          refine CS.out.mono ?_
          rintro r w7 ⟨rfl, b7⟩
          have B7 := Lib.hid (bthen B6.out b7)
          have kp := blk_below KP.out B7.out
          have z0 : w7.cell? ⟨P, 0, none⟩ = some (.int .i64 e0) := by rw [blk_cell kp]; rfl
          have z1 : w7.cell? ⟨P, 1, none⟩ = some (.slice a5 n0 c5) := by rw [blk_cell kp]; rfl
          obtain ⟨x0, x1⟩ := HX.out _ (bthen B3.out B7.out)
          have CC := samec_any e0 a5 n0 c5 l0 e0 a0 n0 c0 l0 w7 (ints_of_sl (HSO.out.old B7.out)) (ints_of_sl (HI.out.old (bthen (bthen B1.out B3.out) B7.out)))
          rw [decide_eq_true rfl] at CC
          replace CC := Lib.hid CC
          have B67 := Lib.hid b7
          clear kp b7 CS
          go_wp2_with fail
          refine CC.out.mono ?_
          rintro r w8 ⟨rfl, b8⟩
          have B68 := Lib.hid (bthen B67.out b8)
          have B8 := Lib.hid (bthen B7.out b8)
          have HOS8 := Lib.hid (HOS.out.keep (Keep.of_below (X := fun _ => False) B68.out) (fun _ _ h => h.elim))
          have HOR8 := Lib.hid (HOR6.out.step (Keep.of_below (X := fun _ => False) B68.out) (Shp.of_below B68.out) (fun _ _ h => h.elim))
          have OW8 := Lib.hid (ownw_keep (by have := owns_ownws HO5.out; rwa [Nat.mul_one] at this) (Keep.of_below (X := fun _ => False) B8.out) (fun _ _ h => h))
          have HZ8 := Lib.hid (Nat.le_trans hz6 B68.out.size)
          have h5lt := Lib.hid (show ∀ k, a5 = some ⟨k, 0, none⟩ → k < wc.heap.size from fun k hk => (HO5.out.lt k (by rw [hk]; rfl)).2)
          have HK0 := Lib.hid (Keep.refl (fun k => a5 = some ⟨k, 0, none⟩) w8)
          have HS0 := Lib.hid (Shp.refl w8)
          have hn063 : n0 ≤ 9223372036854775807 := by simp only [maxLen] at k1; omega
          clear b8 CC x0 x1 z0 z1 HOS HOR6
          go_wp2_with fail
          go_loopw [10] (fun i wr => ∃ k : Nat, k ≤ n0 ∧ i = .int .i64 k ∧ Hid (Keep (fun k => a5 = some ⟨k, 0, none⟩) w8 wr) ∧ Hid (Shp w8 wr)) (fun i _ => n0 - (intOf i).toNat)
          case atStart => exact ⟨0, by omega, rfl, HK0, HS0⟩
          case round =>
            clear HK0 HS0 hlt
            obtain ⟨k, hk, rfl, HK, HSH⟩ := hrel
            have kp : wr.heap[P]? = some (.cells #[.int .i64 e0, .slice a5 n0 c5] 24 (0, 0)) := by rw [HK.out.block P (blk_lt (blk_below KP.out B8.out)) (fun hc => HNE.out P hc rfl)]; exact blk_below KP.out B8.out
            have z1 : wr.cell? ⟨P, 1, none⟩ = some (.slice a5 n0 c5) := by rw [blk_cell kp]; rfl
            clear kp
            by_cases hlt : k < n0
            · obtain ⟨g, cur, v, rfl, hB, hc, hf, hg⟩ := ownw_at (ownw_shp OW8.out HSH.out) k hlt
              have HK2 := Lib.hid (HK.out.set (p := g) (.inr rfl) k (.int .i64 (-9)))
              have HS2 := Lib.hid (HSH.out.trans (Shp.set wr g k (.int .i64 (-9))))
              have hj0 : (0 : Int) ≤ (k : Int) := by omega
              have hj1 : (k : Int) < (n0 : Int) := by omega
              clear hg hB HK HSH
              go_wp2_with fail
              go_roundw
              case rel => exact ⟨k + 1, by omega, by go_num, HK2, HS2⟩
              case measure => simp [intOf]; omega
            · go_wp2_with fail
              obtain ⟨w9, rfl⟩ : ∃ w9 : World, w9 = wr := ⟨_, rfl⟩
              have hz9 := HK.out.size
              have HOS9 := Lib.hid (HOS8.out.keep HK.out (fun k _ hk => .inl (h5lt.out k hk)))
              have HOR9 := Lib.hid (HOR8.out.far HK.out (fun k _ hk => ⟨fun hc => by have := h5lt.out k hk; have := BC4.out.size; omega, fun hc => by
                have := (HO.out.lt k (by rw [hc]; rfl)).1
                have := h5lt.out k hk
                have := BC4.out.size
                omega⟩))
              have B9 := Lib.hid (HK.out.below (bthen B3.out B8.out) (fun k hk => (HO5.out.lt k (by rw [hk]; rfl)).1))
              have HK0 := Lib.hid (Keep.refl (fun k => w4.heap.size ≤ k ∧ k < w5.heap.size ∧ (Value.slice av chain.length cv).ownBlock ≠ some k) w9)
              have HS0 := Lib.hid (Shp.refl w9)
              clear HK HSH hlt hk z1 HOS8 HOR8
              go_loopw [11] (fun i wr => ∃ k : Nat, k ≤ chain.length ∧ i = .int .i64 k ∧ Hid (Keep (fun k => w4.heap.size ≤ k ∧ k < w5.heap.size ∧ (Value.slice av chain.length cv).ownBlock ≠ some k) w9 wr) ∧ Hid (Shp w9 wr)) (fun i _ => chain.length - (intOf i).toNat)
              case atStart => exact ⟨0, by omega, rfl, HK0, HS0⟩
              case round =>
                clear HK0 HS0
                obtain ⟨k, hk, rfl, HK, HSH⟩ := hrel
                by_cases hlt : k < chain.length
                · obtain ⟨b, e, a1, n1, c1, sa, sn, sc, rfl, hnb, ⟨m0, m1, m2⟩, o1, o2, g1, g2, g3⟩ := (HOR9.out.step HK.out HSH.out (fun _ _ h => h)) k hlt
                  have CSP := Lib.hid (spoil_any 0 e a1 n1 c1 sa sn sc wr o1 o2 g1 g2 (fun k hk => (g3 k (.inl hk)).2) (fun k hk => (g3 k (.inr hk)).2))
                  have HTW := Lib.hid (fun k hk => (g3 k hk).1)
                  have hj0 : (0 : Int) ≤ (k : Int) := by omega
                  have hj1 : (k : Int) < (chain.length : Int) := by omega
                  replace m0 : wr.cell? ⟨b, 0 + k * 3, none⟩ = some (.int .i64 e) := by rw [Nat.zero_add]; exact m0
                  replace m1 : wr.cell? ⟨b, 0 + k * 3 + 1, none⟩ = some (.slice a1 n1 c1) := by rw [Nat.zero_add]; exact m1
                  replace m2 : wr.cell? ⟨b, 0 + k * 3 + 2, none⟩ = some (.slice sa sn sc) := by rw [Nat.zero_add]; exact m2
                  simp only [Nat.zero_add] at m0 m1 m2
                  clear hnb o1 o2 g1 g2 g3
                  go_wp2_with fail
                  refine CSP.out.mono ?_
                  rintro r w10 ⟨rfl, hk10, hs10⟩
                  have HK2 := Lib.hid (HK.out.trans hk10 (fun k _ hk => HTW.out k hk))
                  have HS2 := Lib.hid (HSH.out.trans hs10)
                  clear hk10 hs10 HK HSH CSP HTW m0 m1 m2
                  go_wp2_with fail
                  go_roundw
                  case rel => exact ⟨k + 1, by omega, by go_num, HK2, HS2⟩
                  case measure => simp [intOf]; omega
                · obtain ⟨w10, rfl⟩ : ∃ w10 : World, w10 = wr := ⟨_, rfl⟩
                  have hz10 := HK.out.size
                  have HOS10 := Lib.hid (OSt.more (HOS9.out.keep HK.out (fun k _ hk => .inr ⟨hk.1, hk.2.1⟩)))
                  have B10 := Lib.hid (HK.out.below B9.out (fun k hk => Nat.le_trans B4.out.size hk.1))
                  clear HK HSH HOS9 HOR9
                  have CCH := Lib.hid (HOS10.out.chain HLL.out)
                  go_wp2_with fail
                  refine CCH.out.mono ?_
                  rintro r w11 ⟨b11, al, cl, xl, rfl, hol, hrl⟩
                  have HORL := Lib.hid (orow_of hol rfl hrl)
                  have HOS11 := Lib.hid (HOS10.out.keep (Keep.of_below (X := fun _ => False) b11) (fun _ _ h => h.elim))
                  have B11 := Lib.hid (bthen B10.out b11)
                  have HK0 := Lib.hid (Keep.refl (fun k => w10.heap.size ≤ k ∧ k < w11.heap.size ∧ (Value.slice al L'.length cl).ownBlock ≠ some k) w11)
                  have HS0 := Lib.hid (Shp.refl w11)
                  have hL' := HLL.out
                  clear hol hrl b11 CCH HOS10 hlt hk
                  go_wp2_with fail
                  go_loopw [13] (fun i wr => ∃ k : Nat, k ≤ L'.length ∧ i = .int .i64 k ∧ Hid (Keep (fun k => w10.heap.size ≤ k ∧ k < w11.heap.size ∧ (Value.slice al L'.length cl).ownBlock ≠ some k) w11 wr) ∧ Hid (Shp w11 wr)) (fun i _ => L'.length - (intOf i).toNat)
                  case atStart => exact ⟨0, by omega, rfl, HK0, HS0⟩
                  case round =>
                    clear HK0 HS0
                    obtain ⟨k, hk, rfl, HK, HSH⟩ := hrel
                    by_cases hlt : k < L'.length
                    · obtain ⟨b, e, a1, n1, c1, sa, sn, sc, rfl, hnb, ⟨m0, m1, m2⟩, o1, o2, g1, g2, g3⟩ := (HORL.out.step HK.out HSH.out (fun _ _ h => h)) k hlt
                      have CSP := Lib.hid (spoil_any 0 e a1 n1 c1 sa sn sc wr o1 o2 g1 g2 (fun k hk => (g3 k (.inl hk)).2) (fun k hk => (g3 k (.inr hk)).2))
                      have HTW := Lib.hid (fun k hk => (g3 k hk).1)
                      have hj0 : (0 : Int) ≤ (k : Int) := by omega
                      have hj1 : (k : Int) < (L'.length : Int) := by omega
                      clear hnb o1 o2 g1 g2 g3
                      go_wp2_with fail
                      refine CSP.out.mono ?_
                      rintro r w12 ⟨rfl, hk10, hs10⟩
                      have HK2 := Lib.hid (HK.out.trans hk10 (fun k _ hk => HTW.out k hk))
                      have HS2 := Lib.hid (HSH.out.trans hs10)
                      clear hk10 hs10 HK HSH CSP HTW m0 m1 m2
                      go_wp2_with fail
                      go_roundw
                      case rel => exact ⟨k + 1, by omega, by go_num, HK2, HS2⟩
                      case measure => simp [intOf]; omega
                    · obtain ⟨w12, rfl⟩ : ∃ w12 : World, w12 = wr := ⟨_, rfl⟩
                      have hz12 := HK.out.size
                      have HOS12 := Lib.hid (OSt.more (HOS11.out.keep HK.out (fun k _ hk => .inr hk.1)))
                      have B12 := Lib.hid (HK.out.below B11.out (fun k hk => Nat.le_trans B10.out.size hk.1))
                      have CA0 := Lib.hid (HOS12.out.at0 HLL.out)
                      clear HK HSH HOS11 HORL hk
                      go_wp2_with fail
                      refine CA0.out.mono ?_
                      rintro r w13 ⟨b13, ac, nc, cc, rfl, hoc, hlc, hfc, hbc⟩
                      obtain ⟨wq, hwq⟩ : ∃ wq, wq = w13.alloc (.cells #[.int .i64 e0, .slice ac nc cc] 24) := ⟨_, rfl⟩
                      have bq := below_alloc w13 (.cells #[.int .i64 e0, .slice ac nc cc] 24)
                      have kq := blk_alloc w13 (.cells #[.int .i64 e0, .slice ac nc cc] 24)
                      rw [← hwq] at bq kq
                      have BQ := Lib.hid (bthen B12.out (bthen b13 bq))
                      have BQ12 := Lib.hid (bthen b13 bq)
                      have KQ := Lib.hid kq
                      have HOC := Lib.hid (owns_old hoc bq)
                      have hcl := Lib.hid (show ∀ k, ac = some ⟨k, 0, none⟩ → w12.heap.size ≤ k ∧ k < w13.heap.size from fun k hk => hoc.lt k (by rw [hk]; rfl))
                      have y0 : wq.cell? ⟨w13.heap.size, 0, none⟩ = some (.int .i64 e0) := by rw [blk_cell kq]; rfl
                      have y1 : wq.cell? ⟨w13.heap.size, 1, none⟩ = some (.slice ac nc cc) := by rw [blk_cell kq]; rfl
                      obtain ⟨x0, x1⟩ := HX.out wq BQ.out
                      have CC2 := samec_any e0 ac nc cc l0 e0 a0 n0 c0 l0 wq (ints_of_sl (ints_row (owns_old hoc bq) hlc hfc hbc)) (ints_of_sl (HI.out.old (bthen B1.out BQ.out)))
                      rw [decide_eq_true rfl] at CC2
                      replace CC2 := Lib.hid CC2
                      have HOSQ := Lib.hid (HOS12.out.keep (Keep.of_below (X := fun _ => False) BQ12.out) (fun _ _ h => h.elim))
                      rw [hwq] at y0 y1 x0 x1
                      have hnc : nc ≤ 9223372036854775807 := by omega
                      clear hoc bq kq b13 hlc hfc hbc CA0 HOS12
                      go_wp2_with fail
                      rw [← hwq]
                      clear hwq y0 y1 x0 x1
                      refine CC2.out.mono ?_
                      rintro r w14 ⟨rfl, b14⟩
                      have BQ14 := Lib.hid (bthen BQ12.out b14)
                      have B14 := Lib.hid (bthen BQ.out b14)
                      have HOS14 := Lib.hid (HOSQ.out.keep (Keep.of_below (X := fun _ => False) b14) (fun _ _ h => h.elim))
                      have KQ14 := Lib.hid (blk_below KQ.out b14)
                      have OWC := Lib.hid (show OwnW w14 3 w12.heap.size ac nc by have := owns_ownws (owns_old HOC.out b14); rwa [Nat.mul_one] at this)
                      have HK0 := Lib.hid (Keep.refl (fun k => ac = some ⟨k, 0, none⟩) w14)
                      have HS0 := Lib.hid (Shp.refl w14)
                      clear b14 CC2 HOSQ HOC KQ hlt
                      go_wp2_with fail
                      go_loopw [16] (fun i wr => ∃ k : Nat, k ≤ nc ∧ i = .int .i64 k ∧ Hid (Keep (fun k => ac = some ⟨k, 0, none⟩) w14 wr) ∧ Hid (Shp w14 wr)) (fun i _ => nc - (intOf i).toNat)
                      case atStart => exact ⟨0, by omega, rfl, HK0, HS0⟩
                      case round =>
                        clear HK0 HS0
                        obtain ⟨k, hk, rfl, HK, HSH⟩ := hrel
                        have kp : wr.heap[w13.heap.size]? = some (.cells #[.int .i64 e0, .slice ac nc cc] 24 (0, 0)) := by rw [HK.out.block _ (blk_lt KQ14.out) (fun hc => by have := (hcl.out _ hc).2; omega)]; exact KQ14.out
                        have z1 : wr.cell? ⟨w13.heap.size, 1, none⟩ = some (.slice ac nc cc) := by rw [blk_cell kp]; rfl
                        clear kp
                        by_cases hlt : k < nc
                        · obtain ⟨g, cur, v, rfl, hB, hc, hf, hg⟩ := ownw_at (ownw_shp OWC.out HSH.out) k hlt
                          have HK2 := Lib.hid (HK.out.set (p := g) (.inr rfl) k (.int .i64 (-8)))
                          have HS2 := Lib.hid (HSH.out.trans (Shp.set wr g k (.int .i64 (-8))))
                          have hj0 : (0 : Int) ≤ (k : Int) := by omega
                          have hj1 : (k : Int) < (nc : Int) := by omega
                          clear hg hB HK HSH
                          go_wp2_with fail
                          go_roundw
                          case rel => exact ⟨k + 1, by omega, by go_num, HK2, HS2⟩
                          case measure => simp [intOf]; omega
                        · obtain ⟨w15, rfl⟩ : ∃ w15 : World, w15 = wr := ⟨_, rfl⟩
                          have HOS15 := Lib.hid (HOS14.out.keep HK.out (fun k _ hk => .inr (hcl.out k hk).1))
                          have B15 := Lib.hid (HK.out.below B14.out (fun k hk => Nat.le_trans B12.out.size (hcl.out k hk).1))
                          have CA0 := Lib.hid (HOS15.out.at0 HLL.out)
                          clear HK HSH HOS14 hk
                          go_wp2_with fail
                          clear z1
                          refine CA0.out.mono ?_
                          rintro r w16 ⟨b16, ad, nd, cd, rfl, hod, hld, hfd, hbd⟩
                          obtain ⟨wd, hwd⟩ : ∃ wd, wd = w16.alloc (.cells #[.int .i64 e0, .slice ad nd cd] 24) := ⟨_, rfl⟩
                          have bd := below_alloc w16 (.cells #[.int .i64 e0, .slice ad nd cd] 24)
                          have kd := blk_alloc w16 (.cells #[.int .i64 e0, .slice ad nd cd] 24)
                          rw [← hwd] at bd kd
                          have BD := Lib.hid (bthen B15.out (bthen b16 bd))
                          have y0 : wd.cell? ⟨w16.heap.size, 0, none⟩ = some (.int .i64 e0) := by rw [blk_cell kd]; rfl
                          have y1 : wd.cell? ⟨w16.heap.size, 1, none⟩ = some (.slice ad nd cd) := by rw [blk_cell kd]; rfl
                          obtain ⟨x0, x1⟩ := HX.out wd BD.out
                          have CC3 := samec_any e0 ad nd cd l0 e0 a0 n0 c0 l0 wd (ints_of_sl (ints_row (owns_old hod bd) hld hfd hbd)) (ints_of_sl (HI.out.old (bthen B1.out BD.out)))
                          rw [decide_eq_true rfl] at CC3
                          replace CC3 := Lib.hid CC3
                          have HOSD := Lib.hid (HOS15.out.keep (Keep.of_below (X := fun _ => False) (bthen b16 bd)) (fun _ _ h => h.elim))
                          rw [hwd] at y0 y1 x0 x1
                          clear hod bd kd b16 hld hfd hbd CA0 HOS15 hlt
                          by_cases hxx : x = 0
                          · have hL := HX0.out hxx
                            subst hL
                            subst hxx
                            go_wp2_with fail
                            rw [← hwd]
                            clear hwd y0 y1 x0 x1
                            refine CC3.out.mono ?_
                            rintro r w17 ⟨rfl, b17⟩
                            have B17 := Lib.hid (bthen BD.out b17)
                            have CCH2 := Lib.hid ((HOSD.out.keep (Keep.of_below (X := fun _ => False) b17) (fun _ _ h => h.elim)).chain HLL.out)
                            clear b17 CC3
                            go_wp2_with fail
                            refine CCH2.out.mono ?_
                            rintro r w18 ⟨b18, am, cm, xm, rfl, hom, hrm⟩
                            have CS2 := samelinks_any am _ cm L' a _ c L' w18 (rsl_chain (Y := fun _ => False) (by have := HLL.out; omega) hom hrm (fun k hk => hk.elim)).sl (HS.out.old (bthen B1.out (bthen B17.out b18)))
                            rw [decide_eq_true rfl] at CS2
                            replace CS2 := Lib.hid CS2
                            have B18 := Lib.hid (bthen B17.out b18)
                            clear hom hrm b18 CCH2
                            go_wp2_with fail
                            refine CS2.out.mono ?_
                            rintro r w19 ⟨rfl, b19⟩
                            have B19 := Lib.hid (bthen B18.out b19)
                            clear b19 CS2
                            go_wp2_with fail
                            go_ret
                            exact ⟨rfl, bthen B1.out B19.out⟩
                          · have hL := HX1.out hxx
                            subst hL
                            have hxx' : (x != 0) = true := by simpa using hxx
                            go_wp2_with fail
                            rw [← hwd]
                            clear hwd y0 y1 x0 x1
                            refine CC3.out.mono ?_
                            rintro r w17 ⟨rfl, b17⟩
                            have B17 := Lib.hid (bthen BD.out b17)
                            have CE2 := Lib.hid ((HOSD.out.keep (Keep.of_below (X := fun _ => False) b17) (fun _ _ h => h.elim)).epoch HLL.out)
                            clear b17 CC3
                            go_wp2_with fail
                            refine CE2.out.mono ?_
                            rintro r w18 ⟨rfl, rfl⟩
                            go_wp2_with fail
                            go_ret
                            exact ⟨rfl, bthen B1.out B17.out⟩
    · go_wp2_with fail
      go_ret
      exact ⟨rfl, bthen B1.out B4.out⟩

set_option maxRecDepth 100000 in
theorem lifted (os : Os) (started : os.Started) (H : Type) (enc : TypeId × Value → H) :
    ReturnsInHanded {} Try.checked os 7 .any (Rows.lineageOwnSpec.pre6 enc Try.prog Try.f7 Rows.lineageOwnRow.domain false) (Rows.lineageOwnSpec.post enc Try.prog Try.f7 false true false false) := by
  refine returnsInHanded_of_change_sized (C := Try.checked) own started (by kernel_rfl) Try.func7
    (ChangeSpec.witness6 (enc := enc) (C := Try.checked) false ⟨#[], #[.agg #[.int .i64 0, .slice none 0 0], .slice none 0 0], []⟩ 8 (by kernel_rfl) (by kernel_rfl) (by kernel_rfl) (by kernel_rfl)) ?_
  intro W base args ds gs before hval0 hW hcnd hsz _
  have hval : ∀ (j : Nat) t v, Try.f7.params[j]? = some t → args[j]? = some v → Value.okWide Try.prog W .any base t v := hval0
  have hW' := hW
  obtain ⟨p, q, hA0, hV, rfl, hfz, hnd⟩ := hW
  have hA : DataW.TrodAll enc Try.prog W 0 (fun _ => true) true Try.f7.params.toList args.toList ds p := hA0
  rw [Try.params7] at hA hval hsz
  have hA2 := hA
  obtain ⟨v0, vs0, d0, ds0, p0, q0, hargs, rfl, rfl, h0, r0⟩ := trodAll_cons hA
  obtain ⟨v1, vs1, d1, ds1, p1, q1, rfl, rfl, rfl, h1, r1⟩ := trodAll_cons r0
  obtain ⟨rfl, rfl, rfl⟩ := trodAll_nil r1
  obtain rfl : args = #[v0, v1] := by cases args; simp_all
  obtain ⟨rfl, rfl⟩ := trodVars_none hV
  clear hargs
  have k0 := hval 0 24 v0 rfl rfl
  obtain ⟨fu0, m0⟩ := h0
  have w0 := weights_of hsz (j := 0) (t := 24) rfl rfl
  have F0 : Fit Try.prog 24 d0 := .inl w0
  have s0 := cells_agg Try.underlying24 k0
  obtain ⟨y0, E0, g0⟩ := vwConf.2.2 m0 F0
  obtain ⟨p0, l0, a0, n0, c0, rfl, e0, f0, j0⟩ := conf_open E0
  obtain ⟨z0, s01, s02⟩ := s0
  have e0' := agg_of ⟨s01, s02⟩ e0
  subst e0'
  have k1 := hval 1 36 v1 rfl rfl
  obtain ⟨fu1, m1⟩ := h1
  have w1 := weights_of hsz (j := 1) (t := 36) rfl rfl
  have F1 : Fit Try.prog 36 d1 := .inl w1
  obtain ⟨l1, ⟨a1, n1, c1, e1, f1⟩, g1⟩ := vwLinks.2.2 m1 F1
  have e1' := slice_of Try.underlying36 k1 e1
  subst e1'
  refine (walk W p0 a0 n0 c0 l0 f0 j0 a1 n1 c1 l1 f1).mono fun e W' ⟨he, bel⟩ => ?_
  subst he
  exact ⟨_, rfl, _, _, _, [], _, [], hW', trodAll_mk1 (shut_bool Try.underlying4 _), trodAll_again laidOut bel (by kernel_rfl) hA2, rfl, bel.frame _, fun h => by cases h⟩

theorem over : Rows.lineageOwnRow.holds Try.pinned (OpenSpec.ofChange Rows.lineageOwnSpec) :=
  OpenClaim.holds_of_wide 7 Try.f7 rfl rfl rfl rfl rfl rfl rfl ⟨rfl, rfl, rfl, rfl, rfl⟩ rfl rfl rfl rfl rfl (by kernel_rfl) Try.func7 (by kernel_rfl)
    (of_decide_eq_true (by kernel_rfl)) (by unfold Func.isWrapper; first | (rw [if_pos (by decide +kernel)]; kernel_rfl) | (rw [if_neg (by decide +kernel)]; exact ⟨rfl, rfl⟩))
    (fun os started H enc _ => lifted os started H enc)

theorem proved : Rows.LineageOwnSaid := over
#print axioms proved
end Go.Proofs.Ytdeomokhjmnfhaa.lineageOwn
