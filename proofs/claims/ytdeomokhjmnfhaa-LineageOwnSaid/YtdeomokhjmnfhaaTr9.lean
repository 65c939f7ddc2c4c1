
/- Walk of check. -/
import Derived.Test.YtdeomokhjmnfhaaTr3
import Derived.Test.YtdeomokhjmnfhaaEq
import Derived.Deep.RegionHeld3
namespace Go.Proofs.Ytdeomokhjmnfhaa
open Go.RowKit
attribute [local irreducible] wpQuiet
set_option linter.unusedVariables false

/-- The first error of a chain behind a configuration; a chain that differs from a known one; check's answer. -/
def chainC (c : Cf) : List Lk → Int
  | [] => 0
  | y :: r => if validC c.1 c.2 y.1.1 y.1.2 y.2 = 0 then chainC y.1 r else validC c.1 c.2 y.1.1 y.1.2 y.2
def otherB (cs : List Cf) (chain : List Lk) : Bool := (cs.tail.zip chain).any fun p => !decide (p.1.2 = p.2.1.2)
def checkC (c : Cf) (cs : List Cf) (chain : List Lk) : Int :=
  if chainC c chain ≠ 0 then chainC c chain else if otherB cs chain then 22 else if chain.length < cs.length then 17 else 0
def Differs (cs : List Cf) (chain : List Lk) (j : Nat) : Prop := ∃ c y, cs[j + 1]? = some c ∧ chain[j]? = some y ∧ c.2 ≠ y.1.2
theorem otherB_true {cs : List Cf} {chain : List Lk} {j : Nat} (h : Differs cs chain j) : otherB cs chain = true := by
  obtain ⟨c, y, h1, h2, h3⟩ := h
  rw [otherB, List.any_eq_true]
  refine ⟨(c, y), List.mem_of_getElem? (i := j) ?_, by simpa using h3⟩
  rw [List.getElem?_zip_eq_some]
  exact ⟨by rw [List.getElem?_tail]; exact h1, h2⟩
theorem otherB_false {cs : List Cf} {chain : List Lk} (h : ∀ j, j < chain.length → ¬ Differs cs chain j) : otherB cs chain = false := by
  rw [otherB, List.any_eq_false]
  rintro ⟨c, y⟩ hm
  obtain ⟨j, hj⟩ := List.getElem?_of_mem hm
  rw [List.getElem?_zip_eq_some, List.getElem?_tail] at hj
  have := h j (List.getElem?_eq_some_iff.1 hj.2).1
  simp only [Bool.not_eq_true', decide_eq_false_iff_not, Classical.not_not]
  exact Classical.byContradiction fun hc => this ⟨c, y, hj.1, hj.2, hc⟩
theorem link_cells {w : World} {a : Option Addr} {n c : Nat} {ls : List Lk} (h : SlAt shLink w a n c ls) {i : Nat} {e : Int} {l : List Int} {s : List Sg} (hi : ls[i]? = some ((e, l), s)) :
    ∃ b o a' n' c' sa sn sc, a = some ⟨b, o, none⟩ ∧ w.cell? ⟨b, o + i * 3, none⟩ = some (.int .i64 e) ∧ w.cell? ⟨b, o + i * 3 + 1, none⟩ = some (.slice a' n' c') ∧ w.cell? ⟨b, o + i * 3 + 2, none⟩ = some (.slice sa sn sc) ∧ i64 e ∧ SlAt Sh.int w a' n' c' l ∧ SlAt shSig w sa sn sc s := by
  obtain ⟨b, o, xs, ha, hE, hc⟩ := h.cell i _ hi
  obtain ⟨x1, x2, rfl, ⟨y1, y2, rfl, ⟨rfl, he⟩, a', n', c', rfl, hs⟩, sa, sn, sc, rfl, hss⟩ := hE
  exact ⟨b, o, a', n', c', sa, sn, sc, ha, hc 0 _ rfl, hc 1 _ rfl, hc 2 _ rfl, he, hs, hss⟩

set_option maxHeartbeats 2000000 in
theorem check_any (X : Nat → Prop) (B p : Nat) (oc os : Option Nat) (c0 : Cf) (cs : List Cf) (ss : List (List Sg)) (a : Option Addr) (n c : Nat) (chain : List Lk) (w : World)
    (h : Trk X w B p oc os (c0 :: cs) ss) (hcl : (c0 :: cs).length ≤ 1000) (hsl : ss.length ≤ 1000) (hc : SlAt shLink w a n c chain) (hn : n ≤ 1000) :
    Calls Try.prog 37 #[.pointer (some ⟨p, 0, none⟩), .slice a n c] w fun r w' => r = .returned (.int .i64 (checkC c0 (c0 :: cs) chain)) ∧ Below w.heap.size w w' := by
  obtain ⟨ac, cc, ag, cg, hp, hC, hG⟩ := h.view hcl hsl
  obtain ⟨e0, l0⟩ := c0
  obtain ⟨b, o, a0, n0, k0, rfl, d0, d1, he0, hs0⟩ := conf_cells hC (i := 0) rfl
  have p0 : w.cell? ⟨p, 0, none⟩ = some (.slice (some ⟨b, o, none⟩) ((e0, l0) :: cs).length cc) := by rw [blk_cell hp]; rfl
  have HP := Lib.hid hp; have HC := Lib.hid hC; have HS0 := Lib.hid hs0; have HCH := Lib.hid hc
  have lc := hc.len
  rw [Nat.zero_mul, Nat.add_zero] at d0 d1
  have hz0 : 0 < ((e0, l0) :: cs).length := by simp
  generalize hN : ((e0, l0) :: cs).length = N at *
  have HN := Lib.hid hN
  clear h hp hC hG hs0 hc hN
  go_enter Try.func37, Try.ntmps37
  go_wp2_with fail
  have BA := Lib.hid (below_alloc w (.cells #[.int .i64 e0, .slice a0 n0 k0] 24))
  have KA := Lib.hid (blk_alloc w (.cells #[.int .i64 e0, .slice a0 n0 k0] 24))
  clear p0 d0 d1
  go_loopw [19] (fun i wr => ∃ k : Nat, ∃ e a1 n1 c1 l, k ≤ n ∧ i = .int .i64 k ∧ i64 e ∧ Hid (wr.heap[w.heap.size]? = some (.cells #[.int .i64 e, .slice a1 n1 c1] 24 (0, 0))) ∧ Hid (SlAt Sh.int w a1 n1 c1 l) ∧ Hid (chainC (e0, l0) chain = chainC (e, l) (chain.drop k)) ∧ Hid (Below w.heap.size w wr)) (fun i _ => n - (intOf i).toNat)
  case atStart => exact ⟨0, e0, a0, n0, k0, l0, by omega, rfl, he0, KA, HS0, Lib.hid rfl, BA⟩
  case round =>
    clear KA BA
    obtain ⟨k, e, a1, n1, c1, l, hk, rfl, he, Hq, HS1, HC1, Hb⟩ := hrel
    by_cases hlt : k < n
    · obtain ⟨⟨⟨e2, l2⟩, sg⟩, hy⟩ : ∃ y, chain[k]? = some y := ⟨_, List.getElem?_eq_getElem (by omega)⟩
      obtain ⟨bl, ol, a2, n2, c2, sa, sn, sc, rfl, m0, m1, m2, he2, hs2, hsg⟩ := link_cells HCH.out hy
      replace m0 := below_cell Hb.out m0
      replace m1 := below_cell Hb.out m1
      replace m2 := below_cell Hb.out m2
      have bx := below_alloc wr (.cells #[.int .i64 e2, .slice a2 n2 c2, .slice sa sn sc] 27)
      have kx := blk_alloc wr (.cells #[.int .i64 e2, .slice a2 n2 c2, .slice sa sn sc] 27)
      have kq := blk_below Hq.out bx
      have x0 : (wr.alloc (.cells #[.int .i64 e2, .slice a2 n2 c2, .slice sa sn sc] 27)).cell? ⟨w.heap.size, 0, none⟩ = some (.int .i64 e) := by rw [blk_cell kq]; rfl
      have x1 : (wr.alloc (.cells #[.int .i64 e2, .slice a2 n2 c2, .slice sa sn sc] 27)).cell? ⟨w.heap.size, 1, none⟩ = some (.slice a1 n1 c1) := by rw [blk_cell kq]; rfl
      have y0 : (wr.alloc (.cells #[.int .i64 e2, .slice a2 n2 c2, .slice sa sn sc] 27)).cell? ⟨wr.heap.size, 0, none⟩ = some (.int .i64 e2) := by rw [blk_cell kx]; rfl
      have y1 : (wr.alloc (.cells #[.int .i64 e2, .slice a2 n2 c2, .slice sa sn sc] 27)).cell? ⟨wr.heap.size, 1, none⟩ = some (.slice a2 n2 c2) := by rw [blk_cell kx]; rfl
      have y2 : (wr.alloc (.cells #[.int .i64 e2, .slice a2 n2 c2, .slice sa sn sc] 27)).cell? ⟨wr.heap.size, 2, none⟩ = some (.slice sa sn sc) := by rw [blk_cell kx]; rfl
      have KX := Lib.hid kx; have KQ := Lib.hid kq; have BX := Lib.hid bx; have HS2 := Lib.hid hs2; have HSG := Lib.hid hsg; have HY := Lib.hid hy
      clear kx kq bx hs2 hsg hy
      go_wp2_with fail
      refine (valid_any e a1 n1 c1 l e2 a2 n2 c2 l2 sa sn sc sg _ (ints_of_sl ((HS1.out.old Hb.out).old BX.out)) (ints_of_sl ((HS2.out.old Hb.out).old BX.out)) ((HSG.out.old Hb.out).old BX.out)).mono ?_
      rintro r w5 ⟨rfl, b5⟩
      replace x0 := below_cell b5 x0
      replace x1 := below_cell b5 x1
      replace y0 := below_cell b5 y0
      replace y1 := below_cell b5 y1
      have KQ5 := Lib.hid (blk_below KQ.out b5)
      have f5 : ∀ o, w5.frozen? ⟨w.heap.size, o, none⟩ = false := fun o => blk_frozen KQ5.out o
      have B5 := Lib.hid (bthen (bthen Hb.out BX.out) b5)
      have HD := Lib.hid (show chain.drop k = ((e2, l2), sg) :: chain.drop (k + 1) from List.drop_eq_getElem?_toList_append.trans (by rw [HY.out]; rfl))
      clear b5 y2 m0 m1 m2
      generalize hv : validC e l e2 l2 sg = v at *
      have HV := Lib.hid hv
      clear hv
      by_cases hv0 : v = 0
      · subst hv0
        go_wp2_with fail
        go_roundw
        case rel => exact ⟨k + 1, e2, a2, n2, c2, l2, by omega, rfl, he2, Lib.hid (blk_set (blk_set KQ5.out 0 _) 1 _), HS2, Lib.hid (by rw [HC1.out, HD.out, chainC, if_pos HV.out]), Lib.hid ((B5.out.setCell (p := ⟨w.heap.size, 0, none⟩) (Nat.le_refl _) _).setCell (p := ⟨w.heap.size, 1, none⟩) (Nat.le_refl _) _)⟩
        case measure => simp [intOf]; omega
      · go_wp2_with fail
        go_ret
        have hch : chainC (e0, l0) chain = v := by rw [HC1.out, HD.out, chainC]; simp only [HV.out]; rw [if_neg hv0]
        exact ⟨by rw [checkC, hch, if_pos hv0]; rfl, B5.out⟩
    · obtain rfl : n = k := by omega
      have HZ := Lib.hid (show chainC (e0, l0) chain = 0 by rw [HC1.out, List.drop_of_length_le (by omega), chainC])
      clear HC1 Hq HS1 he
      go_wp2_with fail
      go_loopw [34] (fun i wr => ∃ k : Nat, k ≤ n ∧ i = .int .i64 k ∧ Hid (∀ j, j < k → ¬ Differs ((e0, l0) :: cs) chain j) ∧ Hid (Below w.heap.size w wr)) (fun i _ => n - (intOf i).toNat)
      case atStart => exact ⟨0, by omega, rfl, Lib.hid (fun j hj => by omega), Hb⟩
      case round =>
        clear Hb
        obtain ⟨k, hk, rfl, HD, Hb⟩ := hrel
        clear hlt
        by_cases hlt : k < n
        · obtain ⟨⟨⟨e2, l2⟩, sg⟩, hy⟩ : ∃ y, chain[k]? = some y := ⟨_, List.getElem?_eq_getElem (by omega)⟩
          obtain ⟨bl, ol, a2, n2, c2, sa, sn, sc, rfl, m0, m1, m2, he2, hs2, hsg⟩ := link_cells HCH.out hy
          replace m0 := below_cell Hb.out m0
          replace m1 := below_cell Hb.out m1
          replace m2 := below_cell Hb.out m2
          obtain ⟨wz, hwz⟩ : ∃ wz, wz = wr.alloc (.cells #[.int .i64 e2, .slice a2 n2 c2, .slice sa sn sc] 27) := ⟨_, rfl⟩
          have bx : Below wr.heap.size wr wz := by rw [hwz]; exact below_alloc wr _
          have kx : wz.heap[wr.heap.size]? = some (.cells #[.int .i64 e2, .slice a2 n2 c2, .slice sa sn sc] 27 (0, 0)) := by rw [hwz]; exact blk_alloc wr _
          have y1 : wz.cell? ⟨wr.heap.size, 1, none⟩ = some (.slice a2 n2 c2) := by rw [blk_cell kx]; rfl
          have bz := bthen Hb.out bx
          have kp := blk_below HP.out bz
          have p0 : wz.cell? ⟨p, 0, none⟩ = some (.slice (some ⟨b, o, none⟩) N cc) := by rw [blk_cell kp]; rfl
          have lp := blk_lt kp
          have lx := blk_lt kx
          have hki : IntKind.i64.wrap ((k : Int) + 1) = ((k + 1 : Nat) : Int) := IntWalk.i64_in _ (by omega)
          have BZ := Lib.hid bz; have HS2 := Lib.hid hs2; have HY := Lib.hid hy
          have LC := Lib.hid lc
          clear bx kx bz kp hs2 hsg hy lc
          by_cases hkN : k + 1 < N
          · obtain ⟨⟨e1, l1⟩, hcm⟩ : ∃ y, ((e0, l0) :: cs)[k + 1]? = some y := ⟨_, List.getElem?_eq_getElem (by rw [HN.out]; exact hkN)⟩
            obtain ⟨bb, oo, a3, n3, c3, hbo, d0, d1, he3, hs3⟩ := conf_cells HC.out hcm
            obtain ⟨rfl, rfl⟩ : b = bb ∧ o = oo := by simpa using hbo
            replace d0 := below_cell BZ.out d0
            replace d1 := below_cell BZ.out d1
            have lb : b < wz.heap.size := World.block_lt d0
            have CE := Lib.hid (fun (w' : World) (hb : Below wz.heap.size wz w') => equal_any a3 n3 c3 l1 a2 n2 c2 l2 w' ((ints_of_sl (hs3.old BZ.out)).below hb) ((ints_of_sl (HS2.out.old BZ.out)).below hb))
            have HCM := Lib.hid hcm
            clear hbo hs3 hcm
            have hdec : decide ((k : Int) + 1 < (N : Int)) = true := by simp; omega
            have hx0 : (0 : Int) ≤ (k : Int) + 1 := by omega
            have hx1 : (k : Int) + 1 < (N : Int) := by omega
            have hx2 : ((k : Int) + 1).toNat = k + 1 := by omega
            cases hee : (l1 == l2) with
            | true =>
              rw [hee] at CE
              have HDk := Lib.hid (show ∀ j, j < k + 1 → ¬ Differs ((e0, l0) :: cs) chain j from fun j hj hd => by
                rcases Nat.lt_or_ge j k with h | h
                · exact HD.out j h hd
                · obtain rfl : j = k := by omega
                  obtain ⟨c, y, h1, h2, h3⟩ := hd
                  rw [HCM.out] at h1
                  rw [HY.out] at h2
                  injection h1 with h1; injection h2 with h2
                  subst h1 h2
                  exact h3 (by simpa using hee))
              go_wp2_with fail
              rw [← hwz]
              clear hwz
              refine wp_region_below (by kernel_rfl) (by kernel_rfl) ?_
              repeat (refine wpQuiet_step (fun K hK => ?_); go_simp; first | (refine hK _ ?_; clear hK K) | (apply Exists.intro; refine ⟨fun w' hw' => ?_, hK _ ?_⟩; (first | (go_at_call 56; exact Calls.quiet_below_drawn hw' (CE.out _ hw')) | (with_reducible rfl) | (obtain ⟨cc, dd⟩ := bcell hw'; go_simp; rfl)); clear hK K))
              refine wpQuiet_nil ?_
              intro w7 h7
              have B7 := Lib.hid (bthen BZ.out h7)
              clear h7 p0 y1 d0 d1
              go_wp2_with fail
              go_roundw
              case rel => exact ⟨k + 1, by omega, by go_num, HDk, B7⟩
              case measure => simp [intOf]; omega
            | false =>
              rw [hee] at CE
              have HO := Lib.hid (otherB_true (cs := (e0, l0) :: cs) (chain := chain) (j := k) ⟨_, _, HCM.out, HY.out, by simpa using hee⟩)
              go_wp2_with fail
              rw [← hwz]
              clear hwz
              refine wp_region_below (by kernel_rfl) (by kernel_rfl) ?_
              repeat (refine wpQuiet_step (fun K hK => ?_); go_simp; first | (refine hK _ ?_; clear hK K) | (apply Exists.intro; refine ⟨fun w' hw' => ?_, hK _ ?_⟩; (first | (go_at_call 56; exact Calls.quiet_below_drawn hw' (CE.out _ hw')) | (with_reducible rfl) | (obtain ⟨cc, dd⟩ := bcell hw'; go_simp; rfl)); clear hK K))
              refine wpQuiet_nil ?_
              intro w7 h7
              have B7 := Lib.hid (bthen BZ.out h7)
              clear h7 p0 y1 d0 d1
              go_wp2_with fail
              go_ret
              exact ⟨by rw [checkC, HZ.out, if_neg (by simp), if_pos HO.out]; rfl, B7.out⟩
          · have hdec : decide ((k : Int) + 1 < (N : Int)) = false := by simp; omega
            have HDk := Lib.hid (show ∀ j, j < k + 1 → ¬ Differs ((e0, l0) :: cs) chain j from fun j hj hd => by
                rcases Nat.lt_or_ge j k with h | h
                · exact HD.out j h hd
                · obtain rfl : j = k := by omega
                  obtain ⟨c, y, h1, h2, h3⟩ := hd
                  have := (List.getElem?_eq_some_iff.1 h1).1
                  rw [HN.out] at this
                  exact hkN this)
            go_wp2_with fail
            rw [← hwz]
            clear hwz
            refine wp_region_below (by kernel_rfl) (by kernel_rfl) ?_
            repeat (refine wpQuiet_step (fun K hK => ?_); go_simp; first | (refine hK _ ?_; clear hK K) | (apply Exists.intro; refine ⟨fun w' hw' => ?_, hK _ ?_⟩; (first | (with_reducible rfl) | (obtain ⟨cc, dd⟩ := bcell hw'; go_simp; rfl)); clear hK K))
            refine wpQuiet_nil ?_
            intro w7 h7
            have B7 := Lib.hid (bthen BZ.out h7)
            clear h7 p0 y1
            go_wp2_with fail
            go_roundw
            case rel => exact ⟨k + 1, by omega, by go_num, HDk, B7⟩
            case measure => simp [intOf]; omega
        · obtain rfl : n = k := by omega
          have HO := Lib.hid (otherB_false (cs := (e0, l0) :: cs) (chain := chain) (by rw [lc]; exact HD.out))
          have p0 : wr.cell? ⟨p, 0, none⟩ = some (.slice (some ⟨b, o, none⟩) N cc) := by rw [blk_cell (blk_below HP.out Hb.out)]; rfl
          by_cases hnN : n < N
          · have HA := Lib.hid (show checkC (e0, l0) ((e0, l0) :: cs) chain = 17 by rw [checkC, HZ.out, HO.out, HN.out, lc]; simp [hnN])
            have hnN' : decide ((n : Int) < (N : Int)) = true := by simpa using hnN
            clear HD lc
            go_wp2_with fail
            go_ret
            exact ⟨by rw [HA.out]; rfl, Hb.out⟩
          · have HA := Lib.hid (show checkC (e0, l0) ((e0, l0) :: cs) chain = 0 by rw [checkC, HZ.out, HO.out, HN.out, lc]; simp [hnN])
            have hnN' : decide ((n : Int) < (N : Int)) = false := by simpa using hnN
            clear HD lc
            go_wp2_with fail
            go_ret
            exact ⟨by rw [HA.out]; rfl, Hb.out⟩
end Go.Proofs.Ytdeomokhjmnfhaa

/- Walk of lives, and its plain facts. -/
namespace Go.Proofs.Ytdeomokhjmnfhaa
open Go.RowKit
set_option linter.unusedVariables false

def sg3 : List Sg := [(0, textS 1 [0, 1, 2, 3, 4]), (1, textS 1 [0, 1, 2, 3, 4]), (3, textS 1 [0, 1, 2, 3, 4])]
theorem sg3_len (h : (textS 1 [0, 1, 2, 3, 4]).size ≤ 140737488351232) : ∀ s ∈ sg3, i64 s.1 ∧ s.2.size ≤ 140737488351232 := by
  intro s hs
  simp only [sg3, List.mem_cons, List.not_mem_nil, or_false] at hs
  rcases hs with rfl | rfl | rfl
  all_goals exact ⟨by simp [i64], h⟩
theorem valid_lives : validC 0 [0, 1, 2, 3] 1 [0, 1, 2, 3, 4] sg3 = 0 := by
  have h : ∀ t : ByteArray, sigsUp [0, 1, 2, 3] t (-1) [(0, t), (1, t), (3, t)] = true := fun t => by simp [sigsUp, hasB]
  have hr : rightB 0 [0, 1, 2, 3] = true := by decide +kernel
  have hr1 : rightB 1 [0, 1, 2, 3, 4] = true := by decide +kernel
  rw [validC_end hr hr1 rfl, provesB_4 hr (by simp [sg3]) (by decide +kernel), sg3, h]
  rfl
theorem valid_lives0 : validC 0 [0, 1, 2, 3] 1 [0, 1, 2, 3, 4] [] = 15 := by
  have hr : rightB 0 [0, 1, 2, 3] = true := by decide +kernel
  have hr1 : rightB 1 [0, 1, 2, 3, 4] = true := by decide +kernel
  rw [validC_end hr hr1 rfl, provesB_3 (by decide +kernel)]
  rfl
theorem text_small : (textS 1 [0, 1, 2, 3, 4]).size ≤ 140737488351232 := by decide +kernel

theorem made_ints (w : World) (l : List Int) (t : TypeId) (hf : ∀ x ∈ l, i64 x) (hl : l.length * 8 ≤ 140737488355328) : SlAt Sh.int (w.alloc (.cells (intsV l).toArray t)) (some ⟨w.heap.size, 0, none⟩) l.length l.length l :=
  sl_of_ints (IntsAt.made w l t hf (by omega)) (Nat.le_refl _) (by omega) hl (fun h => by cases h)
theorem made_sigs (w : World) (l : List Sg) (hf : ∀ s ∈ l, i64 s.1 ∧ s.2.size ≤ 140737488351232) (hl : l.length * 24 ≤ 140737488355328) : SlAt shSig (w.alloc (.cells (sigV l).toArray 62)) (some ⟨w.heap.size, 0, none⟩) l.length l.length l :=
  sigs_row (B := w.heap.size) ⟨sigV_len l, .inr ⟨w.heap.size, l.length, (sigV l).toArray, rfl, Nat.le_refl _, blk_alloc w _, Nat.le_refl _, by simp only [maxLen]; omega, by simp [sigV_len], by simp [← sigV_len]⟩⟩ rfl hf hl

theorem trX_ge {X : Nat → Prop} {w : World} {B p : Nat} {oc os : Option Nat} {cs : List Cf} {ss : List (List Sg)} (h : Trk X w B p oc os cs ss) : ∀ k, trX p oc os k → B ≤ k := fun k hk => by
  obtain ⟨_, h1, h2⟩ := h.lt
  rcases hk with rfl | hk | hk
  · exact h.hB
  · exact (h1 k hk).1
  · exact (h2 k hk).1

set_option maxHeartbeats 2000000 in
theorem lives10_any (w : World) : Calls Try.prog 9 #[] w fun r w' => r = .returned (.bool true) ∧ Below w.heap.size w w' := by
  obtain ⟨w1, hw1⟩ : ∃ w1, w1 = (w.alloc (.cells (intsV [0, 1, 2, 3, 4]).toArray 3)).alloc (.cells #[.int .i64 1, .slice (some ⟨w.heap.size, 0, none⟩) 5 5] 24) := ⟨_, rfl⟩
  have bb := below_alloc (w.alloc (.cells (intsV [0, 1, 2, 3, 4]).toArray 3)) (.cells #[.int .i64 1, .slice (some ⟨w.heap.size, 0, none⟩) 5 5] 24)
  have b1 : Below w.heap.size w w1 := by rw [hw1]; exact bthen (below_alloc _ _) bb
  have hN : SlAt Sh.int w1 (some ⟨w.heap.size, 0, none⟩) 5 5 [0, 1, 2, 3, 4] := by rw [hw1]; exact (made_ints w [0, 1, 2, 3, 4] 3 (by simp [i64]) (by decide)).old bb
  have k1 : w1.heap[w.heap.size + 1]? = some (.cells #[.int .i64 1, .slice (some ⟨w.heap.size, 0, none⟩) 5 5] 24 (0, 0)) := by
    have := blk_alloc (w.alloc (.cells (intsV [0, 1, 2, 3, 4]).toArray 3)) (.cells #[.int .i64 1, .slice (some ⟨w.heap.size, 0, none⟩) 5 5] 24)
    rw [World.size_alloc] at this
    rw [hw1]; exact this
  have HN := Lib.hid hN; have K1 := Lib.hid k1; have B1 := Lib.hid b1
  clear bb b1 hN
  go_enter Try.func9, Try.ntmps9
  go_wp2_with fail
  replace hw1 : World.alloc (World.alloc w (.cells #[.int .i64 0, .int .i64 1, .int .i64 2, .int .i64 3, .int .i64 4] 3)) (.cells #[.int .i64 1, .slice (some ⟨w.heap.size, 0, none⟩) 5 5] 24) = w1 := hw1.symm
  rw [hw1]
  clear hw1
  refine (rtext_any _ _ _ _ _ _ (ints_of_sl HN.out)).mono ?_
  rintro r w2 ⟨rfl, b2⟩
  have k2 := blk_below k1 b2
  have x0 : w2.cell? ⟨w.heap.size + 1, 0, none⟩ = some (.int .i64 1) := by rw [blk_cell k2]; rfl
  have x1 : w2.cell? ⟨w.heap.size + 1, 1, none⟩ = some (.slice (some ⟨w.heap.size, 0, none⟩) 5 5) := by rw [blk_cell k2]; rfl
  have B2 := Lib.hid (bthen B1.out b2)
  have HN2 := Lib.hid (HN.out.old b2)
  have K2 := Lib.hid k2
  have HV := Lib.hid valid_lives
  have HV0 := Lib.hid valid_lives0
  have HS := Lib.hid (show ∀ t, t = textS 1 [0, 1, 2, 3, 4] → SlAt shSig (w2.alloc (.cells #[.int .i64 0, .string t, .int .i64 1, .string t, .int .i64 3, .string t] 62)) (some ⟨w2.heap.size, 0, none⟩) 3 3 sg3 from fun t ht => by
    subst ht
    exact made_sigs w2 sg3 (sg3_len text_small) (by decide))
  rw [show textE 1 [0, 1, 2, 3, 4] = 0 by decide +kernel]
  generalize hT : textS 1 [0, 1, 2, 3, 4] = T at *
  replace hT := Lib.hid hT
  clear k1 k2 b2 B1 K1 HN
  obtain ⟨wl, hwl⟩ : ∃ wl, wl = (w2.alloc (.cells #[.int .i64 0, .string T, .int .i64 1, .string T, .int .i64 3, .string T] 62)).alloc (.cells #[.int .i64 1, .slice (some ⟨w.heap.size, 0, none⟩) 5 5, .slice (some ⟨w2.heap.size, 0, none⟩) 3 3] 27) := ⟨_, rfl⟩
  have bb := below_alloc (w2.alloc (.cells #[.int .i64 0, .string T, .int .i64 1, .string T, .int .i64 3, .string T] 62)) (.cells #[.int .i64 1, .slice (some ⟨w.heap.size, 0, none⟩) 5 5, .slice (some ⟨w2.heap.size, 0, none⟩) 3 3] 27)
  have bl : Below w2.heap.size w2 wl := by rw [hwl]; exact bthen (below_alloc _ _) bb
  have kl : wl.heap[w2.heap.size + 1]? = some (.cells #[.int .i64 1, .slice (some ⟨w.heap.size, 0, none⟩) 5 5, .slice (some ⟨w2.heap.size, 0, none⟩) 3 3] 27 (0, 0)) := by
    have := blk_alloc (w2.alloc (.cells #[.int .i64 0, .string T, .int .i64 1, .string T, .int .i64 3, .string T] 62)) (.cells #[.int .i64 1, .slice (some ⟨w.heap.size, 0, none⟩) 5 5, .slice (some ⟨w2.heap.size, 0, none⟩) 3 3] 27)
    rw [World.size_alloc] at this
    rw [hwl]; exact this
  have HSl := Lib.hid (show SlAt shSig wl (some ⟨w2.heap.size, 0, none⟩) 3 3 sg3 by rw [hwl]; exact (HS.out T rfl).old bb)
  have HNl := Lib.hid (HN2.out.old bl)
  have BL := Lib.hid bl; have KL := Lib.hid kl
  clear bb bl kl HS HN2
  go_wp2_with fail
  rw [← hwl]
  clear hwl
  refine (four_any _).mono ?_
  rintro r w3 ⟨b3, rfl, h3, b3'⟩
  have B3 := Lib.hid b3'
  clear b3'
  go_wp2_with fail
  refine (new_any 0 _ 4 4 [0, 1, 2, 3] w3 (ints_of_sl h3) (by simp) (by decide) (by simp [i64])).mono ?_
  rintro r w4 ⟨b4, h4⟩
  clear h3
  rcases h4 with ⟨_, _, X, p, oc, rfl, hp, hX, ht⟩ | ⟨hno, _⟩
  · have B34 := Lib.hid (bthen B3.out b4)
    have k3 := blk_below KL.out B3.out
    have x0 := below_cell (bthen BL.out B3.out) x0
    have x1 := below_cell (bthen BL.out B3.out) x1
    have y0 : w3.cell? ⟨w2.heap.size + 1, 0, none⟩ = some (.int .i64 1) := by rw [blk_cell k3]; rfl
    have y1 : w3.cell? ⟨w2.heap.size + 1, 1, none⟩ = some (.slice (some ⟨w.heap.size, 0, none⟩) 5 5) := by rw [blk_cell k3]; rfl
    have y2 : w3.cell? ⟨w2.heap.size + 1, 2, none⟩ = some (.slice (some ⟨w2.heap.size, 0, none⟩) 3 3) := by rw [blk_cell k3]; rfl
    have HC := Lib.hid (show ∀ w', Below w3.heap.size w3 w' → (w'.cell? ⟨w.heap.size + 1, 0, none⟩ = some (.int .i64 1) ∧ w'.cell? ⟨w.heap.size + 1, 1, none⟩ = some (.slice (some ⟨w.heap.size, 0, none⟩) 5 5)) ∧ w'.cell? ⟨w2.heap.size + 1, 0, none⟩ = some (.int .i64 1) ∧
      w'.cell? ⟨w2.heap.size + 1, 1, none⟩ = some (.slice (some ⟨w.heap.size, 0, none⟩) 5 5) ∧ w'.cell? ⟨w2.heap.size + 1, 2, none⟩ = some (.slice (some ⟨w2.heap.size, 0, none⟩) 3 3) from
      fun w' hb => ⟨⟨below_cell hb x0, below_cell hb x1⟩, below_cell hb y0, below_cell hb y1, below_cell hb y2⟩)
    have HT := Lib.hid ht
    have B03 := Lib.hid (bthen (bthen B2.out BL.out) B3.out)
    have B4 := Lib.hid b4
    have CA := Lib.hid (fun (w' : World) (hb : Below w4.heap.size w4 w') => add_any X w3.heap.size p oc none [(0, [0, 1, 2, 3])] [] 0 0 [0, 1, 2, 3] 1 (some ⟨w.heap.size, 0, none⟩) 5 5 [0, 1, 2, 3, 4] (some ⟨w2.heap.size, 0, none⟩) 3 3 sg3 w'
      (HT.out.old hb) (Nat.le_trans B4.out.size hb.size) rfl rfl (by simp) (by simp) (by simp [i64]) ((HNl.out.old (bthen B3.out B4.out)).old hb)
      (slRob (HSl.out.old B3.out) (bthen B4.out hb) (trX_ge HT.out)) (slRob (HNl.out.old B3.out) (bthen B4.out hb) (trX_ge HT.out)))
    rw [HV.out] at CA
    obtain ⟨⟨x0, x1⟩, y0, y1, y2⟩ := HC.out _ B4.out
    clear k3 ht b4 hp
    go_wp2_with fail
    go_region_held3 (fun w' => (w'.cell? ⟨w.heap.size + 1, 0, none⟩ = some (.int .i64 1) ∧ w'.cell? ⟨w.heap.size + 1, 1, none⟩ = some (.slice (some ⟨w.heap.size, 0, none⟩) 5 5)) ∧ w'.cell? ⟨w2.heap.size + 1, 0, none⟩ = some (.int .i64 1) ∧
      w'.cell? ⟨w2.heap.size + 1, 1, none⟩ = some (.slice (some ⟨w.heap.size, 0, none⟩) 5 5) ∧ w'.cell? ⟨w2.heap.size + 1, 2, none⟩ = some (.slice (some ⟨w2.heap.size, 0, none⟩) 3 3)) (exact ⟨⟨by assumption, by assumption⟩, by assumption, by assumption, by assumption⟩)
      (first
        | (go_at_call 25; refine (CA.out _ (below_drewN (Below.refl _ _) 1)).mono ?_; rintro r w6 ⟨rfl, -, h6⟩; obtain ⟨X', oc', os', -, -, -, ht6, hk6⟩ := h6 rfl; clear h6; have HT6 := Lib.hid ht6; have B6 := Lib.hid (hk6.below (bthen B4.out (below_drewN (Below.refl _ _) 1)) (trX_ge HT.out)); clear ht6 hk6; obtain ⟨⟨x0, x1⟩, y0, y1, y2⟩ := HC.out _ B6.out)
        | (go_at_call 14; refine (epoch_any _ _ _ _ _ _ _ _ HT6.out (by simp) (by simp)).mono ?_; rintro r w7 ⟨rfl, rfl⟩)
        | (go_at_call 27; refine (four_any _).mono ?_; rintro r w7 ⟨b7, rfl, h7, b7'⟩; have HH7 := Lib.hid h7; have B7 := Lib.hid b7'; clear h7 b7'; obtain ⟨⟨x0, x1⟩, y0, y1, y2⟩ := HC.out _ (bthen B6.out B7.out))
        | (go_at_call 10; refine (valid_any _ _ _ _ _ _ _ _ _ _ _ _ _ [] _ (ints_of_sl HH7.out) (ints_of_sl ((HNl.out.old B3.out).old (bthen B6.out B7.out))) ⟨rfl, by simp, by simp, by simp, fun _ => rfl, fun i y hy => by cases hy⟩).mono ?_; rintro r w8 ⟨rfl, b8⟩; rw [HV0.out]; have B8 := Lib.hid b8; clear b8; obtain ⟨⟨x0, x1⟩, y0, y1, y2⟩ := HC.out _ (bthen (bthen B6.out B7.out) B8.out)))
    go_wp2_with fail
    go_ret
    exact ⟨rfl, bthen B03.out (bthen (bthen B6.out B7.out) B8.out)⟩
  · exact (hno ⟨by decide +kernel, rfl⟩).elim
theorem conf_open {w : World} {y : Cf} {cs : List Value} (h : shConf.E w y cs) : ∃ e l a n c, y = (e, l) ∧ cs = [.int .i64 e, .slice a n c] ∧ i64 e ∧ SlAt Sh.int w a n c l := by
  obtain ⟨e, l⟩ := y
  obtain ⟨x1, x2, rfl, ⟨rfl, he⟩, a, n, c, rfl, hs⟩ := h
  exact ⟨e, l, a, n, c, rfl, rfl, he, hs⟩
theorem link_open {w : World} {y : Lk} {cs : List Value} (h : shLink.E w y cs) : ∃ e l s a n c sa sn sc, y = ((e, l), s) ∧ cs = [.int .i64 e, .slice a n c, .slice sa sn sc] ∧ i64 e ∧ SlAt Sh.int w a n c l ∧ SlAt shSig w sa sn sc s := by
  obtain ⟨⟨e, l⟩, s⟩ := y
  obtain ⟨x1, x2, rfl, ⟨y1, y2, rfl, ⟨rfl, he⟩, a, n, c, rfl, hs⟩, sa, sn, sc, rfl, hss⟩ := h
  exact ⟨e, l, s, a, n, c, sa, sn, sc, rfl, rfl, he, hs, hss⟩
end Go.Proofs.Ytdeomokhjmnfhaa
