
/- Walk of check. -/
import Derived.Test.YtijeieamodjgbabTr2
import Derived.Test.YtijeieamodjgbabJoP
import Derived.Deep.RegionHeld3
import Derived.Laws.StructEq

namespace Go.Proofs.Ytijeieamodjgbab
set_option maxRecDepth 100000
open Go.RowKit
attribute [local irreducible] wpQuiet
set_option linter.unusedVariables false

/-- The first error of a chain behind a configuration; a chain that differs from a known one; check's answer. -/
def chainC (c : Cf) : List Lk → Int
  | [] => 0
  | y :: r => if validC c.1 c.2 y.1.1 y.1.2 y.2 = 0 then chainC y.1 r else validC c.1 c.2 y.1.1 y.1.2 y.2
def otherB (cs : List Cf) (chain : List Lk) : Bool := (cs.tail.zip chain).any fun p => !decide (p.1.2 = p.2.1.2)
def checkC (c : Cf) (cs : List Cf) (chain : List Lk) : Int :=
  if chainC c chain ≠ 0 then chainC c chain else if otherB cs chain then 22 else if chain.length < cs.length then 17 else 0
def Differs (cs : List Cf) (chain : List Lk) (j : Nat) : Prop := ∃ c y, cs[j + 1]? = some c ∧ chain[j]? = some y ∧ c.2 ≠ y.1.2
theorem otherB_true {cs : List Cf} {chain : List Lk} {j : Nat} (h : Differs cs chain j) : otherB cs chain = true := by
  obtain ⟨c, y, h1, h2, h3⟩ := h
  rw [otherB, List.any_eq_true]
  refine ⟨(c, y), List.mem_of_getElem? (i := j) ?_, by simpa using h3⟩
  rw [List.getElem?_zip_eq_some]
  exact ⟨by rw [List.getElem?_tail]; exact h1, h2⟩
theorem otherB_false {cs : List Cf} {chain : List Lk} (h : ∀ j, j < chain.length → ¬ Differs cs chain j) : otherB cs chain = false := by
  rw [otherB, List.any_eq_false]
  rintro ⟨c, y⟩ hm
  obtain ⟨j, hj⟩ := List.getElem?_of_mem hm
  rw [List.getElem?_zip_eq_some, List.getElem?_tail] at hj
  have := h j (List.getElem?_eq_some_iff.1 hj.2).1
  simp only [Bool.not_eq_true', decide_eq_false_iff_not, Classical.not_not]
  exact Classical.byContradiction fun hc => this ⟨c, y, hj.1, hj.2, hc⟩
theorem link_cells {w : World} {a : Option Addr} {n c : Nat} {ls : List Lk} (h : SlAt shLink w a n c ls) {i : Nat} {e : Int} {l : List Int} {s : List Sg} (hi : ls[i]? = some ((e, l), s)) :
    ∃ b o a' n' c' sa sn sc, a = some ⟨b, o, none⟩ ∧ w.cell? ⟨b, o + i * 3, none⟩ = some (.int .i64 e) ∧ w.cell? ⟨b, o + i * 3 + 1, none⟩ = some (.slice a' n' c') ∧ w.cell? ⟨b, o + i * 3 + 2, none⟩ = some (.slice sa sn sc) ∧ i64 e ∧ SlAt Sh.int w a' n' c' l ∧ SlAt shSig w sa sn sc s := by
  obtain ⟨b, o, xs, ha, hE, hc⟩ := h.cell i _ hi
  obtain ⟨x1, x2, rfl, ⟨y1, y2, rfl, ⟨rfl, he⟩, a', n', c', rfl, hs⟩, sa, sn, sc, rfl, hss⟩ := hE
  exact ⟨b, o, a', n', c', sa, sn, sc, ha, hc 0 _ rfl, hc 1 _ rfl, hc 2 _ rfl, he, hs, hss⟩

set_option maxHeartbeats 2000000 in
theorem check_any (X : Nat → Prop) (B p : Nat) (oc os : Option Nat) (c0 : Cf) (cs : List Cf) (ss : List (List Sg)) (a : Option Addr) (n c : Nat) (chain : List Lk) (w : World)
    (h : Trk X w B p oc os (c0 :: cs) ss) (hcl : (c0 :: cs).length ≤ 1000) (hsl : ss.length ≤ 1000) (hc : SlAt shLink w a n c chain) (hn : n ≤ 1000) :
    Calls Try.prog 68 #[.pointer (some ⟨p, 0, none⟩), .slice a n c] w fun r w' => r = .returned (.int .i64 (checkC c0 (c0 :: cs) chain)) ∧ Below w.heap.size w w' := by
  obtain ⟨ac, cc, ag, cg, hp, hC, hG⟩ := h.view hcl hsl
  obtain ⟨e0, l0⟩ := c0
  obtain ⟨b, o, a0, n0, k0, rfl, d0, d1, he0, hs0⟩ := conf_cells hC (i := 0) rfl
  have p0 : w.cell? ⟨p, 0, none⟩ = some (.slice (some ⟨b, o, none⟩) ((e0, l0) :: cs).length cc) := by rw [blk_cell hp]; rfl
  have HP := Lib.hid hp; have HC := Lib.hid hC; have HS0 := Lib.hid hs0; have HCH := Lib.hid hc
  have lc := hc.len
  rw [Nat.zero_mul, Nat.add_zero] at d0 d1
  have hz0 : 0 < ((e0, l0) :: cs).length := by simp
  generalize hN : ((e0, l0) :: cs).length = N at *
  have HN := Lib.hid hN
  clear h hp hC hG hs0 hc hN
  go_enter Try.func68, Try.ntmps68
  go_wp2_with fail
  have BA := Lib.hid (below_alloc w (.cells #[.int .i64 e0, .slice a0 n0 k0] 24))
  have KA := Lib.hid (blk_alloc w (.cells #[.int .i64 e0, .slice a0 n0 k0] 24))
  clear p0 d0 d1
  go_loopw [19] (fun i wr => ∃ k : Nat, ∃ e a1 n1 c1 l, k ≤ n ∧ i = .int .i64 k ∧ i64 e ∧ Hid (wr.heap[w.heap.size]? = some (.cells #[.int .i64 e, .slice a1 n1 c1] 24 (0, 0))) ∧ Hid (SlAt Sh.int w a1 n1 c1 l) ∧ Hid (chainC (e0, l0) chain = chainC (e, l) (chain.drop k)) ∧ Hid (Below w.heap.size w wr)) (fun i _ => n - (intOf i).toNat)
  case atStart => exact ⟨0, e0, a0, n0, k0, l0, by omega, rfl, he0, KA, HS0, Lib.hid rfl, BA⟩
  case round =>
    clear KA BA
    obtain ⟨k, e, a1, n1, c1, l, hk, rfl, he, Hq, HS1, HC1, Hb⟩ := hrel
    by_cases hlt : k < n
    · obtain ⟨⟨⟨e2, l2⟩, sg⟩, hy⟩ : ∃ y, chain[k]? = some y := ⟨_, List.getElem?_eq_getElem (by omega)⟩
      obtain ⟨bl, ol, a2, n2, c2, sa, sn, sc, rfl, m0, m1, m2, he2, hs2, hsg⟩ := link_cells HCH.out hy
      replace m0 := below_cell Hb.out m0
      replace m1 := below_cell Hb.out m1
      replace m2 := below_cell Hb.out m2
      have bx := below_alloc wr (.cells #[.int .i64 e2, .slice a2 n2 c2, .slice sa sn sc] 61)
      have kx := blk_alloc wr (.cells #[.int .i64 e2, .slice a2 n2 c2, .slice sa sn sc] 61)
      have kq := blk_below Hq.out bx
      have x0 : (wr.alloc (.cells #[.int .i64 e2, .slice a2 n2 c2, .slice sa sn sc] 61)).cell? ⟨w.heap.size, 0, none⟩ = some (.int .i64 e) := by rw [blk_cell kq]; rfl
      have x1 : (wr.alloc (.cells #[.int .i64 e2, .slice a2 n2 c2, .slice sa sn sc] 61)).cell? ⟨w.heap.size, 1, none⟩ = some (.slice a1 n1 c1) := by rw [blk_cell kq]; rfl
      have y0 : (wr.alloc (.cells #[.int .i64 e2, .slice a2 n2 c2, .slice sa sn sc] 61)).cell? ⟨wr.heap.size, 0, none⟩ = some (.int .i64 e2) := by rw [blk_cell kx]; rfl
      have y1 : (wr.alloc (.cells #[.int .i64 e2, .slice a2 n2 c2, .slice sa sn sc] 61)).cell? ⟨wr.heap.size, 1, none⟩ = some (.slice a2 n2 c2) := by rw [blk_cell kx]; rfl
      have y2 : (wr.alloc (.cells #[.int .i64 e2, .slice a2 n2 c2, .slice sa sn sc] 61)).cell? ⟨wr.heap.size, 2, none⟩ = some (.slice sa sn sc) := by rw [blk_cell kx]; rfl
      have KX := Lib.hid kx; have KQ := Lib.hid kq; have BX := Lib.hid bx; have HS2 := Lib.hid hs2; have HSG := Lib.hid hsg; have HY := Lib.hid hy
      clear kx kq bx hs2 hsg hy
      go_wp2_with fail
      refine (valid_any e a1 n1 c1 l e2 a2 n2 c2 l2 sa sn sc sg _ (ints_of_sl ((HS1.out.old Hb.out).old BX.out)) (ints_of_sl ((HS2.out.old Hb.out).old BX.out)) ((HSG.out.old Hb.out).old BX.out)).mono ?_
      rintro r w5 ⟨rfl, b5⟩
      replace x0 := below_cell b5 x0
      replace x1 := below_cell b5 x1
      replace y0 := below_cell b5 y0
      replace y1 := below_cell b5 y1
      have KQ5 := Lib.hid (blk_below KQ.out b5)
      have f5 : ∀ o, w5.frozen? ⟨w.heap.size, o, none⟩ = false := fun o => blk_frozen KQ5.out o
      have B5 := Lib.hid (bthen (bthen Hb.out BX.out) b5)
      have HD := Lib.hid (show chain.drop k = ((e2, l2), sg) :: chain.drop (k + 1) from List.drop_eq_getElem?_toList_append.trans (by rw [HY.out]; rfl))
      clear b5 y2 m0 m1 m2
      generalize hv : validC e l e2 l2 sg = v at *
      have HV := Lib.hid hv
      clear hv
      by_cases hv0 : v = 0
      · subst hv0
        go_wp2_with fail
        go_roundw
        case rel => exact ⟨k + 1, e2, a2, n2, c2, l2, by omega, rfl, he2, Lib.hid (blk_set (blk_set KQ5.out 0 _) 1 _), HS2, Lib.hid (by rw [HC1.out, HD.out, chainC, if_pos HV.out]), Lib.hid ((B5.out.setCell (p := ⟨w.heap.size, 0, none⟩) (Nat.le_refl _) _).setCell (p := ⟨w.heap.size, 1, none⟩) (Nat.le_refl _) _)⟩
        case measure => simp [intOf]; omega
      · go_wp2_with fail
        go_ret
        have hch : chainC (e0, l0) chain = v := by rw [HC1.out, HD.out, chainC]; simp only [HV.out]; rw [if_neg hv0]
        exact ⟨by rw [checkC, hch, if_pos hv0]; rfl, B5.out⟩
    · obtain rfl : n = k := by omega
      have HZ := Lib.hid (show chainC (e0, l0) chain = 0 by rw [HC1.out, List.drop_of_length_le (by omega), chainC])
      clear HC1 Hq HS1 he
      go_wp2_with fail
      go_loopw [34] (fun i wr => ∃ k : Nat, k ≤ n ∧ i = .int .i64 k ∧ Hid (∀ j, j < k → ¬ Differs ((e0, l0) :: cs) chain j) ∧ Hid (Below w.heap.size w wr)) (fun i _ => n - (intOf i).toNat)
      case atStart => exact ⟨0, by omega, rfl, Lib.hid (fun j hj => by omega), Hb⟩
      case round =>
        clear Hb
        obtain ⟨k, hk, rfl, HD, Hb⟩ := hrel
        clear hlt
        by_cases hlt : k < n
        · obtain ⟨⟨⟨e2, l2⟩, sg⟩, hy⟩ : ∃ y, chain[k]? = some y := ⟨_, List.getElem?_eq_getElem (by omega)⟩
          obtain ⟨bl, ol, a2, n2, c2, sa, sn, sc, rfl, m0, m1, m2, he2, hs2, hsg⟩ := link_cells HCH.out hy
          replace m0 := below_cell Hb.out m0
          replace m1 := below_cell Hb.out m1
          replace m2 := below_cell Hb.out m2
          obtain ⟨wz, hwz⟩ : ∃ wz, wz = wr.alloc (.cells #[.int .i64 e2, .slice a2 n2 c2, .slice sa sn sc] 61) := ⟨_, rfl⟩
          have bx : Below wr.heap.size wr wz := by rw [hwz]; exact below_alloc wr _
          have kx : wz.heap[wr.heap.size]? = some (.cells #[.int .i64 e2, .slice a2 n2 c2, .slice sa sn sc] 61 (0, 0)) := by rw [hwz]; exact blk_alloc wr _
          have y1 : wz.cell? ⟨wr.heap.size, 1, none⟩ = some (.slice a2 n2 c2) := by rw [blk_cell kx]; rfl
          have bz := bthen Hb.out bx
          have kp := blk_below HP.out bz
          have p0 : wz.cell? ⟨p, 0, none⟩ = some (.slice (some ⟨b, o, none⟩) N cc) := by rw [blk_cell kp]; rfl
          have lp := blk_lt kp
          have lx := blk_lt kx
          have hki : IntKind.i64.wrap ((k : Int) + 1) = ((k + 1 : Nat) : Int) := IntWalk.i64_in _ (by omega)
          have BZ := Lib.hid bz; have HS2 := Lib.hid hs2; have HY := Lib.hid hy
          have LC := Lib.hid lc
          clear bx kx bz kp hs2 hsg hy lc
          by_cases hkN : k + 1 < N
          · obtain ⟨⟨e1, l1⟩, hcm⟩ : ∃ y, ((e0, l0) :: cs)[k + 1]? = some y := ⟨_, List.getElem?_eq_getElem (by rw [HN.out]; exact hkN)⟩
            obtain ⟨bb, oo, a3, n3, c3, hbo, d0, d1, he3, hs3⟩ := conf_cells HC.out hcm
            obtain ⟨rfl, rfl⟩ : b = bb ∧ o = oo := by simpa using hbo
            replace d0 := below_cell BZ.out d0
            replace d1 := below_cell BZ.out d1
            have lb : b < wz.heap.size := World.block_lt d0
            have CE := Lib.hid (fun (w' : World) (hb : Below wz.heap.size wz w') => equal_any a3 n3 c3 l1 a2 n2 c2 l2 w' ((ints_of_sl (hs3.old BZ.out)).below hb) ((ints_of_sl (HS2.out.old BZ.out)).below hb))
            have HCM := Lib.hid hcm
            clear hbo hs3 hcm
            have hdec : decide ((k : Int) + 1 < (N : Int)) = true := by simp; omega
            have hx0 : (0 : Int) ≤ (k : Int) + 1 := by omega
            have hx1 : (k : Int) + 1 < (N : Int) := by omega
            have hx2 : ((k : Int) + 1).toNat = k + 1 := by omega
            cases hee : (l1 == l2) with
            | true =>
              rw [hee] at CE
              have HDk := Lib.hid (show ∀ j, j < k + 1 → ¬ Differs ((e0, l0) :: cs) chain j from fun j hj hd => by
                rcases Nat.lt_or_ge j k with h | h
                · exact HD.out j h hd
                · obtain rfl : j = k := by omega
                  obtain ⟨c, y, h1, h2, h3⟩ := hd
                  rw [HCM.out] at h1
                  rw [HY.out] at h2
                  injection h1 with h1; injection h2 with h2
                  subst h1 h2
                  exact h3 (by simpa using hee))
              go_wp2_with fail
              rw [← hwz]
              clear hwz
              refine wp_region_below (by kernel_rfl) (by kernel_rfl) ?_
              repeat (refine wpQuiet_step (fun K hK => ?_); go_simp; first | (refine hK _ ?_; clear hK K) | (apply Exists.intro; refine ⟨fun w' hw' => ?_, hK _ ?_⟩; (first | (go_at_call 92; exact Calls.quiet_below_drawn hw' (CE.out _ hw')) | (with_reducible rfl) | (obtain ⟨cc, dd⟩ := bcell hw'; go_simp; rfl)); clear hK K))
              refine wpQuiet_nil ?_
              intro w7 h7
              have B7 := Lib.hid (bthen BZ.out h7)
              clear h7 p0 y1 d0 d1
              go_wp2_with fail
              go_roundw
              case rel => exact ⟨k + 1, by omega, by go_num, HDk, B7⟩
              case measure => simp [intOf]; omega
            | false =>
              rw [hee] at CE
              have HO := Lib.hid (otherB_true (cs := (e0, l0) :: cs) (chain := chain) (j := k) ⟨_, _, HCM.out, HY.out, by simpa using hee⟩)
              go_wp2_with fail
              rw [← hwz]
              clear hwz
              refine wp_region_below (by kernel_rfl) (by kernel_rfl) ?_
              repeat (refine wpQuiet_step (fun K hK => ?_); go_simp; first | (refine hK _ ?_; clear hK K) | (apply Exists.intro; refine ⟨fun w' hw' => ?_, hK _ ?_⟩; (first | (go_at_call 92; exact Calls.quiet_below_drawn hw' (CE.out _ hw')) | (with_reducible rfl) | (obtain ⟨cc, dd⟩ := bcell hw'; go_simp; rfl)); clear hK K))
              refine wpQuiet_nil ?_
              intro w7 h7
              have B7 := Lib.hid (bthen BZ.out h7)
              clear h7 p0 y1 d0 d1
              go_wp2_with fail
              go_ret
              exact ⟨by rw [checkC, HZ.out, if_neg (by simp), if_pos HO.out]; rfl, B7.out⟩
          · have hdec : decide ((k : Int) + 1 < (N : Int)) = false := by simp; omega
            have HDk := Lib.hid (show ∀ j, j < k + 1 → ¬ Differs ((e0, l0) :: cs) chain j from fun j hj hd => by
                rcases Nat.lt_or_ge j k with h | h
                · exact HD.out j h hd
                · obtain rfl : j = k := by omega
                  obtain ⟨c, y, h1, h2, h3⟩ := hd
                  have := (List.getElem?_eq_some_iff.1 h1).1
                  rw [HN.out] at this
                  exact hkN this)
            go_wp2_with fail
            rw [← hwz]
            clear hwz
            refine wp_region_below (by kernel_rfl) (by kernel_rfl) ?_
            repeat (refine wpQuiet_step (fun K hK => ?_); go_simp; first | (refine hK _ ?_; clear hK K) | (apply Exists.intro; refine ⟨fun w' hw' => ?_, hK _ ?_⟩; (first | (with_reducible rfl) | (obtain ⟨cc, dd⟩ := bcell hw'; go_simp; rfl)); clear hK K))
            refine wpQuiet_nil ?_
            intro w7 h7
            have B7 := Lib.hid (bthen BZ.out h7)
            clear h7 p0 y1
            go_wp2_with fail
            go_roundw
            case rel => exact ⟨k + 1, by omega, by go_num, HDk, B7⟩
            case measure => simp [intOf]; omega
        · obtain rfl : n = k := by omega
          have HO := Lib.hid (otherB_false (cs := (e0, l0) :: cs) (chain := chain) (by rw [lc]; exact HD.out))
          have p0 : wr.cell? ⟨p, 0, none⟩ = some (.slice (some ⟨b, o, none⟩) N cc) := by rw [blk_cell (blk_below HP.out Hb.out)]; rfl
          by_cases hnN : n < N
          · have HA := Lib.hid (show checkC (e0, l0) ((e0, l0) :: cs) chain = 17 by rw [checkC, HZ.out, HO.out, HN.out, lc]; simp [hnN])
            have hnN' : decide ((n : Int) < (N : Int)) = true := by simpa using hnN
            clear HD lc
            go_wp2_with fail
            go_ret
            exact ⟨by rw [HA.out]; rfl, Hb.out⟩
          · have HA := Lib.hid (show checkC (e0, l0) ((e0, l0) :: cs) chain = 0 by rw [checkC, HZ.out, HO.out, HN.out, lc]; simp [hnN])
            have hnN' : decide ((n : Int) < (N : Int)) = false := by simpa using hnN
            clear HD lc
            go_wp2_with fail
            go_ret
            exact ⟨by rw [HA.out]; rfl, Hb.out⟩
end Go.Proofs.Ytijeieamodjgbab

/- Walk of lives, and its plain facts. -/
namespace Go.Proofs.Ytijeieamodjgbab
set_option maxRecDepth 100000
open Go.RowKit
set_option linter.unusedVariables false

end Go.Proofs.Ytijeieamodjgbab

/- Walks of the references' Same: of configurations, of lists of signatures, of chains. -/
namespace Go.Proofs.Ytijeieamodjgbab
set_option maxRecDepth 100000
open Go.RowKit
attribute [local irreducible] wpQuiet
set_option linter.unusedVariables false

end Go.Proofs.Ytijeieamodjgbab
