
/- The walk of the reference's Settled. (regions 6, 10, 11 printed by mkRv7.py) -/
import Derived.Test.YtfhbjajhmegdmaaRv4
namespace Go.Proofs.Ytfhbjajhmegdmaa
set_option maxRecDepth 100000
open Go.RowKit
set_option linter.unusedVariables false
set_option linter.unusedSimpArgs false

def rsetR (W q bo oo n co : Nat) (t : ByteArray) (e : Int) (am : Option Addr) (m dm : Nat) (nx : List Int) : Nat → World → Value → Prop
  | 0 => fun _ v => v = .slice (some ⟨bo, oo, none⟩) n co
  | 1 => fun _ v => v = .pointer (some ⟨bo, oo, none⟩)
  | 2 => fun _ v => v = .pointer (some ⟨bo, oo + 1, none⟩)
  | 3 => fun _ v => v = .string t
  | 4 => fun _ v => v = .pointer (some ⟨q, 0, none⟩)
  | 5 => fun _ v => v = .pointer (some ⟨q, 0, none⟩)
  | 6 => fun _ v => v = .pointer (some ⟨q, 0, none⟩)
  | 7 => fun _ v => v = .pointer (some ⟨q, 0, none⟩)
  | 8 => fun _ v => v = .int .i64 e
  | 9 => fun _ v => v = .int .i64 (e + 1)
  | 10 => fun _ v => v = .slice (some ⟨bo, oo, none⟩) n co
  | 11 => fun _ v => v = .pointer (some ⟨bo, oo, none⟩)
  | 12 => fun _ v => v = .pointer (some ⟨bo, oo + 2, none⟩)
  | 13 => fun _ v => v = .slice am m dm
  | 14 => fun w v => ∃ a' c', v = .slice a' m c' ∧ w.ownsRow W 3 1 (.slice a' m c') m (intsV nx)
  | 15 => fun w v => ∃ a' c', v = .agg #[.int .i64 (e + 1), .slice a' m c'] ∧ w.ownsRow W 3 1 (.slice a' m c') m (intsV nx)
  | 16 => fun w v => ∃ a' c', v = .agg #[.int .i64 (e + 1), .slice a' m c', .slice none 0 0] ∧ w.ownsRow W 3 1 (.slice a' m c') m (intsV nx)
  | 17 => fun w v => ∃ a' c', v = .agg #[.string t, .slice none 0 0, .int .i64 (e + 1), .slice a' m c', .slice none 0 0] ∧ w.ownsRow W 3 1 (.slice a' m c') m (intsV nx)
  | 18 => fun w v => ∃ g, v = .pointer (some ⟨g, 0, none⟩) ∧ W ≤ g ∧ w.heap[g]? = some (.cells #[.string ⟨#[]⟩, .slice none 0 0, .int .i64 0, .slice none 0 0, .slice none 0 0] 54 (0, 0))
  | _ => fun _ _ => False
theorem rsetR_stab {W q bo oo n co : Nat} {t : ByteArray} {e : Int} {am : Option Addr} {m dm : Nat} {nx : List Int} : ∀ i w w' v, rsetR W q bo oo n co t e am m dm nx i w v → Below w.heap.size w w' → rsetR W q bo oo n co t e am m dm nx i w' v
  | 0, w, w', v, h, hb => h
  | 1, w, w', v, h, hb => h
  | 2, w, w', v, h, hb => h
  | 3, w, w', v, h, hb => h
  | 4, w, w', v, h, hb => h
  | 5, w, w', v, h, hb => h
  | 6, w, w', v, h, hb => h
  | 7, w, w', v, h, hb => h
  | 8, w, w', v, h, hb => h
  | 9, w, w', v, h, hb => h
  | 10, w, w', v, h, hb => h
  | 11, w, w', v, h, hb => h
  | 12, w, w', v, h, hb => h
  | 13, w, w', v, h, hb => h
  | 14, w, w', v, ⟨a', c', h1, h2⟩, hb => ⟨a', c', h1, owns_old h2 hb⟩
  | 15, w, w', v, ⟨a', c', h1, h2⟩, hb => ⟨a', c', h1, owns_old h2 hb⟩
  | 16, w, w', v, ⟨a', c', h1, h2⟩, hb => ⟨a', c', h1, owns_old h2 hb⟩
  | 17, w, w', v, ⟨a', c', h1, h2⟩, hb => ⟨a', c', h1, owns_old h2 hb⟩
  | 18, w, w', v, ⟨g, h1, h2, h3⟩, hb => ⟨g, h1, h2, blk_below h3 hb⟩
  | _ + 19, w, w', v, h, hb => h
def roneR (W W0 g : Nat) (o1 : Option Nat) (a1 : Option Addr) (na c1 bo oo n co j sb so sc : Nat) (x : Int) (s : ByteArray) (A : List Sg) : Nat → World → Value → Prop
  | 0 => fun _ v => v = .pointer (some ⟨g, 1, none⟩)
  | 1 => fun _ v => v = .slice a1 na c1
  | 2 => fun _ v => v = .slice (some ⟨bo, oo, none⟩) n co
  | 3 => fun _ v => v = .int .i64 (j : Int)
  | 4 => fun _ v => v = .pointer (some ⟨bo, oo + j * 4, none⟩)
  | 5 => fun _ v => v = .pointer (some ⟨bo, oo + j * 4 + 3, none⟩)
  | 6 => fun _ v => v = .slice (some ⟨sb, so, none⟩) 2 sc
  | 7 => fun _ v => v = .pointer (some ⟨sb, so, none⟩)
  | 8 => fun _ v => v = .agg #[.int .i64 x, .string s]
  | 9 => fun w v => ∃ h, v = .slice (some ⟨h, 0, none⟩) 1 1 ∧ W0 ≤ h ∧ w.heap[h]? = some (.cells #[.int .i64 x, .string s] 47 (0, 0))
  | 10 => fun w v => ∃ h d, v = .slice (some ⟨h, 0, none⟩) (na + 1) d ∧ w.ownsRow W 47 2 (.slice (some ⟨h, 0, none⟩) (na + 1) d) (na + 1) (sigV A ++ [Value.int .i64 x, Value.string s]) ∧ (o1 = some h ∨ W0 ≤ h)
  | 11 => fun _ v => v = .pointer (some ⟨g, 1, none⟩)
  | _ => fun _ _ => False
theorem roneR_stab {W W0 g : Nat} {o1 : Option Nat} {a1 : Option Addr} {na c1 bo oo n co j sb so sc : Nat} {x : Int} {s : ByteArray} {A : List Sg} (hY : ∀ k, W0 ≤ k → ¬ (o1 = some k)) : ∀ i w w' v, roneR W W0 g o1 a1 na c1 bo oo n co j sb so sc x s A i w v → (i = 10 → Below w.heap.size w w') → Keep (fun k => o1 = some k) w w' → roneR W W0 g o1 a1 na c1 bo oo n co j sb so sc x s A i w' v
  | 0, w, w', v, h, hb, hk => h
  | 1, w, w', v, h, hb, hk => h
  | 2, w, w', v, h, hb, hk => h
  | 3, w, w', v, h, hb, hk => h
  | 4, w, w', v, h, hb, hk => h
  | 5, w, w', v, h, hb, hk => h
  | 6, w, w', v, h, hb, hk => h
  | 7, w, w', v, h, hb, hk => h
  | 8, w, w', v, h, hb, hk => h
  | 9, w, w', v, ⟨h, h1, h2, h3⟩, hb, hk => ⟨h, h1, h2, by rw [hk.block h (blk_lt h3) (hY h h2)]; exact h3⟩
  | 10, w, w', v, ⟨h, d, h1, h2, h3⟩, hb, hk => ⟨h, d, h1, owns_old h2 (hb rfl), h3⟩
  | 11, w, w', v, h, hb, hk => h
  | _ + 12, w, w', v, h, hb, hk => h
def rtwoR (W W0 g : Nat) (o1 : Option Nat) (a1 : Option Addr) (na c1 bo oo n co j sb so sc : Nat) (x : Int) (s : ByteArray) (A : List Sg) : Nat → World → Value → Prop
  | 0 => fun _ v => v = .pointer (some ⟨g, 2, none⟩)
  | 1 => fun _ v => v = .pointer (some ⟨g, 4, none⟩)
  | 2 => fun _ v => v = .slice a1 na c1
  | 3 => fun _ v => v = .slice (some ⟨bo, oo, none⟩) n co
  | 4 => fun _ v => v = .int .i64 (j : Int)
  | 5 => fun _ v => v = .pointer (some ⟨bo, oo + j * 4, none⟩)
  | 6 => fun _ v => v = .pointer (some ⟨bo, oo + j * 4 + 3, none⟩)
  | 7 => fun _ v => v = .slice (some ⟨sb, so, none⟩) 2 sc
  | 8 => fun _ v => v = .pointer (some ⟨sb, so + 2, none⟩)
  | 9 => fun _ v => v = .agg #[.int .i64 x, .string s]
  | 10 => fun w v => ∃ h, v = .slice (some ⟨h, 0, none⟩) 1 1 ∧ W0 ≤ h ∧ w.heap[h]? = some (.cells #[.int .i64 x, .string s] 47 (0, 0))
  | 11 => fun w v => ∃ h d, v = .slice (some ⟨h, 0, none⟩) (na + 1) d ∧ w.ownsRow W 47 2 (.slice (some ⟨h, 0, none⟩) (na + 1) d) (na + 1) (sigV A ++ [Value.int .i64 x, Value.string s]) ∧ (o1 = some h ∨ W0 ≤ h)
  | 12 => fun _ v => v = .pointer (some ⟨g, 2, none⟩)
  | 13 => fun _ v => v = .pointer (some ⟨g, 4, none⟩)
  | _ => fun _ _ => False
theorem rtwoR_stab {W W0 g : Nat} {o1 : Option Nat} {a1 : Option Addr} {na c1 bo oo n co j sb so sc : Nat} {x : Int} {s : ByteArray} {A : List Sg} (hY : ∀ k, W0 ≤ k → ¬ (o1 = some k)) : ∀ i w w' v, rtwoR W W0 g o1 a1 na c1 bo oo n co j sb so sc x s A i w v → (i = 11 → Below w.heap.size w w') → Keep (fun k => o1 = some k) w w' → rtwoR W W0 g o1 a1 na c1 bo oo n co j sb so sc x s A i w' v
  | 0, w, w', v, h, hb, hk => h
  | 1, w, w', v, h, hb, hk => h
  | 2, w, w', v, h, hb, hk => h
  | 3, w, w', v, h, hb, hk => h
  | 4, w, w', v, h, hb, hk => h
  | 5, w, w', v, h, hb, hk => h
  | 6, w, w', v, h, hb, hk => h
  | 7, w, w', v, h, hb, hk => h
  | 8, w, w', v, h, hb, hk => h
  | 9, w, w', v, h, hb, hk => h
  | 10, w, w', v, ⟨h, h1, h2, h3⟩, hb, hk => ⟨h, h1, h2, by rw [hk.block h (blk_lt h3) (hY h h2)]; exact h3⟩
  | 11, w, w', v, ⟨h, d, h1, h2, h3⟩, hb, hk => ⟨h, d, h1, owns_old h2 (hb rfl), h3⟩
  | 12, w, w', v, h, hb, hk => h
  | 13, w, w', v, h, hb, hk => h
  | _ + 14, w, w', v, h, hb, hk => h

set_option maxHeartbeats 4000000 in
theorem rsettled_any (M : Nat → Prop) (q : Nat) (ol : Option Nat) (e : Int) (l : List Int) (V : List Vt) (w : World) (h : RTal M w q ol e l V) (hV : VOk e l V) :
    Calls Try.prog 19 #[.pointer (some ⟨q, 0, none⟩)] w (SetPost e l V w) := by
  have hten := hV.ten
  have he := h.ep
  have hre := rightB_rising hV.right
  have h10 := risingB_len hre.2.2
  obtain ⟨a, n, c, al, cl, hp, hI, hS⟩ := h.view hten
  have hlen := hI.len
  obtain ⟨w1, hw1⟩ : ∃ w1, w1 = w.alloc (.cells #[.string ⟨#[]⟩, .slice none 0 0, .int .i64 0, .slice none 0 0, .slice none 0 0] 54 (0, 0)) := ⟨_, rfl⟩
  have b1 : Below w.heap.size w w1 := by rw [hw1]; exact below_alloc _ _
  have KZ0 := Lib.hid (show w1.heap[w.heap.size]? = some (.cells #[.string ⟨#[]⟩, .slice none 0 0, .int .i64 0, .slice none 0 0, .slice none 0 0] 54 (0, 0)) by rw [hw1]; exact blk_alloc _ _)
  have hz1 : w1.heap.size = w.heap.size + 1 := by rw [hw1]; simp
  have HB0 := Lib.hid b1
  have HT := Lib.hid h; have HV := Lib.hid hV
  have KP := Lib.hid hp; have HS := Lib.hid hS
  clear h hV hp hI hS b1
  go_enter Try.func19, Try.ntmps19
  go_wp2_with fail
  rw [← hw1]
  clear hw1
  go_loopw [4] (fun i wr => ∃ k : Nat, k ≤ V.length ∧ i = .int .i64 k ∧ Hid (∀ j v, j < k → V[j]? = some v → (cntC V v.2 : Int) < quorumP l.length) ∧ Hid (wr.heap[w.heap.size]? = some (.cells #[.string ⟨#[]⟩, .slice none 0 0, .int .i64 0, .slice none 0 0, .slice none 0 0] 54 (0, 0))) ∧ Hid (Below w.heap.size w wr)) (fun i _ => V.length - (intOf i).toNat)
  case atStart => exact ⟨0, by omega, rfl, Lib.hid (fun j v hj => by omega), KZ0, HB0⟩
  case round =>
    clear KZ0 HB0 hz1
    obtain ⟨k, hk, rfl, HD, KZ, Hb⟩ := hrel
    have kp := blk_below KP.out Hb.out
    have p2 : wr.cell? ⟨q, 2, none⟩ = some (.slice al V.length cl) := by rw [blk_cell kp]; rfl
    have lq := blk_lt KP.out
    by_cases hin : k < V.length
    · obtain ⟨vb, vo, x, t, nx, sg, a', n', c', sa', sn', sc', rfl, hy, m0, m1, m2, m3, gx, gt, gn, gs⟩ := rv_cells (HS.out.old Hb.out) hin
      obtain ⟨⟨v1, v2, v3⟩, hv⟩ : ∃ v, V[k]? = some v := ⟨_, List.getElem?_eq_getElem hin⟩
      obtain ⟨rfl, rfl, rfl⟩ : v1 = x ∧ v2 = t ∧ v3 = nx := by
        rw [List.getElem?_map, hv] at hy
        simp only [Option.map_some, rvOf, Option.some.injEq, Prod.mk.injEq] at hy
        exact ⟨hy.1, hy.2.1, hy.2.2.1⟩
      have hj0 : (0 : Int) ≤ (k : Int) := by omega
      have hj1 : (k : Int) < (V.length : Int) := by omega
      have lm := World.block_lt m0
      have CL := Lib.hid (like_any M q ol e l V v1 v2 a' n' c' v3 sa' sn' sc' wr (HT.out.old Hb.out) HV.out (ints_of_sl gn))
      have HVk := Lib.hid hv
      have HY := Lib.hid (fun hq => (winner_of HV.out (List.mem_of_getElem? hv)).1 hq)
      have HLn := Lib.hid (like_len HV.out (v2, v3))
      have HLe := Lib.hid (likeP_eq HV.out.nodup (v2, v3) l)
      clear hv hy gx gt gn gs
      dsimp only at HY
      generalize hLL : likeP V (v2, v3) l = L at *
      go_wp2_with fail
      refine CL.out.mono ?_
      rintro r w3 ⟨b3, o, rfl, hLA⟩
      unfold LikeAt at hLA
      rw [hLL] at hLA
      clear hLL CL
      obtain ⟨xl, o1, r1⟩ := hLA
      obtain ⟨ao, co, rfl⟩ := owns_form o1
      have hLl : L.length ≤ 10 := by rw [HLn.out]; exact Nat.le_trans (List.length_filter_le _ _) hten
      have HSL := Lib.hid (show SlAt shRv w3 ao L.length co (L.map (rvOf e)) from sl_of_row (B := wr.heap.size) (e := 86) (xs := xl) (by rw [List.length_map]; exact o1) r1 (by show _ * 72 ≤ _; omega))
      have KZ3 := Lib.hid (blk_below KZ.out b3)
      have B3 := Lib.hid (bthen Hb.out b3)
      have kp3 := blk_below kp b3
      have q1 : w3.cell? ⟨q, 1, none⟩ = some (.slice a n c) := by rw [blk_cell kp3]; rfl
      have lq3 := blk_lt kp3
      clear o1 r1 b3 m0 m1 m2 m3 lm p2 hj0 hj1 kp KZ Hb
      have CQ := Lib.hid (rquorum_any (n : Int) w3 (by omega) (by omega))
      go_wp2_with fail
      refine CQ.out.mono ?_
      rintro r w3' ⟨rfl, rfl⟩
      clear CQ
      rw [hlen] at HY HD
      cases hq : decide ((L.length : Int) < quorumP (n : Int)) with
      | true =>
        have HD2 := Lib.hid (show ∀ j v, j < k + 1 → V[j]? = some v → (cntC V v.2 : Int) < quorumP l.length from fun j v hj hv => by
          rw [hlen]
          rcases Nat.lt_or_ge j k with h | h
          · exact HD.out j v h hv
          · obtain rfl : j = k := by omega
            rw [HVk.out] at hv
            injection hv with hv
            subst hv
            have := of_decide_eq_true hq
            rw [HLn.out] at this
            show (cntC V (v2, v3) : Int) < quorumP (n : Int)
            omega)
        clear q1 kp3
        go_wp2_with fail
        go_roundw
        case rel => exact ⟨k + 1, by omega, by go_num, HD2, KZ3, B3⟩
        case measure => simp [intOf]; omega
      | false =>
        have hql : quorumP (n : Int) ≤ (L.length : Int) := by have := of_decide_eq_false hq; omega
        have HW := Lib.hid (HY.out (by rw [← HLn.out]; exact hql))
        have hqp := quorum_pos (n := n) (by omega)
        have hL0 : 0 < L.length := by omega
        have HLv := Lib.hid (show ∀ (j : Nat) (v : Vt), L[j]? = some v → v.2 = (v2, v3) from fun j v hj => by
          rw [HLe.out, List.getElem?_map] at hj
          cases hw : (who l V (v2, v3))[j]? with
          | none => rw [hw] at hj; cases hj
          | some z => rw [hw] at hj; injection hj with hj; rw [← hj])
        clear HY HD HVk hin hk
        obtain ⟨w6, hw6⟩ : ∃ w6, w6 = w3 := ⟨_, rfl⟩
        subst hw6
        have HP6 := Lib.hid kp3
        obtain ⟨⟨x0, y0⟩, hx0⟩ : ∃ v, L[0]? = some v := ⟨_, List.getElem?_eq_getElem hL0⟩
        obtain rfl : y0 = (v2, v3) := HLv.out 0 _ hx0
        obtain ⟨bo, oo, x0', t0, nx0, sg0, am, m, dm, sa0, sn0, sc0, rfl, hy0, g0, g1, g2, g3, gx0, gt0, gn0, gs0⟩ := rv_cells HSL.out hL0
        obtain ⟨rfl, rfl, rfl⟩ : x0 = x0' ∧ v2 = t0 ∧ v3 = nx0 := by
          rw [List.getElem?_map, hx0] at hy0
          simp only [Option.map_some, rvOf, Option.some.injEq, Prod.mk.injEq] at hy0
          exact ⟨hy0.1, hy0.2.1, hy0.2.2.1⟩
        obtain rfl : m = v3.length := gn0.len.symm
        simp only [Nat.zero_mul, Nat.add_zero] at g0 g1 g2 g3
        have Y1 := Lib.hid g1; have Y2 := Lib.hid g2; have HN := Lib.hid gn0
        have lb6 := World.block_lt g1
        have hew : IntKind.i64.wrap (e + 1) = e + 1 := IntWalk.i64_in _ (by omega)
        have hL0i : (0 : Int) < (L.length : Int) := by omega
        have q1 := Lib.hid (show (intsV v3).length = v3.length * 1 by simp [intsV])
        have hn1 := Lib.hid (show am = none → v3.length = 0 ∧ dm = 0 from fun hn => ⟨by have := HN.out.nil hn; have := HN.out.cap; omega, HN.out.nil hn⟩)
        have k1 : v3.length ≤ maxLen := by have := HN.out.cap; have := HN.out.max; simp only [maxLen]; omega
        have k2 : v3.length * 8 ≤ 140737488355328 := HN.out.bytes
        obtain ⟨i1, hi1, hc0, hc1, hc2⟩ := info_parts info_int'
        obtain ⟨i2, hi2, hs0, hs1, hs2⟩ := info_parts info_sig'
        clear g0 g1 g2 g3 gx0 gt0 gn0 gs0 hx0 hy0 kp3
        go_upto_region 6 with (fail)
        have t_eq : v2 = v2 := rfl
        generalize hmm : v3.length = m at *
        refine wp_region_made 19 (rsetR w6.heap.size q bo oo L.length co v2 e am m dm v3) (fun _ _ => none) rfl (by kernel_rfl) (by kernel_rfl) rsetR_stab (fun _ _ _ _ _ h => by cases h) (fun i oo hi ho => ?_) (fun vs w7 hb7 hs hne => ?_)
        · intro ac wa hba hE hF K hK
          have b7 := below_undrew hba
          have hno : ∀ k, (none : Option Nat) = some k → wa.heap.size ≤ k := fun _ h => by cases h
          have z0 : wa.cell? ⟨q, 0, none⟩ = some (.int .i64 e) := by rw [blk_cell (blk_below HP6.out b7)]; rfl
          have z1 := below_cell b7 Y1.out
          have z2 := below_cell b7 Y2.out
          have hW := b7.size
          have hi' : i = 0 ∨ i = 1 ∨ i = 2 ∨ i = 3 ∨ i = 4 ∨ i = 5 ∨ i = 6 ∨ i = 7 ∨ i = 8 ∨ i = 9 ∨ i = 10 ∨ i = 11 ∨ i = 12 ∨ i = 13 ∨ i = 14 ∨ i = 15 ∨ i = 16 ∨ i = 17 ∨ i = 18 := by omega
          rcases hi' with rfl | rfl | rfl | rfl | rfl | rfl | rfl | rfl | rfl | rfl | rfl | rfl | rfl | rfl | rfl | rfl | rfl | rfl | rfl
          · obtain rfl := Option.some.inj ho
            have h1 : ac.eval (.tmp 5) = .slice (some ⟨bo, oo, none⟩) L.length co := hE 5 (by decide)
            exact news_val rfl rfl (by generalize ac.eval = ρ at h1; simp only [execOp]; go_simp) (hK _ _ (Below.refl _ _) rfl hno)
          · obtain rfl := Option.some.inj ho
            have h1 : ac.eval (.tmp 36) = .slice (some ⟨bo, oo, none⟩) L.length co := hF ⟨0, .data⟩ (by simp) rfl 36 rfl
            have h2 : ac.eval (.const (.int .i64 0)) = .int .i64 0 := rfl
            exact news_val rfl rfl (by generalize ac.eval = ρ at h1 h2; simp only [execOp]; go_simp) (hK _ _ (Below.refl _ _) rfl hno)
          · obtain rfl := Option.some.inj ho
            have h1 : ac.eval (.tmp 37) = .pointer (some ⟨bo, oo, none⟩) := hF ⟨1, .data⟩ (by simp) rfl 37 rfl
            exact news_val rfl rfl (by generalize ac.eval = ρ at h1; simp only [execOp]; go_simp) (hK _ _ (Below.refl _ _) rfl hno)
          · obtain rfl := Option.some.inj ho
            have h1 : ac.eval (.tmp 38) = .pointer (some ⟨bo, oo + 1, none⟩) := hF ⟨2, .data⟩ (by simp) rfl 38 rfl
            exact news_val rfl rfl (by generalize ac.eval = ρ at h1; simp only [execOp]; go_simp) (hK _ _ (Below.refl _ _) rfl hno)
          · obtain rfl := Option.some.inj ho
            have h1 : ac.eval (.tmp 0) = .pointer (some ⟨q, 0, none⟩) := hE 0 (by decide)
            exact news_val rfl rfl (by generalize ac.eval = ρ at h1; simp only [execOp]; go_simp) (hK _ _ (Below.refl _ _) rfl hno)
          · obtain rfl := Option.some.inj ho
            have h1 : ac.eval (.tmp 40) = .pointer (some ⟨q, 0, none⟩) := hF ⟨4, .data⟩ (by simp) rfl 40 rfl
            exact news_val rfl rfl (by generalize ac.eval = ρ at h1; simp only [execOp]; go_simp) (hK _ _ (Below.refl _ _) rfl hno)
          · obtain rfl := Option.some.inj ho
            have h1 : ac.eval (.tmp 41) = .pointer (some ⟨q, 0, none⟩) := hF ⟨5, .data⟩ (by simp) rfl 41 rfl
            exact news_val rfl rfl (by generalize ac.eval = ρ at h1; simp only [execOp]; go_simp) (hK _ _ (Below.refl _ _) rfl hno)
          · obtain rfl := Option.some.inj ho
            have h1 : ac.eval (.tmp 42) = .pointer (some ⟨q, 0, none⟩) := hF ⟨6, .data⟩ (by simp) rfl 42 rfl
            exact news_val rfl rfl (by generalize ac.eval = ρ at h1; simp only [execOp]; go_simp) (hK _ _ (Below.refl _ _) rfl hno)
          · obtain rfl := Option.some.inj ho
            have h1 : ac.eval (.tmp 43) = .pointer (some ⟨q, 0, none⟩) := hF ⟨7, .data⟩ (by simp) rfl 43 rfl
            exact news_val rfl rfl (by generalize ac.eval = ρ at h1; simp only [execOp]; go_simp) (hK _ _ (Below.refl _ _) rfl hno)
          · obtain rfl := Option.some.inj ho
            have h1 : ac.eval (.tmp 44) = .int .i64 e := hF ⟨8, .data⟩ (by simp) rfl 44 rfl
            have h2 : ac.eval (.const (.int .i64 1)) = .int .i64 1 := rfl
            exact news_val rfl rfl (by generalize ac.eval = ρ at h1 h2; simp only [execOp]; go_simp) (hK _ _ (Below.refl _ _) rfl hno)
          · obtain rfl := Option.some.inj ho
            have h1 : ac.eval (.tmp 5) = .slice (some ⟨bo, oo, none⟩) L.length co := hE 5 (by decide)
            exact news_val rfl rfl (by generalize ac.eval = ρ at h1; simp only [execOp]; go_simp) (hK _ _ (Below.refl _ _) rfl hno)
          · obtain rfl := Option.some.inj ho
            have h1 : ac.eval (.tmp 46) = .slice (some ⟨bo, oo, none⟩) L.length co := hF ⟨10, .data⟩ (by simp) rfl 46 rfl
            have h2 : ac.eval (.const (.int .i64 0)) = .int .i64 0 := rfl
            exact news_val rfl rfl (by generalize ac.eval = ρ at h1 h2; simp only [execOp]; go_simp) (hK _ _ (Below.refl _ _) rfl hno)
          · obtain rfl := Option.some.inj ho
            have h1 : ac.eval (.tmp 47) = .pointer (some ⟨bo, oo, none⟩) := hF ⟨11, .data⟩ (by simp) rfl 47 rfl
            exact news_val rfl rfl (by generalize ac.eval = ρ at h1; simp only [execOp]; go_simp) (hK _ _ (Below.refl _ _) rfl hno)
          · obtain rfl := Option.some.inj ho
            have h1 : ac.eval (.tmp 48) = .pointer (some ⟨bo, oo + 2, none⟩) := hF ⟨12, .data⟩ (by simp) rfl 48 rfl
            exact news_val rfl rfl (by generalize ac.eval = ρ at h1; simp only [execOp]; go_simp) (hK _ _ (Below.refl _ _) rfl hno)
          · obtain rfl := Option.some.inj ho
            have h1 : ac.eval (.tmp 49) = .slice am m dm := hF ⟨13, .data⟩ (by simp) rfl 49 rfl
            have h2 : ac.eval (.const (.slice none 0 0)) = .slice none 0 0 := rfl
            refine wpOp_step rfl fun K' hK' => ?_
            refine step_append_nil _ rfl (.const (.slice none 0 0)) (.tmp 49) 22 rfl 3 i1 (.int .i64 0) 1 8 Try.underlying22 hi1 hc0 hc1 hc2 rfl (by decide) rfl am m dm (intsV v3) h1 q1.out hn1.out (ints_news (ints_of_sl (HN.out.old b7))) (intsV_one v3) k1 k2 ?_
            intro v6 w8 ho6 b6
            obtain ⟨a6, c6, rfl⟩ := owns_form ho6
            exact hK' _ _ (hK _ _ b6 ⟨a6, c6, rfl, owns_lower ho6 hW⟩ hno)
          · obtain rfl := Option.some.inj ho
            have h1 : ac.eval (.tmp 45) = .int .i64 (e + 1) := hF ⟨9, .data⟩ (by simp) rfl 45 rfl
            obtain ⟨a14, c14, h2, ho14⟩ : ∃ a' c', (ac.eval (.tmp 50)) = .slice a' m c' ∧ wa.ownsRow w6.heap.size 3 1 (.slice a' m c') m (intsV v3) := hF ⟨14, .data⟩ (by simp) rfl 50 rfl
            exact news_val rfl rfl (by generalize ac.eval = ρ at h1 h2; simp only [execOp]; go_simp) (hK _ _ (Below.refl _ _) ⟨_, _, rfl, ho14⟩ hno)
          · obtain rfl := Option.some.inj ho
            obtain ⟨a15, c15, h1, ho15⟩ : ∃ a' c', (ac.eval (.tmp 51)) = .agg #[.int .i64 (e + 1), .slice a' m c'] ∧ wa.ownsRow w6.heap.size 3 1 (.slice a' m c') m (intsV v3) := hF ⟨15, .data⟩ (by simp) rfl 51 rfl
            exact news_val rfl rfl (by generalize ac.eval = ρ at h1; simp only [execOp]; go_simp) (hK _ _ (Below.refl _ _) ⟨_, _, rfl, ho15⟩ hno)
          · obtain rfl := Option.some.inj ho
            have h1 : ac.eval (.tmp 39) = .string v2 := hF ⟨3, .data⟩ (by simp) rfl 39 rfl
            obtain ⟨a16, c16, h2, ho16⟩ : ∃ a' c', (ac.eval (.tmp 52)) = .agg #[.int .i64 (e + 1), .slice a' m c', .slice none 0 0] ∧ wa.ownsRow w6.heap.size 3 1 (.slice a' m c') m (intsV v3) := hF ⟨16, .data⟩ (by simp) rfl 52 rfl
            exact news_val rfl rfl (by generalize ac.eval = ρ at h1 h2; simp only [execOp]; go_simp) (hK _ _ (Below.refl _ _) ⟨_, _, rfl, ho16⟩ hno)
          · obtain rfl := Option.some.inj ho
            exact news_val rfl rfl (by generalize ac.eval = ρ; simp only [execOp]; go_simp) (hK _ _ (below_alloc _ _) ⟨wa.heap.size, rfl, hW, blk_alloc _ _⟩ hno)
        · have e0 : vs 0 = _ := hs 0 (by omega)
          have e1 : vs 1 = _ := hs 1 (by omega)
          have e2 : vs 2 = _ := hs 2 (by omega)
          have e3 : vs 3 = _ := hs 3 (by omega)
          have e4 : vs 4 = _ := hs 4 (by omega)
          have e5 : vs 5 = _ := hs 5 (by omega)
          have e6 : vs 6 = _ := hs 6 (by omega)
          have e7 : vs 7 = _ := hs 7 (by omega)
          have e8 : vs 8 = _ := hs 8 (by omega)
          have e9 : vs 9 = _ := hs 9 (by omega)
          have e10 : vs 10 = _ := hs 10 (by omega)
          have e11 : vs 11 = _ := hs 11 (by omega)
          have e12 : vs 12 = _ := hs 12 (by omega)
          have e13 : vs 13 = _ := hs 13 (by omega)
          obtain ⟨a14, c14, e14, ho14⟩ : ∃ a' c', (vs 14) = .slice a' m c' ∧ w7.ownsRow w6.heap.size 3 1 (.slice a' m c') m (intsV v3) := hs 14 (by omega)
          obtain ⟨a15, c15, e15, ho15⟩ : ∃ a' c', (vs 15) = .agg #[.int .i64 (e + 1), .slice a' m c'] ∧ w7.ownsRow w6.heap.size 3 1 (.slice a' m c') m (intsV v3) := hs 15 (by omega)
          obtain ⟨a16, c16, e16, ho16⟩ : ∃ a' c', (vs 16) = .agg #[.int .i64 (e + 1), .slice a' m c', .slice none 0 0] ∧ w7.ownsRow w6.heap.size 3 1 (.slice a' m c') m (intsV v3) := hs 16 (by omega)
          obtain ⟨a17, c17, e17, ho17⟩ : ∃ a' c', (vs 17) = .agg #[.string v2, .slice none 0 0, .int .i64 (e + 1), .slice a' m c', .slice none 0 0] ∧ w7.ownsRow w6.heap.size 3 1 (.slice a' m c') m (intsV v3) := hs 17 (by omega)
          obtain ⟨g, e18, hg18, hb18⟩ : ∃ g, (vs 18) = .pointer (some ⟨g, 0, none⟩) ∧ w6.heap.size ≤ g ∧ w7.heap[g]? = some (.cells #[.string ⟨#[]⟩, .slice none 0 0, .int .i64 0, .slice none 0 0, .slice none 0 0] 54 (0, 0)) := hs 18 (by omega)
          show wpList _ _ _ _ (((((((((((((((((((Act.put _ (some 36) (vs 0)).put (some 37) (vs 1)).put (some 38) (vs 2)).put (some 39) (vs 3)).put (some 40) (vs 4)).put (some 41) (vs 5)).put (some 42) (vs 6)).put (some 43) (vs 7)).put (some 44) (vs 8)).put (some 45) (vs 9)).put (some 46) (vs 10)).put (some 47) (vs 11)).put (some 48) (vs 12)).put (some 49) (vs 13)).put (some 50) (vs 14)).put (some 51) (vs 15)).put (some 52) (vs 16)).put (some 53) (vs 17)).put (some 6) (vs 18)) _
          rw [e0, e1, e2, e3, e4, e5, e6, e7, e8, e9, e10, e11, e12, e13, e14, e15, e16, e17, e18]
          clear e0 e1 e2 e3 e4 e5 e6 e7 e8 e9 e10 e11 e12 e13 e14 e15 e16 e17 e18 hs hne vs
          have hp18 := own_ne ho17 hb18 (by decide)
          have d0 : w7.cell? ⟨g, 0, none⟩ = some (.string ⟨#[]⟩) := by rw [blk_cell hb18]; rfl
          have d1 : w7.cell? ⟨g, 1, none⟩ = some (.slice none 0 0) := by rw [blk_cell hb18]; rfl
          have d2 : w7.cell? ⟨g, 2, none⟩ = some (.int .i64 0) := by rw [blk_cell hb18]; rfl
          have d3 : w7.cell? ⟨g, 3, none⟩ = some (.slice none 0 0) := by rw [blk_cell hb18]; rfl
          have d4 : w7.cell? ⟨g, 4, none⟩ = some (.slice none 0 0) := by rw [blk_cell hb18]; rfl
          have f0 := blk_frozen hb18 0; have f1 := blk_frozen hb18 1; have f2 := blk_frozen hb18 2; have f3 := blk_frozen hb18 3; have f4 := blk_frozen hb18 4
          have k5 := blk_set (blk_set (blk_set (blk_set (blk_set hb18 0 (.string v2)) 1 (.slice none 0 0)) 2 (.int .i64 (e + 1))) 3 (.slice a17 m c17)) 4 (.slice none 0 0)
          simp only [List.setIfInBounds_toArray, List.set_cons_zero, List.set_cons_succ] at k5
          have o17 := owns_setother (owns_setother (owns_setother (owns_setother (owns_setother ho17 hp18 0 (.string v2)) hp18 1 (.slice none 0 0)) hp18 2 (.int .i64 (e + 1))) hp18 3 (.slice a17 m c17)) hp18 4 (.slice none 0 0)
          have b17 : Below w6.heap.size w6 (((((w7.setCell ⟨g, 0, none⟩ (.string v2)).setCell ⟨g, 1, none⟩ (.slice none 0 0)).setCell ⟨g, 2, none⟩ (.int .i64 (e + 1))).setCell ⟨g, 3, none⟩ (.slice a17 m c17)).setCell ⟨g, 4, none⟩ (.slice none 0 0)) := ((((hb7.setCell hg18 _).setCell hg18 _).setCell hg18 _).setCell hg18 _).setCell hg18 _
          have HR0 := Lib.hid (show RSt w6.heap.size (((((w7.setCell ⟨g, 0, none⟩ (.string v2)).setCell ⟨g, 1, none⟩ (.slice none 0 0)).setCell ⟨g, 2, none⟩ (.int .i64 (e + 1))).setCell ⟨g, 3, none⟩ (.slice a17 m c17)).setCell ⟨g, 4, none⟩ (.slice none 0 0)) g v2 (e + 1) v3 [] [] from
            ⟨hg18, none, 0, a17, c17, none, 0, by rw [hmm]; exact k5, World.ownsRow_nil _ _ _ _, by rw [hmm]; exact o17, World.ownsRow_nil _ _ _ _, fun k hk => (by cases hk)⟩)
          have B17 := Lib.hid b17
          clear k5 o17 b17 hb7 ho14 ho15 ho16 ho17 hp18 q1 hn1 k1 k2 HN Y1 Y2
          simp only [List.drop_succ_cons, List.drop_zero, Act.put, List.setIfInBounds_toArray, List.set_cons_succ, List.set_cons_zero]
          go_upto_region 7 with (fail)
          generalize ((((w7.setCell ⟨g, 0, none⟩ (.string v2)).setCell ⟨g, 1, none⟩ (.slice none 0 0)).setCell ⟨g, 2, none⟩ (.int .i64 (e + 1))).setCell ⟨g, 3, none⟩ (.slice a17 m c17)).setCell ⟨g, 4, none⟩ (.slice none 0 0) = w8 at *
          clear d0 d1 d2 d3 d4 f0 f1 f2 f3 f4 hb18
          go_wp2_with fail
          go_loopw [7] (fun i wr => ∃ j : Nat, j ≤ L.length ∧ i = .int .i64 j ∧ Hid (RSt w6.heap.size wr g v2 (e + 1) v3 ((L.take j).map fun v => (v.1, stS e v.2.1)) ((L.take j).map fun v => (v.1, textS (e + 1) v.2.2))) ∧ Hid (Below w6.heap.size w6 wr)) (fun i _ => L.length - (intOf i).toNat)
          case atStart => exact ⟨0, by omega, rfl, HR0, B17⟩
          case round =>
            clear HR0 B17
            obtain ⟨j, hj, rfl, HR, Hb⟩ := hrel
            by_cases hjn : j < L.length
            · obtain ⟨⟨x, y0⟩, hx⟩ : ∃ v, L[j]? = some v := ⟨_, List.getElem?_eq_getElem hjn⟩
              obtain rfl : y0 = (v2, v3) := HLv.out j _ hx
              obtain ⟨bo', oo', sb, so, sc, hbo, e3, e4, e5, e6, e7⟩ := rv_sigs HSL.out hx
              injection hbo with hbo
              injection hbo with hbo hoo _
              subst hbo hoo
              have HA1 := Lib.hid (show (L.take (j + 1)).map (fun v => (v.1, stS e v.2.1)) = (L.take j).map (fun v => (v.1, stS e v.2.1)) ++ [(x, stS e v2)] by rw [List.take_add_one, hx]; simp)
              have HC1 := Lib.hid (show (L.take (j + 1)).map (fun v => (v.1, textS (e + 1) v.2.2)) = (L.take j).map (fun v => (v.1, textS (e + 1) v.2.2)) ++ [(x, textS (e + 1) v3)] by rw [List.take_add_one, hx]; simp)
              have hAl : ((L.take j).map (fun v => (v.1, stS e v.2.1))).length ≤ 10 := by rw [List.length_map, List.length_take]; omega
              have hCl : ((L.take j).map (fun v => (v.1, textS (e + 1) v.2.2))).length ≤ 10 := by rw [List.length_map, List.length_take]; omega
              have M3 := Lib.hid e3; have M4 := Lib.hid e4; have M5 := Lib.hid e5; have M6 := Lib.hid e6; have M7 := Lib.hid e7
              generalize (L.take j).map (fun v => (v.1, stS e v.2.1)) = A at *
              generalize (L.take j).map (fun v => (v.1, textS (e + 1) v.2.2)) = C at *
              generalize stS e v2 = S at *
              generalize textS (e + 1) v3 = T at *
              obtain ⟨a1, c1, a2, c2, a3, c3, hg, r1, r2, r3, hdis⟩ := HR.out.ex
              have HG := Lib.hid hg; have R1 := Lib.hid r1; have R2 := Lib.hid r2; have R3 := Lib.hid r3; have HDIS := Lib.hid hdis
              have HGE := Lib.hid HR.out.ge
              have HW6 := Lib.hid Hb.out.size
              have HOL := Lib.hid (show ∀ k, wr.heap.size ≤ k → ¬ ((Value.slice a1 A.length c1).ownBlock = some k) from fun k hk hc => by have := (R1.out.lt k hc).2; omega)
              have HYW := Lib.hid (show ∀ k, (Value.slice a1 A.length c1).ownBlock = some k → w6.heap.size ≤ k from fun k hc => (R1.out.lt k hc).1)
              have HNG := Lib.hid (show ¬ ((Value.slice a1 A.length c1).ownBlock = some g) from own_ne r1 hg (by decide))
              have hj0 : (0 : Int) ≤ (j : Int) := by omega
              have hj1 : (j : Int) < (L.length : Int) := by omega
              have k5 : A.length + 1 ≤ maxLen := by unfold maxLen; omega
              have k6 : (A.length + 1) * 24 ≤ 140737488355328 := by omega
              clear e3 e4 e5 e6 e7 hx hg r1 r2 r3 hdis HR
              go_upto_region 10 with (fail)
              refine wp_region_kept 12 (fun k => (Value.slice a1 A.length c1).ownBlock = some k) 10 (roneR w6.heap.size wr.heap.size g (Value.slice a1 A.length c1).ownBlock a1 A.length c1 bo oo L.length co j sb so sc x S A) (fun _ _ => none) rfl (by kernel_rfl) (by kernel_rfl) (roneR_stab HOL.out) (fun _ _ _ _ _ h => by cases h) (fun i oo hi ho => ?_) (fun vs w7 hb7' hs hne => ?_)
              · intro ac wa hba hbs hE hF K hK
                have b7 := keep_undrew hba
                have hno : ∀ k, (none : Option Nat) = some k → wa.heap.size ≤ k := fun _ h => by cases h
                have hW := b7.size
                have b8 : Below w6.heap.size w6 wa := b7.below Hb.out HYW.out
                have z1 : wa.cell? ⟨g, 1, none⟩ = some (.slice a1 A.length c1) := by rw [blk_cell (show wa.heap[g]? = _ from (b7.block g (blk_lt HG.out) HNG.out).trans HG.out)]; rfl
                have z3 := below_cell b8 M3.out
                have z4 := below_cell b8 M4.out
                have z5 := below_cell b8 M5.out
                have hi' : i = 0 ∨ i = 1 ∨ i = 2 ∨ i = 3 ∨ i = 4 ∨ i = 5 ∨ i = 6 ∨ i = 7 ∨ i = 8 ∨ i = 9 ∨ i = 10 ∨ i = 11 := by omega
                rcases hi' with rfl | rfl | rfl | rfl | rfl | rfl | rfl | rfl | rfl | rfl | rfl | rfl
                · obtain rfl := Option.some.inj ho
                  have h1 : ac.eval (.tmp 6) = .pointer (some ⟨g, 0, none⟩) := hE 6 (by decide)
                  exact news_val rfl rfl (by generalize ac.eval = ρ at h1; simp only [execOp]; go_simp) (hK _ _ (fun _ => Below.refl _ _) (Keep.refl _ _) rfl hno)
                · obtain rfl := Option.some.inj ho
                  have h1 : ac.eval (.tmp 60) = .pointer (some ⟨g, 1, none⟩) := hF ⟨0, .data⟩ (by simp) rfl 60 rfl
                  exact news_val rfl rfl (by generalize ac.eval = ρ at h1; simp only [execOp]; go_simp) (hK _ _ (fun _ => Below.refl _ _) (Keep.refl _ _) rfl hno)
                · obtain rfl := Option.some.inj ho
                  have h1 : ac.eval (.tmp 5) = .slice (some ⟨bo, oo, none⟩) L.length co := hE 5 (by decide)
                  exact news_val rfl rfl (by generalize ac.eval = ρ at h1; simp only [execOp]; go_simp) (hK _ _ (fun _ => Below.refl _ _) (Keep.refl _ _) rfl hno)
                · obtain rfl := Option.some.inj ho
                  have h1 : ac.eval (.tmp 7) = .int .i64 (j : Int) := hE 7 (by decide)
                  exact news_val rfl rfl (by generalize ac.eval = ρ at h1; simp only [execOp]; go_simp) (hK _ _ (fun _ => Below.refl _ _) (Keep.refl _ _) rfl hno)
                · obtain rfl := Option.some.inj ho
                  have h1 : ac.eval (.tmp 62) = .slice (some ⟨bo, oo, none⟩) L.length co := hF ⟨2, .data⟩ (by simp) rfl 62 rfl
                  have h2 : ac.eval (.tmp 63) = .int .i64 (j : Int) := hF ⟨3, .data⟩ (by simp) rfl 63 rfl
                  exact news_val rfl rfl (by generalize ac.eval = ρ at h1 h2; simp only [execOp]; go_simp) (hK _ _ (fun _ => Below.refl _ _) (Keep.refl _ _) rfl hno)
                · obtain rfl := Option.some.inj ho
                  have h1 : ac.eval (.tmp 64) = .pointer (some ⟨bo, oo + j * 4, none⟩) := hF ⟨4, .data⟩ (by simp) rfl 64 rfl
                  exact news_val rfl rfl (by generalize ac.eval = ρ at h1; simp only [execOp]; go_simp) (hK _ _ (fun _ => Below.refl _ _) (Keep.refl _ _) rfl hno)
                · obtain rfl := Option.some.inj ho
                  have h1 : ac.eval (.tmp 65) = .pointer (some ⟨bo, oo + j * 4 + 3, none⟩) := hF ⟨5, .data⟩ (by simp) rfl 65 rfl
                  exact news_val rfl rfl (by generalize ac.eval = ρ at h1; simp only [execOp]; go_simp) (hK _ _ (fun _ => Below.refl _ _) (Keep.refl _ _) rfl hno)
                · obtain rfl := Option.some.inj ho
                  have h1 : ac.eval (.tmp 66) = .slice (some ⟨sb, so, none⟩) 2 sc := hF ⟨6, .data⟩ (by simp) rfl 66 rfl
                  have h2 : ac.eval (.const (.int .i64 0)) = .int .i64 0 := rfl
                  exact news_val rfl rfl (by generalize ac.eval = ρ at h1 h2; simp only [execOp]; go_simp) (hK _ _ (fun _ => Below.refl _ _) (Keep.refl _ _) rfl hno)
                · obtain rfl := Option.some.inj ho
                  have h1 : ac.eval (.tmp 67) = .pointer (some ⟨sb, so, none⟩) := hF ⟨7, .data⟩ (by simp) rfl 67 rfl
                  exact news_val rfl rfl (by generalize ac.eval = ρ at h1; simp only [execOp]; go_simp) (hK _ _ (fun _ => Below.refl _ _) (Keep.refl _ _) rfl hno)
                · obtain rfl := Option.some.inj ho
                  have h1 : ac.eval (.tmp 68) = .agg #[.int .i64 x, .string S] := hF ⟨8, .data⟩ (by simp) rfl 68 rfl
                  exact news_val rfl rfl (by generalize ac.eval = ρ at h1; simp only [execOp]; go_simp) (hK _ _ (fun _ => below_alloc _ _) (Keep.of_below (below_alloc _ _)) ⟨wa.heap.size, rfl, hW, blk_alloc _ _⟩ hno)
                · obtain rfl := Option.some.inj ho
                  have h1 : ac.eval (.tmp 61) = .slice a1 A.length c1 := hF ⟨1, .data⟩ (by simp) rfl 61 rfl
                  obtain ⟨gb, h2, hgb, hbb⟩ : ∃ h, (ac.eval (.tmp 69)) = .slice (some ⟨h, 0, none⟩) 1 1 ∧ wr.heap.size ≤ h ∧ wa.heap[h]? = some (.cells #[.int .i64 x, .string S] 47 (0, 0)) := hF ⟨9, .data⟩ (by simp) rfl 69 rfl
                  refine wpOp_step rfl fun K' hK' => ?_
                  refine step_append_lies _ rfl (.tmp 61) (.tmp 69) 39 rfl w6.heap.size 47 i2 (.agg #[.int .i64 0, .string ⟨#[]⟩]) 2 24 Try.underlying39 hi2 hs0 hs1 hs2 rfl (by decide) (.slice a1 A.length c1) A.length (sigV A) h1 (owns_old R1.out (below_undrew (hbs rfl))) ⟨gb, 0, none⟩ 1 1 [.int .i64 x, .string S] h2 rfl (World.news_of_block hbb) (by simp [Value.oneCell']) (by decide) k5 k6 (Nat.le_trans HW6.out hW) _ rfl ?_
                  intro g8 cap8 w8 hown8 hg8 hor8 hlt8
                  exact hK' _ _ (hK _ _ (fun h => (h rfl).elim) ((Keep.refl _ wa).grown hg8 (fun k hk => .inr hk)) ⟨_, _, rfl, hown8, hor8.elim .inl (fun h => .inr (by omega))⟩ hno)
                · obtain rfl := Option.some.inj ho
                  have h1 : ac.eval (.tmp 6) = .pointer (some ⟨g, 0, none⟩) := hE 6 (by decide)
                  exact news_val rfl rfl (by generalize ac.eval = ρ at h1; simp only [execOp]; go_simp) (hK _ _ (fun _ => Below.refl _ _) (Keep.refl _ _) rfl hno)
              · have e0 : vs 0 = _ := hs 0 (by omega)
                have e1 : vs 1 = _ := hs 1 (by omega)
                have e2 : vs 2 = _ := hs 2 (by omega)
                have e3 : vs 3 = _ := hs 3 (by omega)
                have e4 : vs 4 = _ := hs 4 (by omega)
                have e5 : vs 5 = _ := hs 5 (by omega)
                have e6 : vs 6 = _ := hs 6 (by omega)
                have e7 : vs 7 = _ := hs 7 (by omega)
                have e8 : vs 8 = _ := hs 8 (by omega)
                obtain ⟨gb, e9, hgb, hbb⟩ : ∃ h, (vs 9) = .slice (some ⟨h, 0, none⟩) 1 1 ∧ wr.heap.size ≤ h ∧ w7.heap[h]? = some (.cells #[.int .i64 x, .string S] 47 (0, 0)) := hs 9 (by omega)
                obtain ⟨g8, c8, e10, ho8, hor8⟩ : ∃ h d, (vs 10) = .slice (some ⟨h, 0, none⟩) (A.length + 1) d ∧ w7.ownsRow w6.heap.size 47 2 (.slice (some ⟨h, 0, none⟩) (A.length + 1) d) (A.length + 1) (sigV A ++ [Value.int .i64 x, Value.string S]) ∧ ((Value.slice a1 A.length c1).ownBlock = some h ∨ wr.heap.size ≤ h) := hs 10 (by omega)
                have e11 : vs 11 = _ := hs 11 (by omega)
                show wpList _ _ _ _ ((((((((((((Act.put _ (some 60) (vs 0)).put (some 61) (vs 1)).put (some 62) (vs 2)).put (some 63) (vs 3)).put (some 64) (vs 4)).put (some 65) (vs 5)).put (some 66) (vs 6)).put (some 67) (vs 7)).put (some 68) (vs 8)).put (some 69) (vs 9)).put (some 70) (vs 10)).put (some 71) (vs 11)) _
                rw [e0, e1, e2, e3, e4, e5, e6, e7, e8, e9, e10, e11]
                clear e0 e1 e2 e3 e4 e5 e6 e7 e8 e9 e10 e11 hs hne vs
                have hone := rst_one HGE.out HG.out R1.out R2.out R3.out HDIS.out hb7' (s := (x, S)) (by rw [show sigV (A ++ [(x, S)]) = sigV A ++ [.int .i64 x, .string S] by simp [sigV]]; exact ho8) hor8
                have hg7 : w7.heap[g]? = _ := (hb7'.block g (blk_lt HG.out) HNG.out).trans HG.out
                have B8 := Lib.hid (show Below w6.heap.size w6 (w7.setCell ⟨g, 1, none⟩ (.slice (some ⟨g8, 0, none⟩) (A.length + 1) c8)) from (hb7'.below Hb.out HYW.out).setCell HGE.out _)
                have m8 : w7.cell? ⟨g, 1, none⟩ = some (.slice a1 A.length c1) := by rw [blk_cell hg7]; rfl
                have m9 : w7.frozen? ⟨g, 1, none⟩ = false := blk_frozen hg7 1
                have HR1 := Lib.hid hone
                clear hg7 hb7' hone ho8 hor8 hbb hgb HG R1 R2 R3 HDIS HGE HW6 HOL HYW HNG k5 k6 Hb
                simp only [List.drop_succ_cons, List.drop_zero, Act.put, List.setIfInBounds_toArray, List.set_cons_succ, List.set_cons_zero]
                go_upto_region 11 with (fail)
                generalize w7.setCell ⟨g, 1, none⟩ (.slice (some ⟨g8, 0, none⟩) (A.length + 1) c8) = wr at *
                clear m8 m9
                have hAl1 : (A ++ [(x, S)]).length ≤ 11 := by rw [List.length_append]; simp; omega
                rw [← HA1.out] at HR1 hAl1
                generalize hA1e : (L.take (j + 1)).map (fun v => (v.1, stS e v.2.1)) = A1 at *
                have HA1e := Lib.hid hA1e
                obtain ⟨a1, c1, a2, c2, a3, c3, hg, r1, r2, r3, hdis⟩ := HR1.out.ex
                have HG := Lib.hid hg; have R1 := Lib.hid r1; have R2 := Lib.hid r2; have R3 := Lib.hid r3; have HDIS := Lib.hid hdis
                have HGE := Lib.hid HR1.out.ge
                have HW6 := Lib.hid B8.out.size
                have HOL := Lib.hid (show ∀ k, wr.heap.size ≤ k → ¬ ((Value.slice a3 C.length c3).ownBlock = some k) from fun k hk hc => by have := (R3.out.lt k hc).2; omega)
                have HYW := Lib.hid (show ∀ k, (Value.slice a3 C.length c3).ownBlock = some k → w6.heap.size ≤ k from fun k hc => (R3.out.lt k hc).1)
                have HNG := Lib.hid (show ¬ ((Value.slice a3 C.length c3).ownBlock = some g) from own_ne r3 hg (by decide))
                have Hb := B8
                have k5 : C.length + 1 ≤ maxLen := by unfold maxLen; omega
                have k6 : (C.length + 1) * 24 ≤ 140737488355328 := by omega
                clear hg r1 r2 r3 hdis HR1 B8 HA1 hA1e
                refine wp_region_kept 14 (fun k => (Value.slice a3 C.length c3).ownBlock = some k) 11 (rtwoR w6.heap.size wr.heap.size g (Value.slice a3 C.length c3).ownBlock a3 C.length c3 bo oo L.length co j sb so sc x T C) (fun _ _ => none) rfl (by kernel_rfl) (by kernel_rfl) (rtwoR_stab HOL.out) (fun _ _ _ _ _ h => by cases h) (fun i oo hi ho => ?_) (fun vs w7 hb7' hs hne => ?_)
                · intro ac wa hba hbs hE hF K hK
                  have b7 := keep_undrew hba
                  have hno : ∀ k, (none : Option Nat) = some k → wa.heap.size ≤ k := fun _ h => by cases h
                  have hW := b7.size
                  have b8 : Below w6.heap.size w6 wa := b7.below Hb.out HYW.out
                  have z1 : wa.cell? ⟨g, 4, none⟩ = some (.slice a3 C.length c3) := by rw [blk_cell (show wa.heap[g]? = _ from (b7.block g (blk_lt HG.out) HNG.out).trans HG.out)]; rfl
                  have z3 := below_cell b8 M3.out
                  have z4 := below_cell b8 M6.out
                  have z5 := below_cell b8 M7.out
                  have hi' : i = 0 ∨ i = 1 ∨ i = 2 ∨ i = 3 ∨ i = 4 ∨ i = 5 ∨ i = 6 ∨ i = 7 ∨ i = 8 ∨ i = 9 ∨ i = 10 ∨ i = 11 ∨ i = 12 ∨ i = 13 := by omega
                  rcases hi' with rfl | rfl | rfl | rfl | rfl | rfl | rfl | rfl | rfl | rfl | rfl | rfl | rfl | rfl
                  · obtain rfl := Option.some.inj ho
                    have h1 : ac.eval (.tmp 6) = .pointer (some ⟨g, 0, none⟩) := hE 6 (by decide)
                    exact news_val rfl rfl (by generalize ac.eval = ρ at h1; simp only [execOp]; go_simp) (hK _ _ (fun _ => Below.refl _ _) (Keep.refl _ _) rfl hno)
                  · obtain rfl := Option.some.inj ho
                    have h1 : ac.eval (.tmp 72) = .pointer (some ⟨g, 2, none⟩) := hF ⟨0, .data⟩ (by simp) rfl 72 rfl
                    exact news_val rfl rfl (by generalize ac.eval = ρ at h1; simp only [execOp]; go_simp) (hK _ _ (fun _ => Below.refl _ _) (Keep.refl _ _) rfl hno)
                  · obtain rfl := Option.some.inj ho
                    have h1 : ac.eval (.tmp 73) = .pointer (some ⟨g, 4, none⟩) := hF ⟨1, .data⟩ (by simp) rfl 73 rfl
                    exact news_val rfl rfl (by generalize ac.eval = ρ at h1; simp only [execOp]; go_simp) (hK _ _ (fun _ => Below.refl _ _) (Keep.refl _ _) rfl hno)
                  · obtain rfl := Option.some.inj ho
                    have h1 : ac.eval (.tmp 5) = .slice (some ⟨bo, oo, none⟩) L.length co := hE 5 (by decide)
                    exact news_val rfl rfl (by generalize ac.eval = ρ at h1; simp only [execOp]; go_simp) (hK _ _ (fun _ => Below.refl _ _) (Keep.refl _ _) rfl hno)
                  · obtain rfl := Option.some.inj ho
                    have h1 : ac.eval (.tmp 7) = .int .i64 (j : Int) := hE 7 (by decide)
                    exact news_val rfl rfl (by generalize ac.eval = ρ at h1; simp only [execOp]; go_simp) (hK _ _ (fun _ => Below.refl _ _) (Keep.refl _ _) rfl hno)
                  · obtain rfl := Option.some.inj ho
                    have h1 : ac.eval (.tmp 75) = .slice (some ⟨bo, oo, none⟩) L.length co := hF ⟨3, .data⟩ (by simp) rfl 75 rfl
                    have h2 : ac.eval (.tmp 76) = .int .i64 (j : Int) := hF ⟨4, .data⟩ (by simp) rfl 76 rfl
                    exact news_val rfl rfl (by generalize ac.eval = ρ at h1 h2; simp only [execOp]; go_simp) (hK _ _ (fun _ => Below.refl _ _) (Keep.refl _ _) rfl hno)
                  · obtain rfl := Option.some.inj ho
                    have h1 : ac.eval (.tmp 77) = .pointer (some ⟨bo, oo + j * 4, none⟩) := hF ⟨5, .data⟩ (by simp) rfl 77 rfl
                    exact news_val rfl rfl (by generalize ac.eval = ρ at h1; simp only [execOp]; go_simp) (hK _ _ (fun _ => Below.refl _ _) (Keep.refl _ _) rfl hno)
                  · obtain rfl := Option.some.inj ho
                    have h1 : ac.eval (.tmp 78) = .pointer (some ⟨bo, oo + j * 4 + 3, none⟩) := hF ⟨6, .data⟩ (by simp) rfl 78 rfl
                    exact news_val rfl rfl (by generalize ac.eval = ρ at h1; simp only [execOp]; go_simp) (hK _ _ (fun _ => Below.refl _ _) (Keep.refl _ _) rfl hno)
                  · obtain rfl := Option.some.inj ho
                    have h1 : ac.eval (.tmp 79) = .slice (some ⟨sb, so, none⟩) 2 sc := hF ⟨7, .data⟩ (by simp) rfl 79 rfl
                    have h2 : ac.eval (.const (.int .i64 1)) = .int .i64 1 := rfl
                    exact news_val rfl rfl (by generalize ac.eval = ρ at h1 h2; simp only [execOp]; go_simp) (hK _ _ (fun _ => Below.refl _ _) (Keep.refl _ _) rfl hno)
                  · obtain rfl := Option.some.inj ho
                    have h1 : ac.eval (.tmp 80) = .pointer (some ⟨sb, so + 2, none⟩) := hF ⟨8, .data⟩ (by simp) rfl 80 rfl
                    exact news_val rfl rfl (by generalize ac.eval = ρ at h1; simp only [execOp]; go_simp) (hK _ _ (fun _ => Below.refl _ _) (Keep.refl _ _) rfl hno)
                  · obtain rfl := Option.some.inj ho
                    have h1 : ac.eval (.tmp 81) = .agg #[.int .i64 x, .string T] := hF ⟨9, .data⟩ (by simp) rfl 81 rfl
                    exact news_val rfl rfl (by generalize ac.eval = ρ at h1; simp only [execOp]; go_simp) (hK _ _ (fun _ => below_alloc _ _) (Keep.of_below (below_alloc _ _)) ⟨wa.heap.size, rfl, hW, blk_alloc _ _⟩ hno)
                  · obtain rfl := Option.some.inj ho
                    have h1 : ac.eval (.tmp 74) = .slice a3 C.length c3 := hF ⟨2, .data⟩ (by simp) rfl 74 rfl
                    obtain ⟨gb, h2, hgb, hbb⟩ : ∃ h, (ac.eval (.tmp 82)) = .slice (some ⟨h, 0, none⟩) 1 1 ∧ wr.heap.size ≤ h ∧ wa.heap[h]? = some (.cells #[.int .i64 x, .string T] 47 (0, 0)) := hF ⟨10, .data⟩ (by simp) rfl 82 rfl
                    refine wpOp_step rfl fun K' hK' => ?_
                    refine step_append_lies _ rfl (.tmp 74) (.tmp 82) 39 rfl w6.heap.size 47 i2 (.agg #[.int .i64 0, .string ⟨#[]⟩]) 2 24 Try.underlying39 hi2 hs0 hs1 hs2 rfl (by decide) (.slice a3 C.length c3) C.length (sigV C) h1 (owns_old R3.out (below_undrew (hbs rfl))) ⟨gb, 0, none⟩ 1 1 [.int .i64 x, .string T] h2 rfl (World.news_of_block hbb) (by simp [Value.oneCell']) (by decide) k5 k6 (Nat.le_trans HW6.out hW) _ rfl ?_
                    intro g8 cap8 w8 hown8 hg8 hor8 hlt8
                    exact hK' _ _ (hK _ _ (fun h => (h rfl).elim) ((Keep.refl _ wa).grown hg8 (fun k hk => .inr hk)) ⟨_, _, rfl, hown8, hor8.elim .inl (fun h => .inr (by omega))⟩ hno)
                  · obtain rfl := Option.some.inj ho
                    have h1 : ac.eval (.tmp 6) = .pointer (some ⟨g, 0, none⟩) := hE 6 (by decide)
                    exact news_val rfl rfl (by generalize ac.eval = ρ at h1; simp only [execOp]; go_simp) (hK _ _ (fun _ => Below.refl _ _) (Keep.refl _ _) rfl hno)
                  · obtain rfl := Option.some.inj ho
                    have h1 : ac.eval (.tmp 84) = .pointer (some ⟨g, 2, none⟩) := hF ⟨12, .data⟩ (by simp) rfl 84 rfl
                    exact news_val rfl rfl (by generalize ac.eval = ρ at h1; simp only [execOp]; go_simp) (hK _ _ (fun _ => Below.refl _ _) (Keep.refl _ _) rfl hno)
                · have e0 : vs 0 = _ := hs 0 (by omega)
                  have e1 : vs 1 = _ := hs 1 (by omega)
                  have e2 : vs 2 = _ := hs 2 (by omega)
                  have e3 : vs 3 = _ := hs 3 (by omega)
                  have e4 : vs 4 = _ := hs 4 (by omega)
                  have e5 : vs 5 = _ := hs 5 (by omega)
                  have e6 : vs 6 = _ := hs 6 (by omega)
                  have e7 : vs 7 = _ := hs 7 (by omega)
                  have e8 : vs 8 = _ := hs 8 (by omega)
                  have e9 : vs 9 = _ := hs 9 (by omega)
                  obtain ⟨gb, e10, hgb, hbb⟩ : ∃ h, (vs 10) = .slice (some ⟨h, 0, none⟩) 1 1 ∧ wr.heap.size ≤ h ∧ w7.heap[h]? = some (.cells #[.int .i64 x, .string T] 47 (0, 0)) := hs 10 (by omega)
                  obtain ⟨g8, c8, e11, ho8, hor8⟩ : ∃ h d, (vs 11) = .slice (some ⟨h, 0, none⟩) (C.length + 1) d ∧ w7.ownsRow w6.heap.size 47 2 (.slice (some ⟨h, 0, none⟩) (C.length + 1) d) (C.length + 1) (sigV C ++ [Value.int .i64 x, Value.string T]) ∧ ((Value.slice a3 C.length c3).ownBlock = some h ∨ wr.heap.size ≤ h) := hs 11 (by omega)
                  have e12 : vs 12 = _ := hs 12 (by omega)
                  have e13 : vs 13 = _ := hs 13 (by omega)
                  show wpList _ _ _ _ ((((((((((((((Act.put _ (some 72) (vs 0)).put (some 73) (vs 1)).put (some 74) (vs 2)).put (some 75) (vs 3)).put (some 76) (vs 4)).put (some 77) (vs 5)).put (some 78) (vs 6)).put (some 79) (vs 7)).put (some 80) (vs 8)).put (some 81) (vs 9)).put (some 82) (vs 10)).put (some 83) (vs 11)).put (some 84) (vs 12)).put (some 85) (vs 13)) _
                  rw [e0, e1, e2, e3, e4, e5, e6, e7, e8, e9, e10, e11, e12, e13]
                  clear e0 e1 e2 e3 e4 e5 e6 e7 e8 e9 e10 e11 e12 e13 hs hne vs
                  have htwo := rst_two HGE.out HG.out R1.out R2.out R3.out HDIS.out hb7' (s := (x, T)) (by rw [show sigV (C ++ [(x, T)]) = sigV C ++ [.int .i64 x, .string T] by simp [sigV]]; exact ho8) hor8
                  have hg7 : w7.heap[g]? = _ := (hb7'.block g (blk_lt HG.out) HNG.out).trans HG.out
                  have B8 := Lib.hid (show Below w6.heap.size w6 (w7.setCell ⟨g, 4, none⟩ (.slice (some ⟨g8, 0, none⟩) (C.length + 1) c8)) from (hb7'.below Hb.out HYW.out).setCell HGE.out _)
                  have m8 : w7.cell? ⟨g, 4, none⟩ = some (.slice a3 C.length c3) := by rw [blk_cell hg7]; rfl
                  have m9 : w7.frozen? ⟨g, 4, none⟩ = false := blk_frozen hg7 4
                  rw [← HC1.out] at htwo
                  have HR2 := Lib.hid htwo
                  clear hg7 hb7' htwo ho8 hor8 hbb hgb HG R1 R2 R3 HDIS HGE HW6 HOL HYW HNG k5 k6 Hb
                  simp only [List.drop_succ_cons, List.drop_zero, Act.put, List.setIfInBounds_toArray, List.set_cons_succ, List.set_cons_zero]
                  go_wp2_with fail
                  go_roundw
                  case rel => exact ⟨j + 1, by omega, by go_num, by rw [HA1e.out]; exact HR2, B8⟩
                  case measure => simp [intOf]; omega
            · obtain rfl : j = L.length := by omega
              subst hmm
              have hT : L.take L.length = L := List.take_length
              have m1 : L.map (fun v => (v.1, stS e v.2.1)) = (who l V (v2, v3)).map (fun x => (x, stS e v2)) := by rw [HLe.out, List.map_map]; rfl
              have m3 : L.map (fun v => (v.1, textS (e + 1) v.2.2)) = (who l V (v2, v3)).map (fun x => (x, textS (e + 1) v3)) := by rw [HLe.out, List.map_map]; rfl
              have hwl : (who l V (v2, v3)).length ≤ 10 := by rw [HLe.out, List.length_map] at hLl; exact hLl
              rw [hT, m1, m3] at HR
              obtain ⟨a1, c1, a2, c2, a3, c3, hg, r1, r2, r3, hdis⟩ := HR.out.ex
              simp only [List.length_map] at hg r1 r3 hdis
              have hzz := HR.out.ge
              have B9 := bthen B3.out Hb.out
              have hz3 := B3.out.size
              have HSP := Lib.hid (show ∀ w', Keep (fun j => j = w.heap.size) wr w' → SetPost e l V w (.returned (.tuple #[.agg #[.string v2, .slice a1 (who l V (v2, v3)).length c1, .int .i64 (e + 1), .slice a2 v3.length c2, .slice a3 (who l V (v2, v3)).length c3], .bool true])) w' from fun w' hk => by
                refine ⟨hk.below B9 (fun j hj => by omega), ?_⟩
                rw [HW.out]
                refine ⟨a1, c1, a2, v3.length, c2, a3, c3, rfl, fun w'' hk2 => ?_⟩
                have hHV := HV.out
                obtain ⟨xv, hxv⟩ := (winner_some HW.out).2
                obtain ⟨hgv, hmv, hsv⟩ := hHV.good _ hxv
                have hsv : v2.size ≤ 140737488355328 := hsv
                have hrn := rightB_rising (vGood_parts hgv).2.2
                have hlt : w.heap.size < w6.heap.size := blk_lt KZ3.out
                have hk3' : Keep (fun j => j ≤ w.heap.size) wr w'' := ((Keep.refl (fun j => j ≤ w.heap.size) wr).trans hk (fun j _ hj => by omega)).trans hk2 (fun j _ hj => by omega)
                have q1 := owns_keep r1 hk3' (fun j hj => by have := (r1.lt j hj).1; omega)
                have q3 := owns_keep r3 hk3' (fun j hj => by have := (r3.lt j hj).1; omega)
                have q2 := owns_keep r2 hk3' (fun j hj => by have := (r2.lt j hj).1; omega)
                have hmem : ∀ j ∈ who l V (v2, v3), i64 j := fun j hj => by
                  have := risingB_range hre.2.2 j (List.mem_filter.1 hj).1
                  unfold i64; omega
                refine ⟨sigs_row q1 (by simp) (fun s hs => ?_) (by omega), ints_row q2 rfl (fun j hj => by have := risingB_range hrn.2.2 j hj; unfold i64; omega) (by have h4 : 4 ≤ v3.length ∧ v3.length ≤ 10 := risingB_len hrn.2.2; omega), sigs_row q3 (by simp) (fun s hs => ?_) (by omega)⟩
                · obtain ⟨j, hj, rfl⟩ := List.mem_map.1 hs
                  exact ⟨hmem j hj, by have := hdText_size 83 (4 * (e + 1)) v2; show (stS e v2).size ≤ _; unfold stS; omega⟩
                · obtain ⟨j, hj, rfl⟩ := List.mem_map.1 hs
                  exact ⟨hmem j hj, by have := textS_size (e + 1) v3; show (textS (e + 1) v3).size ≤ _; omega⟩)
              have kz := blk_below KZ3.out Hb.out
              have lg := blk_lt hg
              have lz := blk_lt kz
              clear m1 m3 r1 r2 r3 hdis B9 HR hT hzz hz3
              generalize (who l V (v2, v3)).length = na at *
              have z0 : wr.cell? ⟨g, 0, none⟩ = some (.string v2) := by rw [blk_cell hg]; rfl
              have z1 : wr.cell? ⟨g, 1, none⟩ = some (.slice a1 na c1) := by rw [blk_cell hg]; rfl
              have z2 : wr.cell? ⟨g, 2, none⟩ = some (.int .i64 (e + 1)) := by rw [blk_cell hg]; rfl
              have z3 : wr.cell? ⟨g, 3, none⟩ = some (.slice a2 v3.length c2) := by rw [blk_cell hg]; rfl
              have z4 : wr.cell? ⟨g, 4, none⟩ = some (.slice a3 na c3) := by rw [blk_cell hg]; rfl
              have d0 : wr.cell? ⟨w.heap.size, 0, none⟩ = some (.string ⟨#[]⟩) := by rw [blk_cell kz]; rfl
              have d1 : wr.cell? ⟨w.heap.size, 1, none⟩ = some (.slice none 0 0) := by rw [blk_cell kz]; rfl
              have d2 : wr.cell? ⟨w.heap.size, 2, none⟩ = some (.int .i64 0) := by rw [blk_cell kz]; rfl
              have d3 : wr.cell? ⟨w.heap.size, 3, none⟩ = some (.slice none 0 0) := by rw [blk_cell kz]; rfl
              have d4 : wr.cell? ⟨w.heap.size, 4, none⟩ = some (.slice none 0 0) := by rw [blk_cell kz]; rfl
              have f0 := blk_frozen kz 0; have f1 := blk_frozen kz 1; have f2 := blk_frozen kz 2; have f3 := blk_frozen kz 3; have f4 := blk_frozen kz 4
              have KW := (((((Keep.refl (fun j => j = w.heap.size) wr).set (p := w.heap.size) (.inr rfl) 0 (.string v2)).set (p := w.heap.size) (.inr rfl) 1 (.slice a1 na c1)).set (p := w.heap.size) (.inr rfl) 2 (.int .i64 (e + 1))).set (p := w.heap.size) (.inr rfl) 3 (.slice a2 v3.length c2)).set (p := w.heap.size) (.inr rfl) 4 (.slice a3 na c3)
              have k5 := blk_set (blk_set (blk_set (blk_set (blk_set kz 0 (.string v2)) 1 (.slice a1 na c1)) 2 (.int .i64 (e + 1))) 3 (.slice a2 v3.length c2)) 4 (.slice a3 na c3)
              simp only [List.setIfInBounds_toArray, List.set_cons_zero, List.set_cons_succ] at k5
              have K5 := Lib.hid k5
              have HF := Lib.hid (HSP.out _ KW)
              clear KW kz k5 HSP hg
              go_wp2_with fail
              generalize ((((wr.setCell ⟨w.heap.size, 0, none⟩ (.string v2)).setCell ⟨w.heap.size, 1, none⟩ (.slice a1 na c1)).setCell ⟨w.heap.size, 2, none⟩ (.int .i64 (e + 1))).setCell ⟨w.heap.size, 3, none⟩ (.slice a2 v3.length c2)).setCell ⟨w.heap.size, 4, none⟩ (.slice a3 na c3) = w9 at *
              have e0 : w9.cell? ⟨w.heap.size, 0, none⟩ = some (.string v2) := by rw [blk_cell K5.out]; rfl
              have e1 : w9.cell? ⟨w.heap.size, 1, none⟩ = some (.slice a1 na c1) := by rw [blk_cell K5.out]; rfl
              have e2 : w9.cell? ⟨w.heap.size, 2, none⟩ = some (.int .i64 (e + 1)) := by rw [blk_cell K5.out]; rfl
              have e3 : w9.cell? ⟨w.heap.size, 3, none⟩ = some (.slice a2 v3.length c2) := by rw [blk_cell K5.out]; rfl
              have e4 : w9.cell? ⟨w.heap.size, 4, none⟩ = some (.slice a3 na c3) := by rw [blk_cell K5.out]; rfl
              exact bodyPost_ret (v := .tuple #[.agg #[.string v2, .slice a1 na c1, .int .i64 (e + 1), .slice a2 v3.length c2, .slice a3 na c3], .bool true]) (by simp [results, Try.results19, go_sem, e0, e1, e2, e3, e4]) rfl HF.out
    · obtain rfl : k = V.length := by omega
      have hwn : winner l V = none := winner_no (fun v hv => by
        obtain ⟨j, hj, hjv⟩ := List.getElem_of_mem hv
        have := HD.out j v hj (by rw [List.getElem?_eq_getElem hj, hjv])
        omega)
      have HWN := Lib.hid hwn
      have kz := KZ.out
      have lz := blk_lt kz
      have d0 : wr.cell? ⟨w.heap.size, 0, none⟩ = some (.string ⟨#[]⟩) := by rw [blk_cell kz]; rfl
      have d1 : wr.cell? ⟨w.heap.size, 1, none⟩ = some (.slice none 0 0) := by rw [blk_cell kz]; rfl
      have d2 : wr.cell? ⟨w.heap.size, 2, none⟩ = some (.int .i64 0) := by rw [blk_cell kz]; rfl
      have d3 : wr.cell? ⟨w.heap.size, 3, none⟩ = some (.slice none 0 0) := by rw [blk_cell kz]; rfl
      have d4 : wr.cell? ⟨w.heap.size, 4, none⟩ = some (.slice none 0 0) := by rw [blk_cell kz]; rfl
      have f0 := blk_frozen kz 0; have f1 := blk_frozen kz 1; have f2 := blk_frozen kz 2; have f3 := blk_frozen kz 3; have f4 := blk_frozen kz 4
      have k5 := blk_set (blk_set (blk_set (blk_set (blk_set kz 0 (.string ⟨#[]⟩)) 1 (.slice none 0 0)) 2 (.int .i64 0)) 3 (.slice none 0 0)) 4 (.slice none 0 0)
      simp only [List.setIfInBounds_toArray, List.set_cons_zero, List.set_cons_succ] at k5
      have B9 : Below w.heap.size w (((((wr.setCell ⟨w.heap.size, 0, none⟩ (.string ⟨#[]⟩)).setCell ⟨w.heap.size, 1, none⟩ (.slice none 0 0)).setCell ⟨w.heap.size, 2, none⟩ (.int .i64 0)).setCell ⟨w.heap.size, 3, none⟩ (.slice none 0 0)).setCell ⟨w.heap.size, 4, none⟩ (.slice none 0 0)) := ((((Hb.out.setCell (Nat.le_refl _) _).setCell (Nat.le_refl _) _).setCell (Nat.le_refl _) _).setCell (Nat.le_refl _) _).setCell (Nat.le_refl _) _
      have K5 := Lib.hid k5
      have HF := Lib.hid (show SetPost e l V w (.returned (.tuple #[.agg #[.string ⟨#[]⟩, .slice none 0 0, .int .i64 0, .slice none 0 0, .slice none 0 0], .bool false])) _ from ⟨B9, by rw [HWN.out]⟩)
      clear kz k5 B9 hwn
      go_wp2_with fail
      generalize ((((wr.setCell ⟨w.heap.size, 0, none⟩ (.string ⟨#[]⟩)).setCell ⟨w.heap.size, 1, none⟩ (.slice none 0 0)).setCell ⟨w.heap.size, 2, none⟩ (.int .i64 0)).setCell ⟨w.heap.size, 3, none⟩ (.slice none 0 0)).setCell ⟨w.heap.size, 4, none⟩ (.slice none 0 0) = w9 at *
      have e0 : w9.cell? ⟨w.heap.size, 0, none⟩ = some (.string ⟨#[]⟩) := by rw [blk_cell K5.out]; rfl
      have e1 : w9.cell? ⟨w.heap.size, 1, none⟩ = some (.slice none 0 0) := by rw [blk_cell K5.out]; rfl
      have e2 : w9.cell? ⟨w.heap.size, 2, none⟩ = some (.int .i64 0) := by rw [blk_cell K5.out]; rfl
      have e3 : w9.cell? ⟨w.heap.size, 3, none⟩ = some (.slice none 0 0) := by rw [blk_cell K5.out]; rfl
      have e4 : w9.cell? ⟨w.heap.size, 4, none⟩ = some (.slice none 0 0) := by rw [blk_cell K5.out]; rfl
      exact bodyPost_ret (v := .tuple #[.agg #[.string ⟨#[]⟩, .slice none 0 0, .int .i64 0, .slice none 0 0, .slice none 0 0], .bool false]) (by simp [results, Try.results19, go_sem, e0, e1, e2, e3, e4]) rfl HF.out
end Go.Proofs.Ytfhbjajhmegdmaa
