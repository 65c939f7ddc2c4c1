
/- Wire: walks of the program's tests: linked, spotted, turned. -/
import Derived.Test.YtijeieamodjgbaaWb
namespace Go.Proofs.Ytijeieamodjgbaa
set_option maxRecDepth 100000
open Go.RowKit Go.Deep
set_option linter.unusedVariables false
set_option linter.unusedSimpArgs false
attribute [local go_sem] run_store_float

theorem beqZ (a b : Int) : (a == b) = decide (a = b) := rfl
/-- A message's cells from offset o of block p on. -/
def MgAt (w : World) (p o : Nat) (m : Mg) (a1 : Option Addr) (n1 c1 : Nat) (a2 : Option Addr) (n2 c2 : Nat) (a3 : Option Addr) (n3 c3 : Nat) (a4 : Option Addr) (n4 c4 : Nat) : Prop :=
  ∀ j v, (mgCs m a1 n1 c1 a2 n2 c2 a3 n3 c3 a4 n4 c4)[j]? = some v → w.cell? ⟨p, o + j, none⟩ = some v
theorem mgAt_blk {w : World} {p : Nat} {m : Mg} {a1 : Option Addr} {n1 c1 : Nat} {a2 : Option Addr} {n2 c2 : Nat} {a3 : Option Addr} {n3 c3 : Nat} {a4 : Option Addr} {n4 c4 : Nat} {t : TypeId} {fr : Nat × Nat}
    (h : w.heap[p]? = some (.cells (mgCs m a1 n1 c1 a2 n2 c2 a3 n3 c3 a4 n4 c4).toArray t fr)) : MgAt w p 0 m a1 n1 c1 a2 n2 c2 a3 n3 c3 a4 n4 c4 := fun j v hj => by
  rw [blk_cell h]
  simpa using hj
theorem spot_no {m : Mg} {z : Nat} (h : ¬ (0 ≤ m.v ∧ m.v ≤ 15 ∧ ofB m.e m.s = true ∧ askB m.q = true)) : (viewB m && ofB m.e m.s && askB m.q && decide (m.sg.length = z)) = false := by
  rw [Bool.eq_false_iff]
  intro hh
  simp only [viewB, Bool.and_eq_true, decide_eq_true_eq] at hh
  exact h ⟨hh.1.1.1.1, hh.1.1.1.2, hh.1.1.2, hh.1.2⟩
theorem spot_yes {m : Mg} {z : Nat} (h : 0 ≤ m.v ∧ m.v ≤ 15 ∧ ofB m.e m.s = true ∧ askB m.q = true) : (viewB m && ofB m.e m.s && askB m.q && decide (m.sg.length = z)) = decide (m.sg.length = z) := by
  simp [viewB, h.1, h.2.1, h.2.2.1, h.2.2.2]
def wantN (m : Mg) : Nat := if m.k = 3 ∨ (m.k = 2 ∧ m.q.nil = false) then 1 else 0
def spotB (m : Mg) : Bool := viewB m && ofB m.e m.s && askB m.q && decide (m.sg.length = wantN m)
set_option maxHeartbeats 4000000 in
theorem spotted_any (m : Mg) (a1 : Option Addr) (n1 c1 : Nat) (a2 : Option Addr) (n2 c2 : Nat) (a3 : Option Addr) (n3 c3 : Nat) (a4 : Option Addr) (n4 c4 : Nat) (w : World) (he : 0 ≤ m.e ∧ m.e ≤ 60) (hm : MsgIn w m a1 n1 c1 a2 n2 c2 a3 n3 c3 a4 n4 c4) :
    Calls Try.prog 102 #[.agg (mgCs m a1 n1 c1 a2 n2 c2 a3 n3 c3 a4 n4 c4).toArray] w fun r w' => r = .returned (.bool (spotB m)) ∧ Below w.heap.size w w' := by
  obtain ⟨w1, hw1⟩ : ∃ u, u = w.alloc (.cells (mgCs m a1 n1 c1 a2 n2 c2 a3 n3 c3 a4 n4 c4).toArray 34 (0, 0)) := ⟨_, rfl⟩
  have b1 : Below w.heap.size w w1 := by rw [hw1]; exact below_alloc _ _
  have k1 : w1.heap[w.heap.size]? = some (.cells (mgCs m a1 n1 c1 a2 n2 c2 a3 n3 c3 a4 n4 c4).toArray 34 (0, 0)) := by rw [hw1]; exact blk_alloc _ _
  have HA := Lib.hid (show ∀ w', Below w1.heap.size w1 w' → MgAt w' w.heap.size 0 m a1 n1 c1 a2 n2 c2 a3 n3 c3 a4 n4 c4 from fun w' hb => mgAt_blk (blk_below k1 hb))
  have B1 := Lib.hid b1
  have hv := hm.v; have hs := hm.s
  have HQ := Lib.hid hm.q
  have hlen := hm.sg.len
  have HN := Lib.hid (fun h => spot_no (m := m) (z := wantN m) h)
  have HY := Lib.hid (fun h => spot_yes (m := m) (z := wantN m) h)
  have HW := Lib.hid (show wantN m = if m.k = 3 ∨ (m.k = 2 ∧ m.q.nil = false) then 1 else 0 from rfl)
  change Calls _ _ _ _ fun r w' => r = .returned (.bool (viewB m && ofB m.e m.s && askB m.q && decide (m.sg.length = wantN m))) ∧ Below w.heap.size w w'
  generalize (viewB m && ofB m.e m.s && askB m.q && decide (m.sg.length = wantN m)) = R at HN HY ⊢
  generalize wantN m = Z at HN HY HW
  generalize hCS : (mgCs m a1 n1 c1 a2 n2 c2 a3 n3 c3 a4 n4 c4).toArray = CS at hw1 k1 ⊢
  clear hCS k1 b1 hm
  have x0 : w1.cell? ⟨w.heap.size, 0, none⟩ = some (.int .i64 m.k) := HA.out _ (Below.refl _ _) 0 _ rfl
  have x1 : w1.cell? ⟨w.heap.size, 1, none⟩ = some (.int .i64 m.e) := HA.out _ (Below.refl _ _) 1 _ rfl
  have x2 : w1.cell? ⟨w.heap.size, 2, none⟩ = some (.int .i64 m.v) := HA.out _ (Below.refl _ _) 2 _ rfl
  have x3 : w1.cell? ⟨w.heap.size, 3, none⟩ = some (.int .i64 m.s) := HA.out _ (Below.refl _ _) 3 _ rfl
  have x4 : w1.cell? ⟨w.heap.size, 4, none⟩ = some (.int .i64 m.q.c) := HA.out _ (Below.refl _ _) 4 _ rfl
  have x5 : w1.cell? ⟨w.heap.size, 5, none⟩ = some (.int .i64 m.q.s) := HA.out _ (Below.refl _ _) 5 _ rfl
  have x6 : w1.cell? ⟨w.heap.size, 6, none⟩ = some (.int .i64 m.q.kind) := HA.out _ (Below.refl _ _) 6 _ rfl
  have x7 : w1.cell? ⟨w.heap.size, 7, none⟩ = some (.string m.q.key) := HA.out _ (Below.refl _ _) 7 _ rfl
  have x8 : w1.cell? ⟨w.heap.size, 8, none⟩ = some (.float .f64 m.q.b) := HA.out _ (Below.refl _ _) 8 _ rfl
  have x9 : w1.cell? ⟨w.heap.size, 9, none⟩ = some (.int .i64 m.q.id) := HA.out _ (Below.refl _ _) 9 _ rfl
  have CA := Lib.hid (asked_any m.q HQ.out w1)
  have CO := Lib.hid (of_any m.e m.s w1 he hs)
  simp only [Rq.v] at CA
  go_enter Try.func102, Try.ntmps102
  go_upto_region 1 with (fail)
  rw [← hw1]
  clear hw1
  by_cases g1 : m.v < 0
  · have hr := HN.out (by omega)
    have d1 : decide (m.v < 0) = true := by simpa using g1
    clear g1
    go_wp2_with fail
    go_ret
    exact ⟨by first | rfl | (rw [hr]; rfl), B1.out⟩
  have d1 : decide (m.v < 0) = false := by simpa using g1
  by_cases g2 : 15 < m.v
  · have hr := HN.out (by omega)
    have d2 : decide (15 < m.v) = true := by simpa using g2
    clear g1 g2
    go_wp2_with fail
    go_ret
    exact ⟨by first | rfl | (rw [hr]; rfl), B1.out⟩
  have d2 : decide (15 < m.v) = false := by simpa using g2
  have HG := Lib.hid (show 0 ≤ m.v ∧ m.v ≤ 15 by omega)
  clear g1 g2
  go_wp2_with fail
  refine CO.out.mono ?_
  rintro r w2 ⟨rfl, rfl⟩
  cases hof : ofB m.e m.s
  · have hr := HN.out (by rw [hof]; simp)
    clear hof
    go_wp2_with fail
    go_ret
    exact ⟨by first | rfl | (rw [hr]; rfl), B1.out⟩
  go_wp2_with fail
  refine CA.out.mono ?_
  rintro r w2 ⟨rfl, b2⟩
  have B2 := Lib.hid (bthen B1.out b2)
  have y0 : w2.cell? ⟨w.heap.size, 0, none⟩ = some (.int .i64 m.k) := HA.out _ b2 0 _ rfl
  have y4 : w2.cell? ⟨w.heap.size, 4, none⟩ = some (.int .i64 m.q.c) := HA.out _ b2 4 _ rfl
  have y5 : w2.cell? ⟨w.heap.size, 5, none⟩ = some (.int .i64 m.q.s) := HA.out _ b2 5 _ rfl
  have y6 : w2.cell? ⟨w.heap.size, 6, none⟩ = some (.int .i64 m.q.kind) := HA.out _ b2 6 _ rfl
  have y7 : w2.cell? ⟨w.heap.size, 7, none⟩ = some (.string m.q.key) := HA.out _ b2 7 _ rfl
  have y8 : w2.cell? ⟨w.heap.size, 8, none⟩ = some (.float .f64 m.q.b) := HA.out _ b2 8 _ rfl
  have y9 : w2.cell? ⟨w.heap.size, 9, none⟩ = some (.int .i64 m.q.id) := HA.out _ b2 9 _ rfl
  have y14 : w2.cell? ⟨w.heap.size, 14, none⟩ = some (.slice a2 n2 c2) := HA.out _ b2 14 _ rfl
  have HB2 := Lib.hid (show ∀ w', Below w2.heap.size w2 w' → w'.cell? ⟨w.heap.size, 14, none⟩ = some (.slice a2 n2 c2) from fun w' hb => HA.out w' (bthen b2 hb) 14 _ rfl)
  have CN := Lib.hid (null_rq m.q HQ.out w2)
  clear b2 CA CO x0 x1 x2 x3 x4 x5 x6 x7 x8 x9 B1 HQ HA d1 d2
  simp only [Rq.v] at CN
  cases hak : askB m.q
  · have hr := HN.out (by rw [hak]; simp)
    clear hak hof
    go_wp2_with fail
    go_ret
    exact ⟨by first | rfl | (rw [hr]; rfl), B2.out⟩
  have hr := HY.out ⟨HG.out.1, HG.out.2, hof, hak⟩
  clear hof hak HN HY HG
  have HR := Lib.hid hr
  clear hr
  have hnl : m.q.nil = nullQ m.q.c m.q.s m.q.kind m.q.key m.q.b m.q.id := rfl
  rw [hnl] at HW
  clear hnl
  generalize nullQ m.q.c m.q.s m.q.kind m.q.key m.q.b m.q.id = NL at CN HW
  rw [hlen] at HR
  by_cases g3 : m.k = 3
  · have d3 : (m.k == 3) = true := by simpa using g3
    have hz : Z = 1 := by rw [HW.out, if_pos (.inl g3)]
    have HD := Lib.hid (show ((n2 : Int) == 1) = decide (n2 = 1) from by rw [beqZ]; exact decide_eq_decide.2 (by omega))
    clear g3
    go_wp2_with fail
    go_ret
    exact ⟨by rw [HR.out, hz, ← HD.out]; rfl, B2.out⟩
  have d3 : (m.k == 3) = false := by simpa using g3
  by_cases g4 : m.k = 2
  · have d4 : (m.k == 2) = true := by simpa using g4
    have HZ := Lib.hid (show Z = if NL = false then 1 else 0 by rw [HW.out]; simp [g3, g4])
    clear g3 g4
    go_wp2_with fail
    refine CN.out.mono ?_
    rintro r w3 ⟨rfl, b3⟩
    have B3 := Lib.hid (bthen B2.out b3)
    have z14 := HB2.out w3 b3
    clear b3 B2 y0 y4 y5 y6 y7 y8 y9 y14 CN HB2
    cases NL
    · have HD := Lib.hid (show ((n2 : Int) == 1) = decide (n2 = 1) from by rw [beqZ]; exact decide_eq_decide.2 (by omega))
      go_wp2_with fail
      go_ret
      exact ⟨by rw [HR.out, show Z = 1 by rw [HZ.out]; simp, ← HD.out]; rfl, B3.out⟩
    · have HD := Lib.hid (show ((n2 : Int) == 0) = decide (n2 = 0) from by rw [beqZ]; exact decide_eq_decide.2 (by omega))
      go_wp2_with fail
      go_ret
      exact ⟨by rw [HR.out, show Z = 0 by rw [HZ.out]; simp, ← HD.out]; rfl, B3.out⟩
  · have d4 : (m.k == 2) = false := by simpa using g4
    have hz : Z = 0 := by rw [HW.out, if_neg (by rintro (h | h); exact g3 h; exact g4 h.1)]
    have HD := Lib.hid (show ((n2 : Int) == 0) = decide (n2 = 0) from by rw [beqZ]; exact decide_eq_decide.2 (by omega))
    clear g3 g4
    go_wp2_with fail
    go_ret
    exact ⟨by rw [HR.out, hz, ← HD.out]; rfl, B2.out⟩

theorem links_step {l : List Lk} {k : Nat} {e : Int} {ms : List Int} {sg : List Sg} (hy : l[k]? = some ((e, ms), sg)) : linksB k (l.drop k) = (decide (e = (k : Int) + 1) && rightB e ms && sigsB sg && linksB (k + 1) (l.drop (k + 1))) := by
  rw [List.drop_eq_getElem_cons (List.getElem?_eq_some_iff.1 hy).1, (List.getElem?_eq_some_iff.1 hy).2]
  rfl
set_option maxHeartbeats 4000000 in
theorem linked_any (m : Mg) (a1 : Option Addr) (n1 c1 : Nat) (a2 : Option Addr) (n2 c2 : Nat) (a3 : Option Addr) (n3 c3 : Nat) (a4 : Option Addr) (n4 c4 : Nat) (w : World) (hm : MsgIn w m a1 n1 c1 a2 n2 c2 a3 n3 c3 a4 n4 c4) :
    Calls Try.prog 105 #[.agg (mgCs m a1 n1 c1 a2 n2 c2 a3 n3 c3 a4 n4 c4).toArray] w fun r w' => r = .returned (.bool (linksB 0 m.lk && decide ((m.lk.length : Int) = m.e))) ∧ Below w.heap.size w w' := by
  have hlen := hm.lk.len
  have hcap := hm.lk.cap
  have hmax := hm.lk.max
  obtain ⟨w1, hw1⟩ : ∃ u, u = w.alloc (.cells (mgCs m a1 n1 c1 a2 n2 c2 a3 n3 c3 a4 n4 c4).toArray 34 (0, 0)) := ⟨_, rfl⟩
  have b1 : Below w.heap.size w w1 := by rw [hw1]; exact below_alloc _ _
  have k1 : w1.heap[w.heap.size]? = some (.cells (mgCs m a1 n1 c1 a2 n2 c2 a3 n3 c3 a4 n4 c4).toArray 34 (0, 0)) := by rw [hw1]; exact blk_alloc _ _
  have HA := Lib.hid (show ∀ w', Below w1.heap.size w1 w' → MgAt w' w.heap.size 0 m a1 n1 c1 a2 n2 c2 a3 n3 c3 a4 n4 c4 from fun w' hb => mgAt_blk (blk_below k1 hb))
  have B1 := Lib.hid b1
  have HM := Lib.hid (hm.old b1)
  generalize hCS : (mgCs m a1 n1 c1 a2 n2 c2 a3 n3 c3 a4 n4 c4).toArray = CS at hw1 k1 ⊢
  clear hCS k1 b1 hm
  have x16 : w1.cell? ⟨w.heap.size, 16, none⟩ = some (.slice a4 n4 c4) := HA.out _ (Below.refl _ _) 16 _ rfl
  obtain ⟨R, hR⟩ : ∃ R, R = linksB 0 m.lk := ⟨_, rfl⟩
  rw [← hR]
  go_enter Try.func105, Try.ntmps105
  go_upto_region 1 with (fail)
  rw [← hw1]
  clear hw1
  go_wp2_with fail
  go_loopw [8] (fun i wr => ∃ k : Nat, k ≤ n4 ∧ i = .int .i64 k ∧ Hid (R = linksB k (m.lk.drop k)) ∧ Hid (Below w1.heap.size w1 wr)) (fun i _ => n4 - (intOf i).toNat)
  case atStart => exact ⟨0, by omega, rfl, Lib.hid (by rw [hR]; rfl), Lib.hid (Below.refl _ _)⟩
  case round =>
    obtain ⟨k, hk, rfl, HK, HW⟩ := hrel
    clear hR
    by_cases hlt : k < n4
    · have hd : decide ((k : Int) < (n4 : Int)) = true := by simp; omega
      obtain ⟨bb, o, e, ms, sg, ma, mn, mc, sa, sn, sc, rfl, hy, z0, z1, z2, hie, hms, hsg⟩ := link_cells13 (HM.out.lk.old HW.out) hlt
      have HST := Lib.hid (links_step hy)
      have hwr : IntKind.i64.wrap ((k : Int) + 1) = (k : Int) + 1 := IntWalk.i64_in _ (by omega)
      have hnat : ((k + 1 : Nat) : Int) = (k : Int) + 1 := by omega
      obtain ⟨w4, hw4⟩ : ∃ u, u = wr.alloc (.cells #[.int .i64 e, .slice ma mn mc, .slice sa sn sc] 109 (0, 0)) := ⟨_, rfl⟩
      have b4 : Below wr.heap.size wr w4 := by rw [hw4]; exact below_alloc _ _
      have k4 : w4.heap[wr.heap.size]? = some (.cells #[.int .i64 e, .slice ma mn mc, .slice sa sn sc] 109 (0, 0)) := by rw [hw4]; exact blk_alloc _ _
      have B4 := Lib.hid (bthen B1.out (bthen HW.out b4))
      have B4' := Lib.hid (bthen HW.out b4)
      have HSG := Lib.hid (hsg.old b4)
      have CR := Lib.hid (right_any e ma mn mc ms w4 (ints_of_sl (hms.old b4)))
      have y0 : w4.cell? ⟨wr.heap.size, 0, none⟩ = some (.int .i64 e) := by rw [blk_cell k4]; rfl
      have y1 : w4.cell? ⟨wr.heap.size, 1, none⟩ = some (.slice ma mn mc) := by rw [blk_cell k4]; rfl
      have K4 := Lib.hid k4
      clear k4 b4 hsg hms hy
      go_upto_region 4 with (fail)
      rw [← hw4]
      clear hw4 z0 z1 z2
      cases he : (e == (k : Int) + 1)
      · have hr : R = false := by rw [HK.out, HST.out, show decide (e = (k : Int) + 1) = false by rw [← beqZ]; exact he]; rfl
        have he2 : (e != (k : Int) + 1) = true := by rw [bne, he]; rfl
        clear HK HST
        go_wp2_with fail
        go_ret
        exact ⟨by first | rfl | (rw [hr]; rfl), B4.out⟩
      have he2 : (e != (k : Int) + 1) = false := by rw [bne, he]; rfl
      have HE := Lib.hid (show decide (e = (k : Int) + 1) = true by rw [← beqZ]; exact he)
      go_wp2_with fail
      refine CR.out.mono ?_
      rintro r w5 ⟨rfl, b5⟩
      have B5 := Lib.hid (bthen B4.out b5)
      have B5' := Lib.hid (bthen B4'.out b5)
      have k5 := blk_below K4.out b5
      have v2 : w5.cell? ⟨wr.heap.size, 2, none⟩ = some (.slice sa sn sc) := by rw [blk_cell k5]; rfl
      have CS := Lib.hid (signed_any sa sn sc sg w5 (HSG.out.old b5))
      clear b5 k5 y0 y1 K4 B4 B4' HSG CR
      cases hrt : rightB e ms
      · have hr : R = false := by rw [HK.out, HST.out, hrt, HE.out]; rfl
        clear HK HST hrt HE
        go_wp2_with fail
        go_ret
        exact ⟨by first | rfl | (rw [hr]; rfl), B5.out⟩
      go_wp2_with fail
      refine CS.out.mono ?_
      rintro r w6 ⟨rfl, b6⟩
      have B6 := Lib.hid (bthen B5.out b6)
      have B6' := Lib.hid (bthen B5'.out b6)
      clear b6 B5 B5' CS v2
      cases hsb : sigsB sg
      · have hr : R = false := by rw [HK.out, HST.out, hrt, HE.out, hsb]; rfl
        clear HK HST hrt hsb HE
        go_wp2_with fail
        go_ret
        exact ⟨by first | rfl | (rw [hr]; rfl), B6.out⟩
      have HR := Lib.hid (show R = linksB (k + 1) (m.lk.drop (k + 1)) by rw [HK.out, HST.out, hrt, HE.out, hsb]; rfl)
      clear HK HST hrt hsb HE he he2 hnat
      go_wp2_with fail
      go_roundw
      case rel => exact ⟨k + 1, by omega, by go_num, HR, B6'⟩
      case measure => simp [intOf]; omega
    · have hd : decide ((k : Int) < (n4 : Int)) = false := by simp; omega
      have hr : R = true := by
        rw [HK.out, List.drop_of_length_le (by omega)]
        rfl
      have v1 : wr.cell? ⟨w.heap.size, 1, none⟩ = some (.int .i64 m.e) := HA.out _ HW.out 1 _ rfl
      have v16 : wr.cell? ⟨w.heap.size, 16, none⟩ = some (.slice a4 n4 c4) := HA.out _ HW.out 16 _ rfl
      have HD := Lib.hid (show (R && decide ((m.lk.length : Int) = m.e)) = ((n4 : Int) == m.e) by rw [hr, hlen, Bool.true_and, beqZ])
      clear hr
      go_wp2_with fail
      go_ret
      exact ⟨by rw [HD.out]; rfl, (bthen B1.out HW.out)⟩

def turnB (m : Mg) : Bool := decide (1 ≤ m.ch.length) && decide (m.ch.length ≤ 10) && !(decide (m.k = 6) && decide (1 < m.ch.length)) && changesB m.e m.v (-1) m.ch
theorem turn_no {m : Mg} (h : ¬ (1 ≤ m.ch.length ∧ m.ch.length ≤ 10 ∧ ¬ (m.k = 6 ∧ 1 < m.ch.length))) : turnB m = false := by
  rw [Bool.eq_false_iff]
  intro hh
  simp only [turnB, Bool.and_eq_true, decide_eq_true_eq, Bool.not_eq_true', Bool.and_eq_false_iff, decide_eq_false_iff_not] at hh
  refine h ⟨hh.1.1.1, hh.1.1.2, fun hc => ?_⟩
  rcases hh.1.2 with h1 | h1
  · exact h1 hc.1
  · exact h1 hc.2
theorem turn_yes {m : Mg} (h : 1 ≤ m.ch.length ∧ m.ch.length ≤ 10 ∧ ¬ (m.k = 6 ∧ 1 < m.ch.length)) : turnB m = changesB m.e m.v (-1) m.ch := by
  have h3 : (decide (m.k = 6) && decide (1 < m.ch.length)) = false := by
    rw [Bool.eq_false_iff]
    intro hh
    simp only [Bool.and_eq_true, decide_eq_true_eq] at hh
    exact h.2.2 hh
  unfold turnB
  rw [h3]
  simp [h.1, h.2.1]
theorem changes_step {e v z : Int} {l : List Ch} {k : Nat} {y : Ch} (hy : l[k]? = some y) : changesB e v z (l.drop k) = (decide (y.v = v) && decide (z < y.fr) && changeB e y && changesB e v y.fr (l.drop (k + 1))) := by
  rw [List.drop_eq_getElem_cons (List.getElem?_eq_some_iff.1 hy).1, (List.getElem?_eq_some_iff.1 hy).2]
  rfl
set_option maxHeartbeats 4000000 in
theorem turned_any (m : Mg) (a1 : Option Addr) (n1 c1 : Nat) (a2 : Option Addr) (n2 c2 : Nat) (a3 : Option Addr) (n3 c3 : Nat) (a4 : Option Addr) (n4 c4 : Nat) (w : World) (he : 0 ≤ m.e ∧ m.e ≤ 60) (hm : MsgIn w m a1 n1 c1 a2 n2 c2 a3 n3 c3 a4 n4 c4) :
    Calls Try.prog 104 #[.agg (mgCs m a1 n1 c1 a2 n2 c2 a3 n3 c3 a4 n4 c4).toArray] w fun r w' => r = .returned (.bool (turnB m)) ∧ Below w.heap.size w w' := by
  have hlen := hm.ch.len
  have hcap := hm.ch.cap
  have hmax := hm.ch.max
  obtain ⟨w1, hw1⟩ : ∃ u, u = w.alloc (.cells (mgCs m a1 n1 c1 a2 n2 c2 a3 n3 c3 a4 n4 c4).toArray 34 (0, 0)) := ⟨_, rfl⟩
  have b1 : Below w.heap.size w w1 := by rw [hw1]; exact below_alloc _ _
  have k1 : w1.heap[w.heap.size]? = some (.cells (mgCs m a1 n1 c1 a2 n2 c2 a3 n3 c3 a4 n4 c4).toArray 34 (0, 0)) := by rw [hw1]; exact blk_alloc _ _
  have HA := Lib.hid (show ∀ w', Below w1.heap.size w1 w' → MgAt w' w.heap.size 0 m a1 n1 c1 a2 n2 c2 a3 n3 c3 a4 n4 c4 from fun w' hb => mgAt_blk (blk_below k1 hb))
  have B1 := Lib.hid b1
  have HM := Lib.hid (hm.old b1)
  have HN := Lib.hid (fun h => turn_no (m := m) h)
  have HY := Lib.hid (fun h => turn_yes (m := m) h)
  generalize turnB m = R at HN HY ⊢
  generalize hCS : (mgCs m a1 n1 c1 a2 n2 c2 a3 n3 c3 a4 n4 c4).toArray = CS at hw1 k1 ⊢
  clear hCS k1 b1 hm
  have x0 : w1.cell? ⟨w.heap.size, 0, none⟩ = some (.int .i64 m.k) := HA.out _ (Below.refl _ _) 0 _ rfl
  have x15 : w1.cell? ⟨w.heap.size, 15, none⟩ = some (.slice a3 n3 c3) := HA.out _ (Below.refl _ _) 15 _ rfl
  go_enter Try.func104, Try.ntmps104
  go_upto_region 1 with (fail)
  rw [← hw1]
  clear hw1
  by_cases g1 : (n3 : Int) < 1
  · have hr := HN.out (by omega)
    have d1 : decide ((n3 : Int) < 1) = true := by simpa using g1
    clear g1
    go_wp2_with fail
    go_ret
    exact ⟨by first | rfl | (rw [hr]; rfl), B1.out⟩
  have d1 : decide ((n3 : Int) < 1) = false := by simpa using g1
  by_cases g2 : (10 : Int) < (n3 : Int)
  · have hr := HN.out (by omega)
    have d2 : decide ((10 : Int) < (n3 : Int)) = true := by simpa using g2
    clear g1 g2
    go_wp2_with fail
    go_ret
    exact ⟨by first | rfl | (rw [hr]; rfl), B1.out⟩
  have d2 : decide ((10 : Int) < (n3 : Int)) = false := by simpa using g2
  have HC : ∃ b1 b2 : Bool, (m.k == 6) = b1 ∧ decide ((1 : Int) < (n3 : Int)) = b2 ∧ ((b1 = true ∧ b2 = true → R = false) ∧ (¬ (b1 = true ∧ b2 = true) → R = changesB m.e m.v (-1) m.ch)) := by
    refine ⟨_, _, rfl, rfl, fun h => HN.out fun hh => hh.2.2 ⟨by simpa using h.1, by have := h.2; simp at this; omega⟩, fun h => HY.out ⟨by omega, by omega, fun hh => h ⟨by simpa using hh.1, by simp; omega⟩⟩⟩
  obtain ⟨t1, t2, d3, d4, hno, hyes⟩ := HC
  clear g1 g2 HN HY
  have HNO := Lib.hid hno
  clear hno
  by_cases g3 : t1 = true ∧ t2 = true
  · have hr := HNO.out g3
    obtain ⟨rfl, rfl⟩ := g3
    clear hyes
    go_wp2_with fail
    go_ret
    exact ⟨by first | rfl | (rw [hr]; rfl), B1.out⟩
  have hR := hyes g3
  have HR0 := Lib.hid hR
  clear hR hyes HNO
  have ht : t1 = false ∨ (t1 = true ∧ t2 = false) := by
    cases t1
    · exact .inl rfl
    · cases t2
      · exact .inr ⟨rfl, rfl⟩
      · exact absurd ⟨rfl, rfl⟩ g3
  clear g3
  rcases ht with rfl | ⟨rfl, rfl⟩
  · go_wp2_with fail
    go_loopw [28, 4] (fun i z wr => ∃ k : Nat, ∃ x : Int, k ≤ n3 ∧ i = .int .i64 k ∧ z = .int .i64 x ∧ Hid (R = changesB m.e m.v x (m.ch.drop k)) ∧ Hid (Below w1.heap.size w1 wr)) (fun i _ _ => n3 - (intOf i).toNat)
    case atStart => exact ⟨0, -1, by omega, rfl, rfl, HR0, Lib.hid (Below.refl _ _)⟩
    case round =>
      obtain ⟨k, z, hk, rfl, rfl, HK, HW⟩ := hrel
      by_cases hlt : k < n3
      · have hd : decide ((k : Int) < (n3 : Int)) = true := by simp; omega
        obtain ⟨bb, o, ⟨yf, yv, ce, sx, st⟩, sa, sn, sc, rfl, hy, z0, z1, z2, z3, z4, hyf, hyv, hce, hs1, hs2⟩ := change_cells (HM.out.ch.old HW.out) hlt
        dsimp only at z0 z1 z2 z3 z4 hyf hyv hce hs1 hs2
        have HST := Lib.hid (changes_step (e := m.e) (v := m.v) (z := z) hy)
        obtain ⟨w4, hw4⟩ : ∃ u, u = wr.alloc (.cells #[.int .i64 yf, .int .i64 yv, .slice sa sn sc, .int .i64 sx, .string st] 106 (0, 0)) := ⟨_, rfl⟩
        have b4 : Below wr.heap.size wr w4 := by rw [hw4]; exact below_alloc _ _
        have k4 : w4.heap[wr.heap.size]? = some (.cells #[.int .i64 yf, .int .i64 yv, .slice sa sn sc, .int .i64 sx, .string st] 106 (0, 0)) := by rw [hw4]; exact blk_alloc _ _
        have B4 := Lib.hid (bthen B1.out (bthen HW.out b4))
        have B4' := Lib.hid (bthen HW.out b4)
        have CC := Lib.hid (changed_any m.e ⟨yf, yv, ce, sx, st⟩ sa sn sc w4 he hyf hyv (hce.old b4) hs1 hs2)
        have y0 : w4.cell? ⟨wr.heap.size, 0, none⟩ = some (.int .i64 yf) := by rw [blk_cell k4]; rfl
        have y1 : w4.cell? ⟨wr.heap.size, 1, none⟩ = some (.int .i64 yv) := by rw [blk_cell k4]; rfl
        have y2 : w4.cell? ⟨wr.heap.size, 2, none⟩ = some (.slice sa sn sc) := by rw [blk_cell k4]; rfl
        have y3 : w4.cell? ⟨wr.heap.size, 3, none⟩ = some (.int .i64 sx) := by rw [blk_cell k4]; rfl
        have y4 : w4.cell? ⟨wr.heap.size, 4, none⟩ = some (.string st) := by rw [blk_cell k4]; rfl
        have u1 : w4.cell? ⟨w.heap.size, 1, none⟩ = some (.int .i64 m.e) := HA.out _ B4'.out 1 _ rfl
        have u2 : w4.cell? ⟨w.heap.size, 2, none⟩ = some (.int .i64 m.v) := HA.out _ B4'.out 2 _ rfl
        have K4 := Lib.hid k4
        clear k4 b4 hce hy
        go_upto_region 8 with (fail)
        rw [← hw4]
        clear hw4 z0 z1 z2 z3 z4
        cases hv1 : (yv == m.v)
        · have hr : R = false := by rw [HK.out, HST.out, show decide (yv = m.v) = false by rw [← beqZ]; exact hv1]; rfl
          have hv2 : (yv != m.v) = true := by rw [bne, hv1]; rfl
          clear HK HST HR0
          go_wp2_with fail
          go_ret
          exact ⟨by first | rfl | (rw [hr]; rfl), B4.out⟩
        have hv2 : (yv != m.v) = false := by rw [bne, hv1]; rfl
        have HV := Lib.hid (show decide (yv = m.v) = true by rw [← beqZ]; exact hv1)
        by_cases g5 : yf ≤ z
        · have d5 : decide (yf ≤ z) = true := by simpa using g5
          have hr : R = false := by rw [HK.out, HST.out, HV.out, show decide (z < yf) = false by simpa using g5]; rfl
          clear HK HST g5 HR0
          go_wp2_with fail
          go_ret
          exact ⟨by first | rfl | (rw [hr]; rfl), B4.out⟩
        have d5 : decide (yf ≤ z) = false := by simpa using g5
        have HZ := Lib.hid (show decide (z < yf) = true by simp; omega)
        clear g5
        go_wp2_with fail
        refine CC.out.mono ?_
        rintro r w5 ⟨rfl, b5⟩
        have B5 := Lib.hid (bthen B4.out b5)
        have B5' := Lib.hid (bthen B4'.out b5)
        have k5 := blk_below K4.out b5
        have v0 : w5.cell? ⟨wr.heap.size, 0, none⟩ = some (.int .i64 yf) := by rw [blk_cell k5]; rfl
        clear b5 k5 y0 y1 y2 y3 y4 u1 u2 K4 B4 B4' CC
        cases hcb : changeB m.e ⟨yf, yv, ce, sx, st⟩
        · have hr : R = false := by rw [HK.out, HST.out, HV.out, HZ.out, hcb]; rfl
          clear HK HST hcb HV HZ HR0
          go_wp2_with fail
          go_ret
          exact ⟨by first | rfl | (rw [hr]; rfl), B5.out⟩
        have HR := Lib.hid (show R = changesB m.e m.v yf (m.ch.drop (k + 1)) by rw [HK.out, HST.out, HV.out, HZ.out, hcb]; rfl)
        clear HK HST hcb HV HZ hv1 hv2 d5 HR0
        go_wp2_with fail
        go_roundw
        case rel => exact ⟨k + 1, yf, by omega, by go_num, rfl, HR, B5'⟩
        case measure => simp [intOf]; omega
      · have hd : decide ((k : Int) < (n3 : Int)) = false := by simp; omega
        have hr : R = true := by
          rw [HK.out, List.drop_of_length_le (by omega)]
          rfl
        clear HK HR0
        go_wp2_with fail
        go_ret
        exact ⟨by first | rfl | (rw [hr]; rfl), (bthen B1.out HW.out)⟩
  · go_wp2_with fail
    go_loopw [28, 4] (fun i z wr => ∃ k : Nat, ∃ x : Int, k ≤ n3 ∧ i = .int .i64 k ∧ z = .int .i64 x ∧ Hid (R = changesB m.e m.v x (m.ch.drop k)) ∧ Hid (Below w1.heap.size w1 wr)) (fun i _ _ => n3 - (intOf i).toNat)
    case atStart => exact ⟨0, -1, by omega, rfl, rfl, HR0, Lib.hid (Below.refl _ _)⟩
    case round =>
      obtain ⟨k, z, hk, rfl, rfl, HK, HW⟩ := hrel
      by_cases hlt : k < n3
      · have hd : decide ((k : Int) < (n3 : Int)) = true := by simp; omega
        obtain ⟨bb, o, ⟨yf, yv, ce, sx, st⟩, sa, sn, sc, rfl, hy, z0, z1, z2, z3, z4, hyf, hyv, hce, hs1, hs2⟩ := change_cells (HM.out.ch.old HW.out) hlt
        dsimp only at z0 z1 z2 z3 z4 hyf hyv hce hs1 hs2
        have HST := Lib.hid (changes_step (e := m.e) (v := m.v) (z := z) hy)
        obtain ⟨w4, hw4⟩ : ∃ u, u = wr.alloc (.cells #[.int .i64 yf, .int .i64 yv, .slice sa sn sc, .int .i64 sx, .string st] 106 (0, 0)) := ⟨_, rfl⟩
        have b4 : Below wr.heap.size wr w4 := by rw [hw4]; exact below_alloc _ _
        have k4 : w4.heap[wr.heap.size]? = some (.cells #[.int .i64 yf, .int .i64 yv, .slice sa sn sc, .int .i64 sx, .string st] 106 (0, 0)) := by rw [hw4]; exact blk_alloc _ _
        have B4 := Lib.hid (bthen B1.out (bthen HW.out b4))
        have B4' := Lib.hid (bthen HW.out b4)
        have CC := Lib.hid (changed_any m.e ⟨yf, yv, ce, sx, st⟩ sa sn sc w4 he hyf hyv (hce.old b4) hs1 hs2)
        have y0 : w4.cell? ⟨wr.heap.size, 0, none⟩ = some (.int .i64 yf) := by rw [blk_cell k4]; rfl
        have y1 : w4.cell? ⟨wr.heap.size, 1, none⟩ = some (.int .i64 yv) := by rw [blk_cell k4]; rfl
        have y2 : w4.cell? ⟨wr.heap.size, 2, none⟩ = some (.slice sa sn sc) := by rw [blk_cell k4]; rfl
        have y3 : w4.cell? ⟨wr.heap.size, 3, none⟩ = some (.int .i64 sx) := by rw [blk_cell k4]; rfl
        have y4 : w4.cell? ⟨wr.heap.size, 4, none⟩ = some (.string st) := by rw [blk_cell k4]; rfl
        have u1 : w4.cell? ⟨w.heap.size, 1, none⟩ = some (.int .i64 m.e) := HA.out _ B4'.out 1 _ rfl
        have u2 : w4.cell? ⟨w.heap.size, 2, none⟩ = some (.int .i64 m.v) := HA.out _ B4'.out 2 _ rfl
        have K4 := Lib.hid k4
        clear k4 b4 hce hy
        go_upto_region 8 with (fail)
        rw [← hw4]
        clear hw4 z0 z1 z2 z3 z4
        cases hv1 : (yv == m.v)
        · have hr : R = false := by rw [HK.out, HST.out, show decide (yv = m.v) = false by rw [← beqZ]; exact hv1]; rfl
          have hv2 : (yv != m.v) = true := by rw [bne, hv1]; rfl
          clear HK HST HR0
          go_wp2_with fail
          go_ret
          exact ⟨by first | rfl | (rw [hr]; rfl), B4.out⟩
        have hv2 : (yv != m.v) = false := by rw [bne, hv1]; rfl
        have HV := Lib.hid (show decide (yv = m.v) = true by rw [← beqZ]; exact hv1)
        by_cases g5 : yf ≤ z
        · have d5 : decide (yf ≤ z) = true := by simpa using g5
          have hr : R = false := by rw [HK.out, HST.out, HV.out, show decide (z < yf) = false by simpa using g5]; rfl
          clear HK HST g5 HR0
          go_wp2_with fail
          go_ret
          exact ⟨by first | rfl | (rw [hr]; rfl), B4.out⟩
        have d5 : decide (yf ≤ z) = false := by simpa using g5
        have HZ := Lib.hid (show decide (z < yf) = true by simp; omega)
        clear g5
        go_wp2_with fail
        refine CC.out.mono ?_
        rintro r w5 ⟨rfl, b5⟩
        have B5 := Lib.hid (bthen B4.out b5)
        have B5' := Lib.hid (bthen B4'.out b5)
        have k5 := blk_below K4.out b5
        have v0 : w5.cell? ⟨wr.heap.size, 0, none⟩ = some (.int .i64 yf) := by rw [blk_cell k5]; rfl
        clear b5 k5 y0 y1 y2 y3 y4 u1 u2 K4 B4 B4' CC
        cases hcb : changeB m.e ⟨yf, yv, ce, sx, st⟩
        · have hr : R = false := by rw [HK.out, HST.out, HV.out, HZ.out, hcb]; rfl
          clear HK HST hcb HV HZ HR0
          go_wp2_with fail
          go_ret
          exact ⟨by first | rfl | (rw [hr]; rfl), B5.out⟩
        have HR := Lib.hid (show R = changesB m.e m.v yf (m.ch.drop (k + 1)) by rw [HK.out, HST.out, HV.out, HZ.out, hcb]; rfl)
        clear HK HST hcb HV HZ hv1 hv2 d5 HR0
        go_wp2_with fail
        go_roundw
        case rel => exact ⟨k + 1, yf, by omega, by go_num, rfl, HR, B5'⟩
        case measure => simp [intOf]; omega
      · have hd : decide ((k : Int) < (n3 : Int)) = false := by simp; omega
        have hr : R = true := by
          rw [HK.out, List.drop_of_length_le (by omega)]
          rfl
        clear HK HR0
        go_wp2_with fail
        go_ret
        exact ⟨by first | rfl | (rw [hr]; rfl), (bthen B1.out HW.out)⟩
end Go.Proofs.Ytijeieamodjgbaa
