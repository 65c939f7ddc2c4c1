
/- Wire: walks of the reference's tests: Of, Asked, sigs, links. -/
import Derived.Test.YtijeieamodjgbaaGreatWa
namespace Go.Proofs.YtijeieamodjgbaaGreat
set_option maxRecDepth 100000
open Go.RowKit Go.Deep
set_option linter.unusedVariables false
set_option linter.unusedSimpArgs false
def ofR (e s : Int) : Bool := decide (wrap64 (4 * e) < s) && decide (s ≤ wrap64 (4 * wrap64 (e + 1)))
theorem ofR_in {e s : Int} (h : 0 ≤ e ∧ e ≤ 60) : ofR e s = ofB e s := by
  have h1 : wrap64 (4 * e) = 4 * e := by unfold wrap64; omega
  have h2 : wrap64 (e + 1) = e + 1 := by unfold wrap64; omega
  have h3 : wrap64 (4 * (e + 1)) = 4 * e + 4 := by unfold wrap64; omega
  unfold ofR ofB
  rw [h1, h2, h3]
set_option maxHeartbeats 400000 in
theorem rof_any (e s : Int) (w : World) : Calls Tryz.prog 85 #[.int .i64 e, .int .i64 s] w fun r w' => r = .returned (.bool (ofR e s)) ∧ w = w' := by
  have HD := Lib.hid (show ofR e s = (decide (wrap64 (4 * e) < s) && decide (s ≤ wrap64 (4 * wrap64 (e + 1)))) from rfl)
  generalize ofR e s = R at HD ⊢
  cases h1 : decide (wrap64 (4 * e) < s)
  · go_enter Tryz.func85, Tryz.ntmps85
    go_wp2_with fail
    go_ret
    exact ⟨by rw [HD.out, h1]; rfl, rfl⟩
  · cases h2 : decide (s ≤ wrap64 (4 * wrap64 (e + 1)))
    · go_enter Tryz.func85, Tryz.ntmps85
      go_wp2_with fail
      go_ret
      exact ⟨by rw [HD.out, h1, h2]; rfl, rfl⟩
    · go_enter Tryz.func85, Tryz.ntmps85
      go_wp2_with fail
      go_ret
      exact ⟨by rw [HD.out, h1, h2]; rfl, rfl⟩
set_option maxHeartbeats 1000000 in
theorem rasked_any (r : Rq) (h : r.Ok) (w : World) : Calls Tryz.prog 89 #[r.v] w fun e w' => e = .returned (.bool (askB r)) ∧ Below w.heap.size w w' := by
  have CR := Lib.hid (fun w => rright_rq r h w); have CN := Lib.hid (fun w => qrnull_any r.c r.s r.kind r.key r.b h.b r.id w); obtain ⟨c, s, kind, key, b, id⟩ := r; have HA := Lib.hid (show askB ⟨c, s, kind, key, b, id⟩ = ((⟨c, s, kind, key, b, id⟩ : Rq).right || (nullQ c s kind key b id)) from rfl)
  generalize askB ⟨c, s, kind, key, b, id⟩ = A at HA ⊢
  generalize (⟨c, s, kind, key, b, id⟩ : Rq).right = R at CR HA
  simp only [Rq.v] at CR CN HA ⊢
  generalize nullQ c s kind key b id = NL at CN HA
  clear h
  obtain ⟨w1, hw1⟩ : ∃ u, u = w.alloc (.cells #[.int .i64 c, .int .i64 s, .int .i64 kind, .string key, .float .f64 b, .int .i64 id] 27 (0, 0)) := ⟨_, rfl⟩
  have B1 := Lib.hid (show Below w.heap.size w w1 by rw [hw1]; exact below_alloc _ _)
  have k1 : w1.heap[w.heap.size]? = some (.cells #[.int .i64 c, .int .i64 s, .int .i64 kind, .string key, .float .f64 b, .int .i64 id] 27 (0, 0)) := by rw [hw1]; exact blk_alloc _ _
  go_enter Tryz.func89, Tryz.ntmps89
  go_upto_region 1 with (fail)
  rw [← hw1]; clear hw1; have K1 := Lib.hid k1; obtain ⟨q0, q1, q2, q3, q4, q5⟩ := rqAt_blk k1; clear k1
  go_wp2_with fail
  refine (CR.out w1).mono ?_
  rintro e w2 ⟨rfl, b2⟩
  have B2 := Lib.hid (bthen B1.out b2); obtain ⟨p0, p1, p2, p3, p4, p5⟩ := rqAt_blk (blk_below K1.out b2); clear b2 B1 K1 q0 q1 q2 q3 q4 q5
  cases R
  · go_wp2_with fail
    refine (CN.out w2).mono ?_
    rintro e w3 ⟨rfl, b3⟩
    have B3 := Lib.hid (bthen B2.out b3); clear b3 B2 p0 p1 p2 p3 p4 p5
    go_wp2_with fail
    go_ret
    exact ⟨by rw [HA.out]; rfl, B3.out⟩
  · go_wp2_with fail
    go_ret
    exact ⟨by rw [HA.out]; rfl, B2.out⟩
set_option maxHeartbeats 2000000 in
theorem rsigs13_any (a : Option Addr) (n c : Nat) (l : List Sg) (w : World) (h : SlAt shSig w a n c l) : Calls Tryz.prog 94 #[.slice a n c] w fun e w' => e = .returned (.bool (sigsB l)) ∧ Below w.heap.size w w' := by
  have hlen := h.len; have hcap := h.cap; have hmax := h.max; have HS := Lib.hid h; clear h
  go_enter Tryz.func94, Tryz.ntmps94
  go_wp2_with fail
  go_loopw [3] (fun i wr => ∃ k : Nat, k ≤ n ∧ i = .int .i64 k ∧ Hid ((l.take k).all byB = true) ∧ Hid (Below w.heap.size w wr)) (fun i _ => n - (intOf i).toNat)
  case atStart => exact ⟨0, by omega, rfl, Lib.hid rfl, Lib.hid (Below.refl _ _)⟩
  case round =>
    obtain ⟨k, hk, rfl, HK, HW⟩ := hrel
    by_cases hlt : k < n
    · have hd : decide ((k : Int) < (n : Int)) = true := by simp; omega
      obtain ⟨bb, o, x, t, rfl, hy, x0, x1, h1, h2⟩ := sig_cells (HS.out.old HW.out) hlt; have HT := Lib.hid (show l.take (k + 1) = l.take k ++ [(x, t)] by rw [List.take_add_one, hy]; rfl); have HM := Lib.hid (List.mem_of_getElem? hy)
      have hj0 : (0 : Int) ≤ (k : Int) := by omega
      have hj1 : (k : Int) < (n : Int) := by omega
      have lb := World.block_lt x0; clear hy
      by_cases hb : 0 ≤ x ∧ x < 200
      · have hx0 : decide (x < 0) = false := by simp; omega
        have hx1 : decide (199 < x) = false := by simp; omega
        have HB := Lib.hid (show byB (x, t) = true by simp [byB]; omega); clear hb
        go_wp2_with fail
        go_roundw
        case rel => exact ⟨k + 1, by omega, by go_num, Lib.hid (by rw [HT.out, List.all_append, HK.out]; simpa using HB.out), HW⟩
        case measure => simp [intOf]; omega
      · have HR := Lib.hid (show sigsB l = false by
          have : l.all byB = false := by
            rw [Bool.eq_false_iff, Ne, List.all_eq_true]; intro h; have := h _ HM.out
            simp [byB] at this
            omega
          simp [sigsB, this])
        by_cases hx : x < 0
        · have hx0 : decide (x < 0) = true := by simpa using hx
          clear hb
          go_wp2_with fail
          go_ret
          exact ⟨by rw [HR.out]; rfl, HW.out⟩
        · have hx0 : decide (x < 0) = false := by simpa using hx
          have hx1 : decide (199 < x) = true := by simp; omega
          clear hb
          go_wp2_with fail
          go_ret
          exact ⟨by rw [HR.out]; rfl, HW.out⟩
    · have hd : decide ((k : Int) < (n : Int)) = false := by simp; omega
      have HR := Lib.hid (show sigsB l = decide ((n : Int) ≤ 16) by
        have h1 := HK.out
        rw [List.take_of_length_le (by omega)] at h1
        simp only [sigsB, h1, Bool.true_and, hlen]
        exact decide_eq_decide.2 (by omega))
      go_wp2_with fail
      go_ret
      exact ⟨by rw [HR.out]; rfl, HW.out⟩
set_option maxHeartbeats 4000000 in
theorem rlinks13_any (a4 : Option Addr) (n4 c4 : Nat) (l : List Lk) (w : World) (hm : SlAt shLink w a4 n4 c4 l) :
    Calls Tryz.prog 93 #[.slice a4 n4 c4] w fun r w' => r = .returned (.bool (linksB 0 l)) ∧ Below w.heap.size w w' := by
  have hlen := hm.len; have hcap := hm.cap; have hmax := hm.max; have HM := Lib.hid hm
  obtain ⟨R, hR⟩ : ∃ R, R = linksB 0 l := ⟨_, rfl⟩
  rw [← hR]; clear hm
  go_enter Tryz.func93, Tryz.ntmps93
  go_wp2_with fail
  go_loopw [3] (fun i wr => ∃ k : Nat, k ≤ n4 ∧ i = .int .i64 k ∧ Hid (R = linksB k (l.drop k)) ∧ Hid (Below w.heap.size w wr)) (fun i _ => n4 - (intOf i).toNat)
  case atStart => exact ⟨0, by omega, rfl, Lib.hid (by rw [hR]; rfl), Lib.hid (Below.refl _ _)⟩
  case round =>
    obtain ⟨k, hk, rfl, HK, HW⟩ := hrel; clear hR
    by_cases hlt : k < n4
    · have hd : decide ((k : Int) < (n4 : Int)) = true := by simp; omega
      obtain ⟨bb, o, e, ms, sg, ma, mn, mc, sa, sn, sc, rfl, hy, z0, z1, z2, hie, hms, hsg⟩ := link_cells13 (HM.out.old HW.out) hlt; have HST := Lib.hid (links_step hy); have hwr : IntKind.i64.wrap ((k : Int) + 1) = (k : Int) + 1 := IntWalk.i64_in _ (by omega)
      have hj0 : (0 : Int) ≤ (k : Int) := by omega
      have hj1 : (k : Int) < (n4 : Int) := by omega
      have lb := World.block_lt z0; have HSG := Lib.hid hsg; have CR := Lib.hid (rright_any e ma mn mc ms wr (ints_of_sl hms)); have Z0 := Lib.hid z0; have Z2 := Lib.hid z2; clear hsg hms hy
      cases hrt : rightB e ms
      · rw [hrt] at CR
        have hr : R = false := by rw [HK.out, HST.out, hrt]; simp
        clear HK HST hrt
        go_wp2_with fail
        refine CR.out.mono ?_
        rintro r w5 ⟨rfl, b5⟩
        have B5 := Lib.hid (bthen HW.out b5); clear b5 CR z0 z1 z2
        go_wp2_with fail
        go_ret
        exact ⟨by first | rfl | (rw [hr]; rfl), B5.out⟩
      rw [hrt] at CR
      go_wp2_with fail
      refine CR.out.mono ?_
      rintro r w5 ⟨rfl, b5⟩
      have B5 := Lib.hid (bthen HW.out b5); have v0 := below_cell b5 Z0.out; have v2 := below_cell b5 Z2.out; have lb5 := World.block_lt v0; have CS := Lib.hid (rsigs13_any sa sn sc sg w5 (HSG.out.old b5)); clear b5 CR z0 z1 z2 HSG lb
      cases he : (e == (k : Int) + 1)
      · have hr : R = false := by rw [HK.out, HST.out, show decide (e = (k : Int) + 1) = false by rw [← beqZ]; exact he]; rfl
        have he2 : (e != (k : Int) + 1) = true := by rw [bne, he]; rfl
        clear HK HST hrt
        go_wp2_with fail
        go_ret
        exact ⟨by first | rfl | (rw [hr]; rfl), B5.out⟩
      have he2 : (e != (k : Int) + 1) = false := by rw [bne, he]; rfl
      have HE := Lib.hid (show decide (e = (k : Int) + 1) = true by rw [← beqZ]; exact he)
      cases hsb : sigsB sg
      · rw [hsb] at CS
        have hr : R = false := by rw [HK.out, HST.out, hrt, HE.out, hsb]; rfl
        clear HK HST hrt hsb HE
        go_wp2_with fail
        refine CS.out.mono ?_
        rintro r w6 ⟨rfl, b6⟩
        have B6 := Lib.hid (bthen B5.out b6); clear b6 B5 CS v0 v2 lb5
        go_wp2_with fail
        go_ret
        exact ⟨by first | rfl | (rw [hr]; rfl), B6.out⟩
      rw [hsb] at CS
      have HR := Lib.hid (show R = linksB (k + 1) (l.drop (k + 1)) by rw [HK.out, HST.out, hrt, HE.out, hsb]; rfl); clear HK HST hrt hsb HE
      go_wp2_with fail
      refine CS.out.mono ?_
      rintro r w6 ⟨rfl, b6⟩
      have B6 := Lib.hid (bthen B5.out b6); clear b6 B5 CS v0 v2 lb5 he he2
      go_wp2_with fail
      go_roundw
      case rel => exact ⟨k + 1, by omega, by go_num, HR, B6⟩
      case measure => simp [intOf]; omega
    · have hd : decide ((k : Int) < (n4 : Int)) = false := by simp; omega
      have hr : R = true := by
        rw [HK.out, List.drop_of_length_le (by omega)]
        rfl
      go_wp2_with fail
      go_ret
      exact ⟨by first | rfl | (rw [hr]; rfl), HW.out⟩
end Go.Proofs.YtijeieamodjgbaaGreat
/- Wire: walks of the reference's Change and changes. (printed by mkWtc.py) -/
namespace Go.Proofs.YtijeieamodjgbaaGreat
set_option maxRecDepth 100000
open Go.RowKit Go.Deep
attribute [local irreducible] wpQuiet
set_option linter.unusedVariables false
set_option linter.unusedSimpArgs false
attribute [local go_sem] run_store_float
def certR (e : Int) (p : Option Int) (x : Ce) : Bool := ofR e x.s && (p.all fun z => decide (z < x.s)) && decide (0 ≤ x.v) && decide (x.v ≤ 15) && askB x.q && sigsB x.sg
def certsR (e : Int) : Option Int → List Ce → Bool
  | _, [] => true
  | p, x :: r => certR e p x && certsR e (some x.s) r
def prevS (l : List Ce) (k : Nat) : Option Int := if k = 0 then none else (l[k - 1]?).map (·.s)
theorem prev_next {l : List Ce} {k : Nat} {y : Ce} (hy : l[k]? = some y) : prevS l (k + 1) = some y.s := by
  unfold prevS
  rw [if_neg (by omega), Nat.add_sub_cancel, hy]
  rfl
theorem certsR_step {e : Int} {p : Option Int} {l : List Ce} {k : Nat} {y : Ce} (hy : l[k]? = some y) : certsR e p (l.drop k) = (certR e p y && certsR e (some y.s) (l.drop (k + 1))) := by
  rw [List.drop_eq_getElem_cons (List.getElem?_eq_some_iff.1 hy).1, (List.getElem?_eq_some_iff.1 hy).2]
  rfl
theorem crtR_no {e : Int} {p : Option Int} {y : Ce} (h : ¬ (ofR e y.s = true ∧ (∀ z, p = some z → z < y.s) ∧ 0 ≤ y.v ∧ y.v ≤ 15 ∧ askB y.q = true ∧ sigsB y.sg = true)) : certR e p y = false := by
  rw [Bool.eq_false_iff]; intro hh
  simp only [certR, Bool.and_eq_true, decide_eq_true_eq] at hh
  refine h ⟨hh.1.1.1.1.1, fun z hz => ?_, hh.1.1.1.2, hh.1.1.2, hh.1.2, hh.2⟩
  have h1 := hh.1.1.1.1.2
  rw [hz] at h1
  simpa using h1
theorem crtR_yes {e : Int} {p : Option Int} {y : Ce} (h : ofR e y.s = true ∧ (∀ z, p = some z → z < y.s) ∧ 0 ≤ y.v ∧ y.v ≤ 15 ∧ askB y.q = true ∧ sigsB y.sg = true) : certR e p y = true := by
  unfold certR
  have h1 : (p.all fun z => decide (z < y.s)) = true := by
    cases p with
    | none => rfl
    | some z => simpa using h.2.1 z rfl
  simp [h.1, h1, h.2.2.1, h.2.2.2.1, h.2.2.2.2.1, h.2.2.2.2.2]
def changeR (e : Int) (c : Ch) : Bool := decide (0 ≤ c.fr) && decide (c.fr < 16) && decide (1 ≤ c.v) && decide (c.v ≤ 15) && decide (c.ce.length ≤ 4) && byB c.sg && certsR e none c.ce
theorem chgR_fr {e : Int} {y : Ch} (h : ¬ (0 ≤ y.fr ∧ y.fr < 16 ∧ 1 ≤ y.v ∧ y.v ≤ 15 ∧ y.ce.length ≤ 4 ∧ byB y.sg = true)) : changeR e y = false := by
  rw [Bool.eq_false_iff]; intro hh
  simp only [changeR, Bool.and_eq_true, decide_eq_true_eq] at hh
  exact h ⟨hh.1.1.1.1.1.1, hh.1.1.1.1.1.2, hh.1.1.1.1.2, hh.1.1.1.2, hh.1.1.2, hh.1.2⟩
theorem chgR_in {e : Int} {y : Ch} (h : 0 ≤ y.fr ∧ y.fr < 16 ∧ 1 ≤ y.v ∧ y.v ≤ 15 ∧ y.ce.length ≤ 4 ∧ byB y.sg = true) : changeR e y = certsR e none y.ce := by
  unfold changeR
  simp [h.1, h.2.1, h.2.2.1, h.2.2.2.1, h.2.2.2.2.1, h.2.2.2.2.2]
theorem certsR_some {e : Int} (he : 0 ≤ e ∧ e ≤ 60) : ∀ (z : Int) (l : List Ce), certsR e (some z) l = certsB e z l
  | _, [] => rfl
  | z, x :: r => by
    show (certR e (some z) x && certsR e (some x.s) r) = (certB e z x && certsB e x.s r)
    rw [certsR_some he x.s r]
    unfold certR certB
    rw [ofR_in he]
    rfl
theorem certsR_none {e : Int} (he : 0 ≤ e ∧ e ≤ 60) (l : List Ce) : certsR e none l = certsB e 0 l := by
  cases l with
  | nil => rfl
  | cons x r =>
    show (certR e none x && certsR e (some x.s) r) = (certB e 0 x && certsB e x.s r)
    rw [certsR_some he x.s r]
    unfold certR certB
    rw [ofR_in he]
    cases h : ofB e x.s with
    | false => rfl
    | true =>
      have h1 : decide ((0 : Int) < x.s) = true := by
        simp only [ofB, Bool.and_eq_true, decide_eq_true_eq] at h
        simp only [decide_eq_true_eq]
        omega
      rw [h1]
      rfl
theorem changeR_in {e : Int} (he : 0 ≤ e ∧ e ≤ 60) (c : Ch) : changeR e c = changeB e c := by
  unfold changeR changeB
  rw [certsR_none he]
set_option maxHeartbeats 4000000 in
theorem rchange13_any (e : Int) (y : Ch) (ca : Option Addr) (cn cc : Nat) (w : World) (hf : i64 y.fr) (hv : i64 y.v) (hc : SlAt shCert w ca cn cc y.ce) (hs : i64 y.sg.1) (ht : y.sg.2.size ≤ 1125899906842624) :
    Calls Tryz.prog 133 #[.int .i64 e, .agg #[.int .i64 y.fr, .int .i64 y.v, .slice ca cn cc, .int .i64 y.sg.1, .string y.sg.2]] w fun r w' => r = .returned (.bool (changeR e y)) ∧ Below w.heap.size w w' := by
  have hlen := hc.len; have hcap := hc.cap; have hmax := hc.max; have HN := Lib.hid (fun h => chgR_fr (e := e) (y := y) h); have HY := Lib.hid (fun h => chgR_in (e := e) (y := y) h)
  generalize changeR e y = R at HN HY ⊢
  obtain ⟨fr, v, ce, sx, st⟩ := y
  dsimp only at *
  obtain ⟨w1, hw1⟩ : ∃ u, u = w.alloc (.cells #[.int .i64 fr, .int .i64 v, .slice ca cn cc, .int .i64 sx, .string st] 86 (0, 0)) := ⟨_, rfl⟩
  have b1 : Below w.heap.size w w1 := by rw [hw1]; exact below_alloc _ _
  have k1 : w1.heap[w.heap.size]? = some (.cells #[.int .i64 fr, .int .i64 v, .slice ca cn cc, .int .i64 sx, .string st] 86 (0, 0)) := by rw [hw1]; exact blk_alloc _ _
  have HC1 := Lib.hid (hc.old b1); have B1 := Lib.hid b1; have K1 := Lib.hid k1
  have x0 : w1.cell? ⟨w.heap.size, 0, none⟩ = some (.int .i64 fr) := by rw [blk_cell k1]; rfl
  have x1 : w1.cell? ⟨w.heap.size, 1, none⟩ = some (.int .i64 v) := by rw [blk_cell k1]; rfl
  have x2 : w1.cell? ⟨w.heap.size, 2, none⟩ = some (.slice ca cn cc) := by rw [blk_cell k1]; rfl
  have x3 : w1.cell? ⟨w.heap.size, 3, none⟩ = some (.int .i64 sx) := by rw [blk_cell k1]; rfl
  have x4 : w1.cell? ⟨w.heap.size, 4, none⟩ = some (.string st) := by rw [blk_cell k1]; rfl
  clear b1 k1 hc
  go_enter Tryz.func133, Tryz.ntmps133
  go_upto_region 1 with (fail)
  rw [← hw1]; clear hw1
  by_cases g1 : fr < 0
  · have hr := HN.out (by omega)
    have d1 : decide (fr < 0) = true := by simpa using g1
    subst hr; clear g1
    go_wp2_with fail
    go_ret
    exact ⟨rfl, B1.out⟩
  have d1 : decide (fr < 0) = false := by simpa using g1
  by_cases g2 : 16 ≤ fr
  · have hr := HN.out (by omega)
    have d2 : decide (16 ≤ fr) = true := by simpa using g2
    subst hr; clear g1 g2
    go_wp2_with fail
    go_ret
    exact ⟨rfl, B1.out⟩
  have d2 : decide (16 ≤ fr) = false := by simpa using g2
  by_cases g3 : v < 1
  · have hr := HN.out (by omega)
    have d3 : decide (v < 1) = true := by simpa using g3
    subst hr; clear g1 g2 g3
    go_wp2_with fail
    go_ret
    exact ⟨rfl, B1.out⟩
  have d3 : decide (v < 1) = false := by simpa using g3
  by_cases g4 : 15 < v
  · have hr := HN.out (by omega)
    have d4 : decide (15 < v) = true := by simpa using g4
    subst hr; clear g1 g2 g3 g4
    go_wp2_with fail
    go_ret
    exact ⟨rfl, B1.out⟩
  have d4 : decide (15 < v) = false := by simpa using g4
  by_cases g5 : (4 : Int) < (cn : Int)
  · have hr := HN.out (by omega)
    have d5 : decide ((4 : Int) < (cn : Int)) = true := by simpa using g5
    subst hr; clear g1 g2 g3 g4 g5
    go_wp2_with fail
    go_ret
    exact ⟨rfl, B1.out⟩
  have d5 : decide ((4 : Int) < (cn : Int)) = false := by simpa using g5
  have HG := Lib.hid (show 0 ≤ fr ∧ fr < 16 ∧ 1 ≤ v ∧ v ≤ 15 ∧ ce.length ≤ 4 by omega)
  obtain ⟨w2, hw2⟩ : ∃ u, u = w1.alloc (.cells #[.int .i64 sx, .string st] 84 (0, 0)) := ⟨_, rfl⟩
  have b2 : Below w1.heap.size w1 w2 := by rw [hw2]; exact below_alloc _ _
  have k2 : w2.heap[w1.heap.size]? = some (.cells #[.int .i64 sx, .string st] 84 (0, 0)) := by rw [hw2]; exact blk_alloc _ _
  have CS := Lib.hid (rsigs13_any _ _ _ _ _ (sl_sig1 hs ht k2))
  rw [sigsB_one] at CS
  have B2 := Lib.hid (bthen B1.out b2); have KW := Lib.hid (fun w3 (hb : Below w2.heap.size w2 w3) => blk_below K1.out (bthen b2 hb)); have HCW := Lib.hid (fun w3 (hb : Below w2.heap.size w2 w3) => HC1.out.old (bthen b2 hb)); clear g1 g2 g3 g4 g5 b2 k2
  go_wp2_with fail
  rw [← hw2]; clear hw2
  refine CS.out.mono ?_
  rintro r w3 ⟨rfl, b3⟩
  have B3 := Lib.hid (bthen B2.out b3); have HC3 := Lib.hid (HCW.out w3 b3); have k3 := KW.out w3 b3; have K3 := Lib.hid k3; clear x0 x1 x2 x3 x4 b3 k3 KW HCW B2 B1 HC1 K1 CS
  cases hb : byB (sx, st)
  · have hr := HN.out (by simp [hb])
    subst hr; clear hb
    go_wp2_with fail
    go_ret
    exact ⟨rfl, B3.out⟩
  have hR := HY.out ⟨HG.out.1, HG.out.2.1, HG.out.2.2.1, HG.out.2.2.2.1, HG.out.2.2.2.2, hb⟩; clear hb HG HN HY d1 d2 d3 d4 d5
  go_wp2_with fail
  go_loopw [5] (fun i wr => ∃ k : Nat, k ≤ cn ∧ i = .int .i64 k ∧ Hid (R = certsR e (prevS ce k) (ce.drop k)) ∧ Hid (Below w3.heap.size w3 wr)) (fun i _ => cn - (intOf i).toNat)
  case atStart => exact ⟨0, by omega, rfl, Lib.hid (by rw [hR]; rfl), Lib.hid (Below.refl _ _)⟩
  case round =>
    obtain ⟨k, hk, rfl, HK, HW⟩ := hrel; clear hR; have kr := blk_below K3.out HW.out
    have y2 : wr.cell? ⟨w.heap.size, 2, none⟩ = some (.slice ca cn cc) := by rw [blk_cell kr]; rfl
    have lK := blk_lt kr; clear kr
    by_cases hlt : k < cn
    · have hd : decide ((k : Int) < (cn : Int)) = true := by simp; omega
      obtain ⟨bb, o, ⟨yv, ys, ⟨qc, qs, qk, qt, qb, qi⟩, sg⟩, sa, sn, sc, rfl, hy, z0, z1, z2, z3, z4, z5, z6, z7, z8, hyv, hys, hq, hsg⟩ := cert_cells (HC3.out.old HW.out) hlt
      dsimp only at z0 z1 z2 z3 z4 z5 z6 z7 z8 hyv hys hsg
      have HST := Lib.hid (certsR_step (e := e) (p := prevS ce k) hy); have HPN := Lib.hid (prev_next hy); have HF := Lib.hid (show certR e (prevS ce k) _ = false → R = false from fun h => by rw [HK.out, HST.out, h]; rfl); have HT := Lib.hid (show certR e (prevS ce k) _ = true → R = certsR e (prevS ce (k + 1)) (ce.drop (k + 1)) from fun h => by rw [HK.out, HST.out, h, HPN.out]; rfl)
      have hj0 : (0 : Int) ≤ (k : Int) := by omega
      have hj1 : (k : Int) < (cn : Int) := by omega
      have lbz := World.block_lt z0
      obtain ⟨w4, hw4⟩ : ∃ u, u = wr.alloc (.cells #[.int .i64 yv, .int .i64 ys, .int .i64 qc, .int .i64 qs, .int .i64 qk, .string qt, .float .f64 qb, .int .i64 qi, .slice sa sn sc] 144 (0, 0)) := ⟨_, rfl⟩
      have b4 : Below wr.heap.size wr w4 := by rw [hw4]; exact below_alloc _ _
      have k4 : w4.heap[wr.heap.size]? = some (.cells #[.int .i64 yv, .int .i64 ys, .int .i64 qc, .int .i64 qs, .int .i64 qk, .string qt, .float .f64 qb, .int .i64 qi, .slice sa sn sc] 144 (0, 0)) := by rw [hw4]; exact blk_alloc _ _
      have B4 := Lib.hid (bthen B3.out (bthen HW.out b4)); have B4' := Lib.hid (bthen HW.out b4)
      have CO := fun w' => rof_any e ys w'
      have CA := fun w' => rasked_any ⟨qc, qs, qk, qt, qb, qi⟩ hq w'
      simp only [Rq.v] at CA
      have CG := fun (w' : World) (hb : Below w4.heap.size w4 w') => rsigs13_any sa sn sc sg w' (hsg.old (bthen b4 hb))
      have HPV := Lib.hid (show 0 < k → ∃ x : Ce, ce[k - 1]? = some x ∧ w4.cell? ⟨bb, o + (k - 1) * 9 + 1, none⟩ = some (.int .i64 x.s) from fun hk0 => by
        obtain ⟨b', o', x, _, _, _, he, hx, _, u1, _⟩ := cert_cells (HC3.out.old HW.out) (i := k - 1) (by omega)
        obtain ⟨rfl, rfl⟩ : bb = b' ∧ o = o' := by simpa using he
        exact ⟨x, hx, below_cell b4 u1⟩)
      have ya : w4.cell? ⟨wr.heap.size, 0, none⟩ = some (.int .i64 yv) := by rw [blk_cell k4]; rfl
      have yb : w4.cell? ⟨wr.heap.size, 1, none⟩ = some (.int .i64 ys) := by rw [blk_cell k4]; rfl
      have yc : w4.cell? ⟨wr.heap.size, 2, none⟩ = some (.int .i64 qc) := by rw [blk_cell k4]; rfl
      have yd : w4.cell? ⟨wr.heap.size, 3, none⟩ = some (.int .i64 qs) := by rw [blk_cell k4]; rfl
      have ye : w4.cell? ⟨wr.heap.size, 4, none⟩ = some (.int .i64 qk) := by rw [blk_cell k4]; rfl
      have yf : w4.cell? ⟨wr.heap.size, 5, none⟩ = some (.string qt) := by rw [blk_cell k4]; rfl
      have yg : w4.cell? ⟨wr.heap.size, 6, none⟩ = some (.float .f64 qb) := by rw [blk_cell k4]; rfl
      have yh : w4.cell? ⟨wr.heap.size, 7, none⟩ = some (.int .i64 qi) := by rw [blk_cell k4]; rfl
      have yi : w4.cell? ⟨wr.heap.size, 8, none⟩ = some (.slice sa sn sc) := by rw [blk_cell k4]; rfl
      have l4 := World.block_lt ya; have yy2 := below_cell b4 y2; have lK4 := World.block_lt yy2; have lbz4 := Nat.lt_of_lt_of_le lbz b4.size; clear k4 b4 hsg hq hy
      go_upto_region 7 with (fail)
      rw [← hw4]; clear hw4 z0 z1 z2 z3 z4 z5 z6 z7 z8 y2 lK lbz
      by_cases hk0 : k = 0
      · have dk : decide ((0 : Int) < (k : Int)) = false := by simp; omega
        cases hof : ofR e ys
        · rw [hof] at CO
          have hr := HF.out (crtR_no (fun h => by have h1 := h.1; dsimp only at h1; rw [hof] at h1; cases h1)); clear hof; have CO := Lib.hid CO; have CA := Lib.hid CA; have CG := Lib.hid CG; clear HT HK
          go_wp2_with fail
          refine wp_region_below (by kernel_rfl) (by kernel_rfl) ?_
          repeat (refine wpQuiet_step (fun K hK => ?_); go_simp; first | (refine hK _ ?_; clear hK K) | (apply Exists.intro; refine ⟨fun w' hw' => ?_, hK _ ?_⟩; (first | (go_at_call 85; exact Calls.quiet_below_same hw' (CO.out _)) | (go_at_call 89; exact Calls.quiet_below hw' (CA.out _)) | (go_at_call 94; exact Calls.quiet_below hw' (CG.out _ hw')) | (with_reducible rfl) | (obtain ⟨cc, dd⟩ := bcell hw'; go_simp; rfl)); clear hK K))
          refine wpQuiet_nil ?_
          intro w7 h7; have B7 := Lib.hid (bthen B4.out h7); clear h7 ya yb yc yd ye yf yg yh yi yy2 l4 lK4 lbz4 CO CA CG
          go_wp2_with fail
          go_ret
          exact ⟨by rw [hr]; rfl, B7.out⟩
        rw [hof] at CO
        have HPR := Lib.hid (show ∀ z, prevS ce k = some z → z < ys from fun z hz => by
          unfold prevS at hz
          rw [if_pos hk0] at hz
          cases hz)
        by_cases c2 : yv < 0
        · have hr := HF.out (crtR_no (fun h => absurd h.2.2.1 (by dsimp only; omega)))
          have dc2 : decide (yv < 0) = true := by simpa using c2
          clear c2 hof; have CO := Lib.hid CO; have CA := Lib.hid CA; have CG := Lib.hid CG; clear HT HK
          go_wp2_with fail
          refine wp_region_below (by kernel_rfl) (by kernel_rfl) ?_
          repeat (refine wpQuiet_step (fun K hK => ?_); go_simp; first | (refine hK _ ?_; clear hK K) | (apply Exists.intro; refine ⟨fun w' hw' => ?_, hK _ ?_⟩; (first | (go_at_call 85; exact Calls.quiet_below_same hw' (CO.out _)) | (go_at_call 89; exact Calls.quiet_below hw' (CA.out _)) | (go_at_call 94; exact Calls.quiet_below hw' (CG.out _ hw')) | (with_reducible rfl) | (obtain ⟨cc, dd⟩ := bcell hw'; go_simp; rfl)); clear hK K))
          refine wpQuiet_nil ?_
          intro w7 h7; have B7 := Lib.hid (bthen B4.out h7); clear h7 ya yb yc yd ye yf yg yh yi yy2 l4 lK4 lbz4 CO CA CG
          go_wp2_with fail
          go_ret
          exact ⟨by rw [hr]; rfl, B7.out⟩
        have dc2 : decide (yv < 0) = false := by simpa using c2
        by_cases c3 : 15 < yv
        · have hr := HF.out (crtR_no (fun h => absurd h.2.2.2.1 (by dsimp only; omega)))
          have dc3 : decide (15 < yv) = true := by simpa using c3
          clear c2 c3 hof; have CO := Lib.hid CO; have CA := Lib.hid CA; have CG := Lib.hid CG; clear HT HK
          go_wp2_with fail
          refine wp_region_below (by kernel_rfl) (by kernel_rfl) ?_
          repeat (refine wpQuiet_step (fun K hK => ?_); go_simp; first | (refine hK _ ?_; clear hK K) | (apply Exists.intro; refine ⟨fun w' hw' => ?_, hK _ ?_⟩; (first | (go_at_call 85; exact Calls.quiet_below_same hw' (CO.out _)) | (go_at_call 89; exact Calls.quiet_below hw' (CA.out _)) | (go_at_call 94; exact Calls.quiet_below hw' (CG.out _ hw')) | (with_reducible rfl) | (obtain ⟨cc, dd⟩ := bcell hw'; go_simp; rfl)); clear hK K))
          refine wpQuiet_nil ?_
          intro w7 h7; have B7 := Lib.hid (bthen B4.out h7); clear h7 ya yb yc yd ye yf yg yh yi yy2 l4 lK4 lbz4 CO CA CG
          go_wp2_with fail
          go_ret
          exact ⟨by rw [hr]; rfl, B7.out⟩
        have dc3 : decide (15 < yv) = false := by simpa using c3
        have HP := Lib.hid (show 0 ≤ yv ∧ yv ≤ 15 from ⟨by omega, by omega⟩); have HO := Lib.hid hof; clear c2 c3 hof
        cases hak : askB ⟨qc, qs, qk, qt, qb, qi⟩
        · rw [hak] at CA
          have hr := HF.out (crtR_no (fun h => by have h1 := h.2.2.2.2.1; dsimp only at h1; rw [hak] at h1; cases h1)); clear hak; have CO := Lib.hid CO; have CA := Lib.hid CA; have CG := Lib.hid CG; clear HT HK
          go_wp2_with fail
          refine wp_region_below (by kernel_rfl) (by kernel_rfl) ?_
          repeat (refine wpQuiet_step (fun K hK => ?_); go_simp; first | (refine hK _ ?_; clear hK K) | (apply Exists.intro; refine ⟨fun w' hw' => ?_, hK _ ?_⟩; (first | (go_at_call 85; exact Calls.quiet_below_same hw' (CO.out _)) | (go_at_call 89; exact Calls.quiet_below hw' (CA.out _)) | (go_at_call 94; exact Calls.quiet_below hw' (CG.out _ hw')) | (with_reducible rfl) | (obtain ⟨cc, dd⟩ := bcell hw'; go_simp; rfl)); clear hK K))
          refine wpQuiet_nil ?_
          intro w7 h7; have B7 := Lib.hid (bthen B4.out h7); clear h7 ya yb yc yd ye yf yg yh yi yy2 l4 lK4 lbz4 CO CA CG
          go_wp2_with fail
          go_ret
          exact ⟨by rw [hr]; rfl, B7.out⟩
        rw [hak] at CA
        cases hsb : sigsB sg
        · rw [hsb] at CG
          have hr := HF.out (crtR_no (fun h => by have h1 := h.2.2.2.2.2; dsimp only at h1; rw [hsb] at h1; cases h1)); clear hak hsb; have CO := Lib.hid CO; have CA := Lib.hid CA; have CG := Lib.hid CG; clear HT HK
          go_wp2_with fail
          refine wp_region_below (by kernel_rfl) (by kernel_rfl) ?_
          repeat (refine wpQuiet_step (fun K hK => ?_); go_simp; first | (refine hK _ ?_; clear hK K) | (apply Exists.intro; refine ⟨fun w' hw' => ?_, hK _ ?_⟩; (first | (go_at_call 85; exact Calls.quiet_below_same hw' (CO.out _)) | (go_at_call 89; exact Calls.quiet_below hw' (CA.out _)) | (go_at_call 94; exact Calls.quiet_below hw' (CG.out _ hw')) | (with_reducible rfl) | (obtain ⟨cc, dd⟩ := bcell hw'; go_simp; rfl)); clear hK K))
          refine wpQuiet_nil ?_
          intro w7 h7; have B7 := Lib.hid (bthen B4.out h7); clear h7 ya yb yc yd ye yf yg yh yi yy2 l4 lK4 lbz4 CO CA CG
          go_wp2_with fail
          go_ret
          exact ⟨by rw [hr]; rfl, B7.out⟩
        rw [hsb] at CG
        have HR := Lib.hid (HT.out (crtR_yes ⟨HO.out, HPR.out, HP.out.1, HP.out.2, hak, hsb⟩)); have CO := Lib.hid CO; have CA := Lib.hid CA; have CG := Lib.hid CG; clear hak hsb HT HK HF HST
        go_wp2_with fail
        refine wp_region_below (by kernel_rfl) (by kernel_rfl) ?_
        repeat (refine wpQuiet_step (fun K hK => ?_); go_simp; first | (refine hK _ ?_; clear hK K) | (apply Exists.intro; refine ⟨fun w' hw' => ?_, hK _ ?_⟩; (first | (go_at_call 85; exact Calls.quiet_below_same hw' (CO.out _)) | (go_at_call 89; exact Calls.quiet_below hw' (CA.out _)) | (go_at_call 94; exact Calls.quiet_below hw' (CG.out _ hw')) | (with_reducible rfl) | (obtain ⟨cc, dd⟩ := bcell hw'; go_simp; rfl)); clear hK K))
        refine wpQuiet_nil ?_
        intro w7 h7; have B7 := Lib.hid (bthen B4'.out h7); clear h7 ya yb yc yd ye yf yg yh yi yy2 l4 lK4 lbz4 CO CA CG  dc2 dc3
        go_wp2_with fail
        go_roundw
        case rel => exact ⟨k + 1, by omega, by go_num, HR, B7⟩
        case measure => simp [intOf]; omega
      · have dk : decide ((0 : Int) < (k : Int)) = true := by simp; omega
        obtain ⟨x, hx, pz⟩ := HPV.out (by omega); have lpz := World.block_lt pz; have hwr : IntKind.i64.wrap ((k : Int) - 1) = (k : Int) - 1 := IntWalk.i64_in _ (by omega)
        have hk2 : 0 < k := by omega
        have g1 : (0 : Int) ≤ (k : Int) - 1 := by omega
        have g2 : (1 : Int) ≤ (k : Int) := by omega
        have g3 : (k : Int) - 1 < (cn : Int) := by omega
        cases hof : ofR e ys
        · rw [hof] at CO
          have hr := HF.out (crtR_no (fun h => by have h1 := h.1; dsimp only at h1; rw [hof] at h1; cases h1)); clear hof; have CO := Lib.hid CO; have CA := Lib.hid CA; have CG := Lib.hid CG; clear HT HK
          go_wp2_with fail
          refine wp_region_below (by kernel_rfl) (by kernel_rfl) ?_
          repeat (refine wpQuiet_step (fun K hK => ?_); go_simp; first | (refine hK _ ?_; clear hK K) | (apply Exists.intro; refine ⟨fun w' hw' => ?_, hK _ ?_⟩; (first | (go_at_call 85; exact Calls.quiet_below_same hw' (CO.out _)) | (go_at_call 89; exact Calls.quiet_below hw' (CA.out _)) | (go_at_call 94; exact Calls.quiet_below hw' (CG.out _ hw')) | (with_reducible rfl) | (obtain ⟨cc, dd⟩ := bcell hw'; go_simp; rfl)); clear hK K))
          refine wpQuiet_nil ?_
          intro w7 h7; have B7 := Lib.hid (bthen B4.out h7); clear h7 ya yb yc yd ye yf yg yh yi yy2 l4 lK4 lbz4 CO CA CG pz lpz
          go_wp2_with fail
          go_ret
          exact ⟨by rw [hr]; rfl, B7.out⟩
        rw [hof] at CO
        by_cases c1 : ys ≤ x.s
        · have hr := HF.out (crtR_no (fun h => absurd (h.2.1 x.s (by unfold prevS; rw [if_neg (by omega), hx]; rfl)) (by dsimp only; omega)))
          have dc1 : decide (ys ≤ x.s) = true := by simpa using c1
          clear c1 hof hx; have CO := Lib.hid CO; have CA := Lib.hid CA; have CG := Lib.hid CG; clear HT HK
          go_wp2_with fail
          refine wp_region_below (by kernel_rfl) (by kernel_rfl) ?_
          repeat (refine wpQuiet_step (fun K hK => ?_); go_simp; first | (refine hK _ ?_; clear hK K) | (apply Exists.intro; refine ⟨fun w' hw' => ?_, hK _ ?_⟩; (first | (go_at_call 85; exact Calls.quiet_below_same hw' (CO.out _)) | (go_at_call 89; exact Calls.quiet_below hw' (CA.out _)) | (go_at_call 94; exact Calls.quiet_below hw' (CG.out _ hw')) | (with_reducible rfl) | (obtain ⟨cc, dd⟩ := bcell hw'; go_simp; rfl)); clear hK K))
          refine wpQuiet_nil ?_
          intro w7 h7; have B7 := Lib.hid (bthen B4.out h7); clear h7 ya yb yc yd ye yf yg yh yi yy2 l4 lK4 lbz4 CO CA CG pz lpz
          go_wp2_with fail
          go_ret
          exact ⟨by rw [hr]; rfl, B7.out⟩
        have dc1 : decide (ys ≤ x.s) = false := by simpa using c1
        have HPR := Lib.hid (show ∀ z, prevS ce k = some z → z < ys from fun z hz => by
          unfold prevS at hz
          rw [if_neg (by omega), hx] at hz
          have hz : x.s = z := by simpa using hz
          rw [← hz]
          omega)
        clear c1 hx
        by_cases c2 : yv < 0
        · have hr := HF.out (crtR_no (fun h => absurd h.2.2.1 (by dsimp only; omega)))
          have dc2 : decide (yv < 0) = true := by simpa using c2
          clear c2 hof; have CO := Lib.hid CO; have CA := Lib.hid CA; have CG := Lib.hid CG; clear HT HK
          go_wp2_with fail
          refine wp_region_below (by kernel_rfl) (by kernel_rfl) ?_
          repeat (refine wpQuiet_step (fun K hK => ?_); go_simp; first | (refine hK _ ?_; clear hK K) | (apply Exists.intro; refine ⟨fun w' hw' => ?_, hK _ ?_⟩; (first | (go_at_call 85; exact Calls.quiet_below_same hw' (CO.out _)) | (go_at_call 89; exact Calls.quiet_below hw' (CA.out _)) | (go_at_call 94; exact Calls.quiet_below hw' (CG.out _ hw')) | (with_reducible rfl) | (obtain ⟨cc, dd⟩ := bcell hw'; go_simp; rfl)); clear hK K))
          refine wpQuiet_nil ?_
          intro w7 h7; have B7 := Lib.hid (bthen B4.out h7); clear h7 ya yb yc yd ye yf yg yh yi yy2 l4 lK4 lbz4 CO CA CG pz lpz
          go_wp2_with fail
          go_ret
          exact ⟨by rw [hr]; rfl, B7.out⟩
        have dc2 : decide (yv < 0) = false := by simpa using c2
        by_cases c3 : 15 < yv
        · have hr := HF.out (crtR_no (fun h => absurd h.2.2.2.1 (by dsimp only; omega)))
          have dc3 : decide (15 < yv) = true := by simpa using c3
          clear c2 c3 hof; have CO := Lib.hid CO; have CA := Lib.hid CA; have CG := Lib.hid CG; clear HT HK
          go_wp2_with fail
          refine wp_region_below (by kernel_rfl) (by kernel_rfl) ?_
          repeat (refine wpQuiet_step (fun K hK => ?_); go_simp; first | (refine hK _ ?_; clear hK K) | (apply Exists.intro; refine ⟨fun w' hw' => ?_, hK _ ?_⟩; (first | (go_at_call 85; exact Calls.quiet_below_same hw' (CO.out _)) | (go_at_call 89; exact Calls.quiet_below hw' (CA.out _)) | (go_at_call 94; exact Calls.quiet_below hw' (CG.out _ hw')) | (with_reducible rfl) | (obtain ⟨cc, dd⟩ := bcell hw'; go_simp; rfl)); clear hK K))
          refine wpQuiet_nil ?_
          intro w7 h7; have B7 := Lib.hid (bthen B4.out h7); clear h7 ya yb yc yd ye yf yg yh yi yy2 l4 lK4 lbz4 CO CA CG pz lpz
          go_wp2_with fail
          go_ret
          exact ⟨by rw [hr]; rfl, B7.out⟩
        have dc3 : decide (15 < yv) = false := by simpa using c3
        have HP := Lib.hid (show 0 ≤ yv ∧ yv ≤ 15 from ⟨by omega, by omega⟩); have HO := Lib.hid hof; clear c2 c3 hof
        cases hak : askB ⟨qc, qs, qk, qt, qb, qi⟩
        · rw [hak] at CA
          have hr := HF.out (crtR_no (fun h => by have h1 := h.2.2.2.2.1; dsimp only at h1; rw [hak] at h1; cases h1)); clear hak; have CO := Lib.hid CO; have CA := Lib.hid CA; have CG := Lib.hid CG; clear HT HK
          go_wp2_with fail
          refine wp_region_below (by kernel_rfl) (by kernel_rfl) ?_
          repeat (refine wpQuiet_step (fun K hK => ?_); go_simp; first | (refine hK _ ?_; clear hK K) | (apply Exists.intro; refine ⟨fun w' hw' => ?_, hK _ ?_⟩; (first | (go_at_call 85; exact Calls.quiet_below_same hw' (CO.out _)) | (go_at_call 89; exact Calls.quiet_below hw' (CA.out _)) | (go_at_call 94; exact Calls.quiet_below hw' (CG.out _ hw')) | (with_reducible rfl) | (obtain ⟨cc, dd⟩ := bcell hw'; go_simp; rfl)); clear hK K))
          refine wpQuiet_nil ?_
          intro w7 h7; have B7 := Lib.hid (bthen B4.out h7); clear h7 ya yb yc yd ye yf yg yh yi yy2 l4 lK4 lbz4 CO CA CG pz lpz
          go_wp2_with fail
          go_ret
          exact ⟨by rw [hr]; rfl, B7.out⟩
        rw [hak] at CA
        cases hsb : sigsB sg
        · rw [hsb] at CG
          have hr := HF.out (crtR_no (fun h => by have h1 := h.2.2.2.2.2; dsimp only at h1; rw [hsb] at h1; cases h1)); clear hak hsb; have CO := Lib.hid CO; have CA := Lib.hid CA; have CG := Lib.hid CG; clear HT HK
          go_wp2_with fail
          refine wp_region_below (by kernel_rfl) (by kernel_rfl) ?_
          repeat (refine wpQuiet_step (fun K hK => ?_); go_simp; first | (refine hK _ ?_; clear hK K) | (apply Exists.intro; refine ⟨fun w' hw' => ?_, hK _ ?_⟩; (first | (go_at_call 85; exact Calls.quiet_below_same hw' (CO.out _)) | (go_at_call 89; exact Calls.quiet_below hw' (CA.out _)) | (go_at_call 94; exact Calls.quiet_below hw' (CG.out _ hw')) | (with_reducible rfl) | (obtain ⟨cc, dd⟩ := bcell hw'; go_simp; rfl)); clear hK K))
          refine wpQuiet_nil ?_
          intro w7 h7; have B7 := Lib.hid (bthen B4.out h7); clear h7 ya yb yc yd ye yf yg yh yi yy2 l4 lK4 lbz4 CO CA CG pz lpz
          go_wp2_with fail
          go_ret
          exact ⟨by rw [hr]; rfl, B7.out⟩
        rw [hsb] at CG
        have HR := Lib.hid (HT.out (crtR_yes ⟨HO.out, HPR.out, HP.out.1, HP.out.2, hak, hsb⟩)); have CO := Lib.hid CO; have CA := Lib.hid CA; have CG := Lib.hid CG; clear hak hsb HT HK HF HST
        go_wp2_with fail
        refine wp_region_below (by kernel_rfl) (by kernel_rfl) ?_
        repeat (refine wpQuiet_step (fun K hK => ?_); go_simp; first | (refine hK _ ?_; clear hK K) | (apply Exists.intro; refine ⟨fun w' hw' => ?_, hK _ ?_⟩; (first | (go_at_call 85; exact Calls.quiet_below_same hw' (CO.out _)) | (go_at_call 89; exact Calls.quiet_below hw' (CA.out _)) | (go_at_call 94; exact Calls.quiet_below hw' (CG.out _ hw')) | (with_reducible rfl) | (obtain ⟨cc, dd⟩ := bcell hw'; go_simp; rfl)); clear hK K))
        refine wpQuiet_nil ?_
        intro w7 h7; have B7 := Lib.hid (bthen B4'.out h7); clear h7 ya yb yc yd ye yf yg yh yi yy2 l4 lK4 lbz4 CO CA CG pz lpz dc2 dc3 dc1
        go_wp2_with fail
        go_roundw
        case rel => exact ⟨k + 1, by omega, by go_num, HR, B7⟩
        case measure => simp [intOf]; omega
    · have hd : decide ((k : Int) < (cn : Int)) = false := by simp; omega
      have hr : R = true := by
        rw [HK.out, List.drop_of_length_le (by omega)]
        rfl
      go_wp2_with fail
      go_ret
      exact ⟨by rw [hr]; rfl, (bthen B3.out HW.out)⟩
end Go.Proofs.YtijeieamodjgbaaGreat
/- Wire: walk of the reference's changes. (printed by mkWtd.py) -/
namespace Go.Proofs.YtijeieamodjgbaaGreat
set_option maxRecDepth 100000
open Go.RowKit Go.Deep
attribute [local irreducible] wpQuiet
set_option linter.unusedVariables false
set_option linter.unusedSimpArgs false
attribute [local go_sem] run_store_float
def chR (e view : Int) (p : Option Int) (c : Ch) : Bool := changeR e c && decide (c.v = view) && (p.all fun z => decide (z < c.fr))
def changesR (e view : Int) : Option Int → List Ch → Bool
  | _, [] => true
  | p, c :: r => chR e view p c && changesR e view (some c.fr) r
def prevF (l : List Ch) (k : Nat) : Option Int := if k = 0 then none else (l[k - 1]?).map (·.fr)
theorem prevF_next {l : List Ch} {k : Nat} {y : Ch} (hy : l[k]? = some y) : prevF l (k + 1) = some y.fr := by
  unfold prevF
  rw [if_neg (by omega), Nat.add_sub_cancel, hy]
  rfl
theorem changesR_step {e view : Int} {p : Option Int} {l : List Ch} {k : Nat} {y : Ch} (hy : l[k]? = some y) : changesR e view p (l.drop k) = (chR e view p y && changesR e view (some y.fr) (l.drop (k + 1))) := by
  rw [List.drop_eq_getElem_cons (List.getElem?_eq_some_iff.1 hy).1, (List.getElem?_eq_some_iff.1 hy).2]
  rfl
theorem chR_iff {e view : Int} {p : Option Int} {y : Ch} : chR e view p y = true ↔ changeR e y = true ∧ y.v = view ∧ ∀ z, p = some z → z < y.fr := by
  unfold chR
  simp only [Bool.and_eq_true, decide_eq_true_eq]
  constructor
  · rintro ⟨⟨h1, h2⟩, h3⟩
    exact ⟨h1, h2, fun z hz => by rw [hz] at h3; simpa using h3⟩
  · rintro ⟨h1, h2, h3⟩
    refine ⟨⟨h1, h2⟩, ?_⟩
    cases p with
    | none => rfl
    | some z => simpa using h3 z rfl
theorem chR_no {e view : Int} {p : Option Int} {y : Ch} (h : ¬ (changeR e y = true ∧ y.v = view ∧ ∀ z, p = some z → z < y.fr)) : chR e view p y = false := by
  rw [Bool.eq_false_iff]
  exact fun hh => h (chR_iff.1 hh)
theorem changesR_some {e view : Int} (he : 0 ≤ e ∧ e ≤ 60) : ∀ (z : Int) (l : List Ch), changesR e view (some z) l = changesB e view z l
  | _, [] => rfl
  | z, c :: r => by
    show (chR e view (some z) c && changesR e view (some c.fr) r) = (decide (c.v = view) && decide (z < c.fr) && changeB e c && changesB e view c.fr r)
    rw [changesR_some he c.fr r]
    unfold chR
    rw [changeR_in he]
    show (changeB e c && decide (c.v = view) && decide (z < c.fr) && _) = _
    cases changeB e c <;> cases decide (c.v = view) <;> cases decide (z < c.fr) <;> rfl
theorem changesR_none {e view : Int} (he : 0 ≤ e ∧ e ≤ 60) (l : List Ch) : changesR e view none l = changesB e view (-1) l := by
  cases l with
  | nil => rfl
  | cons c r =>
    show (chR e view none c && changesR e view (some c.fr) r) = (decide (c.v = view) && decide ((-1 : Int) < c.fr) && changeB e c && changesB e view c.fr r)
    rw [changesR_some he c.fr r]
    unfold chR
    rw [changeR_in he]
    show (changeB e c && decide (c.v = view) && true && _) = _
    cases h : changeB e c with
    | false => cases decide (c.v = view) <;> cases decide ((-1 : Int) < c.fr) <;> rfl
    | true =>
      have h1 : decide ((-1 : Int) < c.fr) = true := by
        simp only [changeB, Bool.and_eq_true, decide_eq_true_eq] at h
        simp only [decide_eq_true_eq]
        omega
      rw [h1]
      cases decide (c.v = view) <;> rfl
set_option maxHeartbeats 4000000 in
theorem rchanges13_any (e view : Int) (a : Option Addr) (n c : Nat) (l : List Ch) (w : World) (hv : i64 view) (hm : SlAt shChange w a n c l) :
    Calls Tryz.prog 91 #[.int .i64 e, .int .i64 view, .slice a n c] w fun r w' => r = .returned (.bool (changesR e view none l)) ∧ Below w.heap.size w w' := by
  have hlen := hm.len; have hcap := hm.cap; have hmax := hm.max; have HM := Lib.hid hm
  obtain ⟨R, hR⟩ : ∃ R, R = changesR e view none l := ⟨_, rfl⟩
  rw [← hR]; clear hm
  go_enter Tryz.func91, Tryz.ntmps91
  go_wp2_with fail
  go_loopw [7] (fun i wr => ∃ k : Nat, k ≤ n ∧ i = .int .i64 k ∧ Hid (R = changesR e view (prevF l k) (l.drop k)) ∧ Hid (Below w.heap.size w wr)) (fun i _ => n - (intOf i).toNat)
  case atStart => exact ⟨0, by omega, rfl, Lib.hid (by rw [hR]; rfl), Lib.hid (Below.refl _ _)⟩
  case round =>
    obtain ⟨k, hk, rfl, HK, HW⟩ := hrel; clear hR
    by_cases hlt : k < n
    · have hd : decide ((k : Int) < (n : Int)) = true := by simp; omega
      obtain ⟨bb, o, ⟨fr, v, ce, sx, st⟩, sa, sn, sc, rfl, hy, c0, c1, c2, c3, c4, hy1, hy2, hce, hs1, hs2⟩ := change_cells (HM.out.old HW.out) hlt
      dsimp only at c0 c1 c2 c3 c4 hy1 hy2 hce hs1 hs2
      have HST := Lib.hid (changesR_step (e := e) (view := view) (p := prevF l k) hy); have HPN := Lib.hid (prevF_next hy); have HF := Lib.hid (show chR e view (prevF l k) _ = false → R = false from fun h => by rw [HK.out, HST.out, h]; rfl); have HT := Lib.hid (show chR e view (prevF l k) _ = true → R = changesR e view (prevF l (k + 1)) (l.drop (k + 1)) from fun h => by rw [HK.out, HST.out, h, HPN.out]; rfl)
      have hj0 : (0 : Int) ≤ (k : Int) := by omega
      have hj1 : (k : Int) < (n : Int) := by omega
      have lb := World.block_lt c0
      have CC := fun (w' : World) (hb : Below wr.heap.size wr w') => rchange13_any e ⟨fr, v, ce, sx, st⟩ sa sn sc w' hy1 hy2 (hce.old hb) hs1 hs2
      dsimp only at CC
      have HPV := Lib.hid (show 0 < k → ∃ x : Ch, l[k - 1]? = some x ∧ wr.cell? ⟨bb, o + (k - 1) * 5, none⟩ = some (.int .i64 x.fr) from fun hk0 => by
        obtain ⟨b', o', x, _, _, _, he, hx, u0, _⟩ := change_cells (HM.out.old HW.out) (i := k - 1) (by omega)
        obtain ⟨rfl, rfl⟩ : bb = b' ∧ o = o' := by simpa using he
        exact ⟨x, hx, u0⟩)
      clear hce hy
      cases hch : changeR e ⟨fr, v, ce, sx, st⟩
      · rw [hch] at CC
        have hr := HF.out (chR_no (fun h => by have h1 := h.1; rw [hch] at h1; cases h1)); clear hch; have CC := Lib.hid CC; clear HT HK
        go_wp2_with fail
        refine wp_region_below (by kernel_rfl) (by kernel_rfl) ?_
        repeat (refine wpQuiet_step (fun K hK => ?_); go_simp; first | (refine hK _ ?_; clear hK K) | (apply Exists.intro; refine ⟨fun w' hw' => ?_, hK _ ?_⟩; (first | (go_at_call 133; exact Calls.quiet_below hw' (CC.out _ hw')) | (with_reducible rfl) | (obtain ⟨cc, dd⟩ := bcell hw'; go_simp; rfl)); clear hK K))
        refine wpQuiet_nil ?_
        intro w7 h7; have B7 := Lib.hid (bthen HW.out h7); clear h7 c0 c1 c2 c3 c4 CC
        go_wp2_with fail
        go_ret
        exact ⟨by first | rfl | (rw [hr]; rfl), B7.out⟩
      rw [hch] at CC
      have HC := Lib.hid hch; clear hch
      by_cases g2 : ¬ v = view
      · have hr := HF.out (chR_no (fun h => g2 h.2.1))
        have d2 : (v != view) = true := by simpa using g2
        clear g2; have CC := Lib.hid CC; clear HT HK
        go_wp2_with fail
        refine wp_region_below (by kernel_rfl) (by kernel_rfl) ?_
        repeat (refine wpQuiet_step (fun K hK => ?_); go_simp; first | (refine hK _ ?_; clear hK K) | (apply Exists.intro; refine ⟨fun w' hw' => ?_, hK _ ?_⟩; (first | (go_at_call 133; exact Calls.quiet_below hw' (CC.out _ hw')) | (with_reducible rfl) | (obtain ⟨cc, dd⟩ := bcell hw'; go_simp; rfl)); clear hK K))
        refine wpQuiet_nil ?_
        intro w7 h7; have B7 := Lib.hid (bthen HW.out h7); clear h7 c0 c1 c2 c3 c4 CC
        go_wp2_with fail
        go_ret
        exact ⟨by first | rfl | (rw [hr]; rfl), B7.out⟩
      replace g2 := Classical.not_not.1 g2
      have d2 : (v != view) = false := by simpa using g2
      by_cases hk0 : k = 0
      · have dk : decide ((0 : Int) < (k : Int)) = false := by simp; omega
        have HPR := Lib.hid (show ∀ z, prevF l k = some z → z < fr from fun z hz => by
          unfold prevF at hz
          rw [if_pos hk0] at hz
          cases hz)
        have dkn : decide (0 < k) = false := by simp; omega
        clear hk0; have HR := Lib.hid (HT.out (chR_iff.2 ⟨HC.out, g2, HPR.out⟩)); have CC := Lib.hid CC; clear HT HK HF HST g2
        go_wp2_with fail
        refine wp_region_below (by kernel_rfl) (by kernel_rfl) ?_
        repeat (refine wpQuiet_step (fun K hK => ?_); go_simp; first | (refine hK _ ?_; clear hK K) | (apply Exists.intro; refine ⟨fun w' hw' => ?_, hK _ ?_⟩; (first | (go_at_call 133; exact Calls.quiet_below hw' (CC.out _ hw')) | (with_reducible rfl) | (obtain ⟨cc, dd⟩ := bcell hw'; go_simp; rfl)); clear hK K))
        refine wpQuiet_nil ?_
        intro w7 h7; have B7 := Lib.hid (bthen HW.out h7); clear h7 c0 c1 c2 c3 c4 CC dk d2 dkn
        go_wp2_with fail
        go_roundw
        case rel => exact ⟨k + 1, by omega, by go_num, HR, B7⟩
        case measure => simp [intOf]; omega
      have dk : decide ((0 : Int) < (k : Int)) = true := by simp; omega
      obtain ⟨x, hx, pz⟩ := HPV.out (by omega)
      have hk2 : 0 < k := by omega
      have hwr : IntKind.i64.wrap ((k : Int) - 1) = (k : Int) - 1 := IntWalk.i64_in _ (by omega)
      have g1 : (0 : Int) ≤ (k : Int) - 1 := by omega
      have g3 : (1 : Int) ≤ (k : Int) := by omega
      have g4 : (k : Int) - 1 < (n : Int) := by omega
      by_cases q1 : fr ≤ x.fr
      · have hr := HF.out (chR_no (fun h => absurd (h.2.2 x.fr (by unfold prevF; rw [if_neg hk0, hx]; rfl)) (by dsimp only; omega)))
        have dq : decide (fr ≤ x.fr) = true := by simpa using q1
        clear q1 hx g2; have CC := Lib.hid CC; clear HT HK
        go_wp2_with fail
        refine wp_region_below (by kernel_rfl) (by kernel_rfl) ?_
        repeat (refine wpQuiet_step (fun K hK => ?_); go_simp; first | (refine hK _ ?_; clear hK K) | (apply Exists.intro; refine ⟨fun w' hw' => ?_, hK _ ?_⟩; (first | (go_at_call 133; exact Calls.quiet_below hw' (CC.out _ hw')) | (with_reducible rfl) | (obtain ⟨cc, dd⟩ := bcell hw'; go_simp; rfl)); clear hK K))
        refine wpQuiet_nil ?_
        intro w7 h7; have B7 := Lib.hid (bthen HW.out h7); clear h7 c0 c1 c2 c3 c4 CC pz
        go_wp2_with fail
        go_ret
        exact ⟨by first | rfl | (rw [hr]; rfl), B7.out⟩
      have dq : decide (fr ≤ x.fr) = false := by simpa using q1
      have HPR := Lib.hid (show ∀ z, prevF l k = some z → z < fr from fun z hz => by
        unfold prevF at hz
        rw [if_neg hk0, hx] at hz
        have hz : x.fr = z := by simpa using hz
        rw [← hz]
        omega)
      clear q1 hx; have HR := Lib.hid (HT.out (chR_iff.2 ⟨HC.out, g2, HPR.out⟩)); have CC := Lib.hid CC; clear HT HK HF HST g2
      go_wp2_with fail
      refine wp_region_below (by kernel_rfl) (by kernel_rfl) ?_
      repeat (refine wpQuiet_step (fun K hK => ?_); go_simp; first | (refine hK _ ?_; clear hK K) | (apply Exists.intro; refine ⟨fun w' hw' => ?_, hK _ ?_⟩; (first | (go_at_call 133; exact Calls.quiet_below hw' (CC.out _ hw')) | (with_reducible rfl) | (obtain ⟨cc, dd⟩ := bcell hw'; go_simp; rfl)); clear hK K))
      refine wpQuiet_nil ?_
      intro w7 h7; have B7 := Lib.hid (bthen HW.out h7); clear h7 c0 c1 c2 c3 c4 CC pz dk d2 dq
      go_wp2_with fail
      go_roundw
      case rel => exact ⟨k + 1, by omega, by go_num, HR, B7⟩
      case measure => simp [intOf]; omega
    · have hd : decide ((k : Int) < (n : Int)) = false := by simp; omega
      have hr : R = true := by
        rw [HK.out, List.drop_of_length_le (by omega)]
        rfl
      go_wp2_with fail
      go_ret
      exact ⟨by first | rfl | (rw [hr]; rfl), HW.out⟩
end Go.Proofs.YtijeieamodjgbaaGreat
