
/- Wire: walks of the reference's Change and changes. (printed by mkWtc.py) -/
import Derived.Test.YtijeieamodjgbaaWta
namespace Go.Proofs.Ytijeieamodjgbaa
set_option maxRecDepth 100000
open Go.RowKit Go.Deep
attribute [local irreducible] wpQuiet
set_option linter.unusedVariables false
set_option linter.unusedSimpArgs false
attribute [local go_sem] run_store_float

/-- Evidence as the reference reads it, whatever the epoch. -/
def certR (e : Int) (p : Option Int) (x : Ce) : Bool := ofR e x.s && (p.all fun z => decide (z < x.s)) && decide (0 ≤ x.v) && decide (x.v ≤ 15) && askB x.q && sigsB x.sg
def certsR (e : Int) : Option Int → List Ce → Bool
  | _, [] => true
  | p, x :: r => certR e p x && certsR e (some x.s) r
def prevS (l : List Ce) (k : Nat) : Option Int := if k = 0 then none else (l[k - 1]?).map (·.s)
theorem prev_next {l : List Ce} {k : Nat} {y : Ce} (hy : l[k]? = some y) : prevS l (k + 1) = some y.s := by
  unfold prevS
  rw [if_neg (by omega), Nat.add_sub_cancel, hy]
  rfl
theorem certsR_step {e : Int} {p : Option Int} {l : List Ce} {k : Nat} {y : Ce} (hy : l[k]? = some y) : certsR e p (l.drop k) = (certR e p y && certsR e (some y.s) (l.drop (k + 1))) := by
  rw [List.drop_eq_getElem_cons (List.getElem?_eq_some_iff.1 hy).1, (List.getElem?_eq_some_iff.1 hy).2]
  rfl
theorem crtR_no {e : Int} {p : Option Int} {y : Ce} (h : ¬ (ofR e y.s = true ∧ (∀ z, p = some z → z < y.s) ∧ 0 ≤ y.v ∧ y.v ≤ 15 ∧ askB y.q = true ∧ sigsB y.sg = true)) : certR e p y = false := by
  rw [Bool.eq_false_iff]
  intro hh
  simp only [certR, Bool.and_eq_true, decide_eq_true_eq] at hh
  refine h ⟨hh.1.1.1.1.1, fun z hz => ?_, hh.1.1.1.2, hh.1.1.2, hh.1.2, hh.2⟩
  have h1 := hh.1.1.1.1.2
  rw [hz] at h1
  simpa using h1
theorem crtR_yes {e : Int} {p : Option Int} {y : Ce} (h : ofR e y.s = true ∧ (∀ z, p = some z → z < y.s) ∧ 0 ≤ y.v ∧ y.v ≤ 15 ∧ askB y.q = true ∧ sigsB y.sg = true) : certR e p y = true := by
  unfold certR
  have h1 : (p.all fun z => decide (z < y.s)) = true := by
    cases p with
    | none => rfl
    | some z => simpa using h.2.1 z rfl
  simp [h.1, h1, h.2.2.1, h.2.2.2.1, h.2.2.2.2.1, h.2.2.2.2.2]
def changeR (e : Int) (c : Ch) : Bool := decide (0 ≤ c.fr) && decide (c.fr < 16) && decide (1 ≤ c.v) && decide (c.v ≤ 15) && decide (c.ce.length ≤ 4) && byB c.sg && certsR e none c.ce
theorem chgR_fr {e : Int} {y : Ch} (h : ¬ (0 ≤ y.fr ∧ y.fr < 16 ∧ 1 ≤ y.v ∧ y.v ≤ 15 ∧ y.ce.length ≤ 4 ∧ byB y.sg = true)) : changeR e y = false := by
  rw [Bool.eq_false_iff]
  intro hh
  simp only [changeR, Bool.and_eq_true, decide_eq_true_eq] at hh
  exact h ⟨hh.1.1.1.1.1.1, hh.1.1.1.1.1.2, hh.1.1.1.1.2, hh.1.1.1.2, hh.1.1.2, hh.1.2⟩
theorem chgR_in {e : Int} {y : Ch} (h : 0 ≤ y.fr ∧ y.fr < 16 ∧ 1 ≤ y.v ∧ y.v ≤ 15 ∧ y.ce.length ≤ 4 ∧ byB y.sg = true) : changeR e y = certsR e none y.ce := by
  unfold changeR
  simp [h.1, h.2.1, h.2.2.1, h.2.2.2.1, h.2.2.2.2.1, h.2.2.2.2.2]
theorem certsR_some {e : Int} (he : 0 ≤ e ∧ e ≤ 60) : ∀ (z : Int) (l : List Ce), certsR e (some z) l = certsB e z l
  | _, [] => rfl
  | z, x :: r => by
    show (certR e (some z) x && certsR e (some x.s) r) = (certB e z x && certsB e x.s r)
    rw [certsR_some he x.s r]
    unfold certR certB
    rw [ofR_in he]
    rfl
theorem certsR_none {e : Int} (he : 0 ≤ e ∧ e ≤ 60) (l : List Ce) : certsR e none l = certsB e 0 l := by
  cases l with
  | nil => rfl
  | cons x r =>
    show (certR e none x && certsR e (some x.s) r) = (certB e 0 x && certsB e x.s r)
    rw [certsR_some he x.s r]
    unfold certR certB
    rw [ofR_in he]
    cases h : ofB e x.s with
    | false => rfl
    | true =>
      have h1 : decide ((0 : Int) < x.s) = true := by
        simp only [ofB, Bool.and_eq_true, decide_eq_true_eq] at h
        simp only [decide_eq_true_eq]
        omega
      rw [h1]
      rfl
theorem changeR_in {e : Int} (he : 0 ≤ e ∧ e ≤ 60) (c : Ch) : changeR e c = changeB e c := by
  unfold changeR changeB
  rw [certsR_none he]
set_option maxHeartbeats 4000000 in
theorem rchange13_any (e : Int) (y : Ch) (ca : Option Addr) (cn cc : Nat) (w : World) (hf : i64 y.fr) (hv : i64 y.v) (hc : SlAt shCert w ca cn cc y.ce) (hs : i64 y.sg.1) (ht : y.sg.2.size ≤ 1125899906842624) :
    Calls Try.prog 135 #[.int .i64 e, .agg #[.int .i64 y.fr, .int .i64 y.v, .slice ca cn cc, .int .i64 y.sg.1, .string y.sg.2]] w fun r w' => r = .returned (.bool (changeR e y)) ∧ Below w.heap.size w w' := by
  have hlen := hc.len
  have hcap := hc.cap
  have hmax := hc.max
  have HN := Lib.hid (fun h => chgR_fr (e := e) (y := y) h)
  have HY := Lib.hid (fun h => chgR_in (e := e) (y := y) h)
  generalize changeR e y = R at HN HY ⊢
  obtain ⟨fr, v, ce, sx, st⟩ := y
  dsimp only at *
  obtain ⟨w1, hw1⟩ : ∃ u, u = w.alloc (.cells #[.int .i64 fr, .int .i64 v, .slice ca cn cc, .int .i64 sx, .string st] 106 (0, 0)) := ⟨_, rfl⟩
  have b1 : Below w.heap.size w w1 := by rw [hw1]; exact below_alloc _ _
  have k1 : w1.heap[w.heap.size]? = some (.cells #[.int .i64 fr, .int .i64 v, .slice ca cn cc, .int .i64 sx, .string st] 106 (0, 0)) := by rw [hw1]; exact blk_alloc _ _
  have HC1 := Lib.hid (hc.old b1)
  have B1 := Lib.hid b1; have K1 := Lib.hid k1
  have x0 : w1.cell? ⟨w.heap.size, 0, none⟩ = some (.int .i64 fr) := by rw [blk_cell k1]; rfl
  have x1 : w1.cell? ⟨w.heap.size, 1, none⟩ = some (.int .i64 v) := by rw [blk_cell k1]; rfl
  have x2 : w1.cell? ⟨w.heap.size, 2, none⟩ = some (.slice ca cn cc) := by rw [blk_cell k1]; rfl
  have x3 : w1.cell? ⟨w.heap.size, 3, none⟩ = some (.int .i64 sx) := by rw [blk_cell k1]; rfl
  have x4 : w1.cell? ⟨w.heap.size, 4, none⟩ = some (.string st) := by rw [blk_cell k1]; rfl
  clear b1 k1 hc
  go_enter Try.func135, Try.ntmps135
  go_upto_region 1 with (fail)
  rw [← hw1]
  clear hw1
  by_cases g1 : fr < 0
  · have hr := HN.out (by omega)
    have d1 : decide (fr < 0) = true := by simpa using g1
    subst hr; clear g1
    go_wp2_with fail
    go_ret
    exact ⟨rfl, B1.out⟩
  have d1 : decide (fr < 0) = false := by simpa using g1
  by_cases g2 : 16 ≤ fr
  · have hr := HN.out (by omega)
    have d2 : decide (16 ≤ fr) = true := by simpa using g2
    subst hr; clear g1 g2
    go_wp2_with fail
    go_ret
    exact ⟨rfl, B1.out⟩
  have d2 : decide (16 ≤ fr) = false := by simpa using g2
  by_cases g3 : v < 1
  · have hr := HN.out (by omega)
    have d3 : decide (v < 1) = true := by simpa using g3
    subst hr; clear g1 g2 g3
    go_wp2_with fail
    go_ret
    exact ⟨rfl, B1.out⟩
  have d3 : decide (v < 1) = false := by simpa using g3
  by_cases g4 : 15 < v
  · have hr := HN.out (by omega)
    have d4 : decide (15 < v) = true := by simpa using g4
    subst hr; clear g1 g2 g3 g4
    go_wp2_with fail
    go_ret
    exact ⟨rfl, B1.out⟩
  have d4 : decide (15 < v) = false := by simpa using g4
  by_cases g5 : (4 : Int) < (cn : Int)
  · have hr := HN.out (by omega)
    have d5 : decide ((4 : Int) < (cn : Int)) = true := by simpa using g5
    subst hr; clear g1 g2 g3 g4 g5
    go_wp2_with fail
    go_ret
    exact ⟨rfl, B1.out⟩
  have d5 : decide ((4 : Int) < (cn : Int)) = false := by simpa using g5
  have HG := Lib.hid (show 0 ≤ fr ∧ fr < 16 ∧ 1 ≤ v ∧ v ≤ 15 ∧ ce.length ≤ 4 by omega)
  obtain ⟨w2, hw2⟩ : ∃ u, u = w1.alloc (.cells #[.int .i64 sx, .string st] 49 (0, 0)) := ⟨_, rfl⟩
  have b2 : Below w1.heap.size w1 w2 := by rw [hw2]; exact below_alloc _ _
  have k2 : w2.heap[w1.heap.size]? = some (.cells #[.int .i64 sx, .string st] 49 (0, 0)) := by rw [hw2]; exact blk_alloc _ _
  have CS := Lib.hid (rsigs13_any _ _ _ _ _ (sl_sig1 hs ht k2))
  rw [sigsB_one] at CS
  have B2 := Lib.hid (bthen B1.out b2)
  have KW := Lib.hid (fun w3 (hb : Below w2.heap.size w2 w3) => blk_below K1.out (bthen b2 hb))
  have HCW := Lib.hid (fun w3 (hb : Below w2.heap.size w2 w3) => HC1.out.old (bthen b2 hb))
  clear g1 g2 g3 g4 g5 b2 k2
  go_wp2_with fail
  rw [← hw2]
  clear hw2
  refine CS.out.mono ?_
  rintro r w3 ⟨rfl, b3⟩
  have B3 := Lib.hid (bthen B2.out b3)
  have HC3 := Lib.hid (HCW.out w3 b3)
  have k3 := KW.out w3 b3
  have K3 := Lib.hid k3
  clear x0 x1 x2 x3 x4 b3 k3 KW HCW B2 B1 HC1 K1 CS
  cases hb : byB (sx, st)
  · have hr := HN.out (by simp [hb])
    subst hr; clear hb
    go_wp2_with fail
    go_ret
    exact ⟨rfl, B3.out⟩
  have hR := HY.out ⟨HG.out.1, HG.out.2.1, HG.out.2.2.1, HG.out.2.2.2.1, HG.out.2.2.2.2, hb⟩
  clear hb HG HN HY d1 d2 d3 d4 d5
  go_wp2_with fail
  go_loopw [5] (fun i wr => ∃ k : Nat, k ≤ cn ∧ i = .int .i64 k ∧ Hid (R = certsR e (prevS ce k) (ce.drop k)) ∧ Hid (Below w3.heap.size w3 wr)) (fun i _ => cn - (intOf i).toNat)
  case atStart => exact ⟨0, by omega, rfl, Lib.hid (by rw [hR]; rfl), Lib.hid (Below.refl _ _)⟩
  case round =>
    obtain ⟨k, hk, rfl, HK, HW⟩ := hrel
    clear hR
    have kr := blk_below K3.out HW.out
    have y2 : wr.cell? ⟨w.heap.size, 2, none⟩ = some (.slice ca cn cc) := by rw [blk_cell kr]; rfl
    have lK := blk_lt kr
    clear kr
    by_cases hlt : k < cn
    · have hd : decide ((k : Int) < (cn : Int)) = true := by simp; omega
      obtain ⟨bb, o, ⟨yv, ys, ⟨qc, qs, qk, qt, qb, qi⟩, sg⟩, sa, sn, sc, rfl, hy, z0, z1, z2, z3, z4, z5, z6, z7, z8, hyv, hys, hq, hsg⟩ := cert_cells (HC3.out.old HW.out) hlt
      dsimp only at z0 z1 z2 z3 z4 z5 z6 z7 z8 hyv hys hsg
      have HST := Lib.hid (certsR_step (e := e) (p := prevS ce k) hy)
      have HPN := Lib.hid (prev_next hy)
      have HF := Lib.hid (show certR e (prevS ce k) _ = false → R = false from fun h => by rw [HK.out, HST.out, h]; rfl)
      have HT := Lib.hid (show certR e (prevS ce k) _ = true → R = certsR e (prevS ce (k + 1)) (ce.drop (k + 1)) from fun h => by rw [HK.out, HST.out, h, HPN.out]; rfl)
      have hj0 : (0 : Int) ≤ (k : Int) := by omega
      have hj1 : (k : Int) < (cn : Int) := by omega
      have lbz := World.block_lt z0
      obtain ⟨w4, hw4⟩ : ∃ u, u = wr.alloc (.cells #[.int .i64 yv, .int .i64 ys, .int .i64 qc, .int .i64 qs, .int .i64 qk, .string qt, .float .f64 qb, .int .i64 qi, .slice sa sn sc] 118 (0, 0)) := ⟨_, rfl⟩
      have b4 : Below wr.heap.size wr w4 := by rw [hw4]; exact below_alloc _ _
      have k4 : w4.heap[wr.heap.size]? = some (.cells #[.int .i64 yv, .int .i64 ys, .int .i64 qc, .int .i64 qs, .int .i64 qk, .string qt, .float .f64 qb, .int .i64 qi, .slice sa sn sc] 118 (0, 0)) := by rw [hw4]; exact blk_alloc _ _
      have B4 := Lib.hid (bthen B3.out (bthen HW.out b4))
      have B4' := Lib.hid (bthen HW.out b4)
      have CO := fun w' => rof_any e ys w'
      have CA := fun w' => rasked_any ⟨qc, qs, qk, qt, qb, qi⟩ hq w'
      simp only [Rq.v] at CA
      have CG := fun (w' : World) (hb : Below w4.heap.size w4 w') => rsigs13_any sa sn sc sg w' (hsg.old (bthen b4 hb))
      have HPV := Lib.hid (show 0 < k → ∃ x : Ce, ce[k - 1]? = some x ∧ w4.cell? ⟨bb, o + (k - 1) * 9 + 1, none⟩ = some (.int .i64 x.s) from fun hk0 => by
        obtain ⟨b', o', x, _, _, _, he, hx, _, u1, _⟩ := cert_cells (HC3.out.old HW.out) (i := k - 1) (by omega)
        obtain ⟨rfl, rfl⟩ : bb = b' ∧ o = o' := by simpa using he
        exact ⟨x, hx, below_cell b4 u1⟩)
      have ya : w4.cell? ⟨wr.heap.size, 0, none⟩ = some (.int .i64 yv) := by rw [blk_cell k4]; rfl
      have yb : w4.cell? ⟨wr.heap.size, 1, none⟩ = some (.int .i64 ys) := by rw [blk_cell k4]; rfl
      have yc : w4.cell? ⟨wr.heap.size, 2, none⟩ = some (.int .i64 qc) := by rw [blk_cell k4]; rfl
      have yd : w4.cell? ⟨wr.heap.size, 3, none⟩ = some (.int .i64 qs) := by rw [blk_cell k4]; rfl
      have ye : w4.cell? ⟨wr.heap.size, 4, none⟩ = some (.int .i64 qk) := by rw [blk_cell k4]; rfl
      have yf : w4.cell? ⟨wr.heap.size, 5, none⟩ = some (.string qt) := by rw [blk_cell k4]; rfl
      have yg : w4.cell? ⟨wr.heap.size, 6, none⟩ = some (.float .f64 qb) := by rw [blk_cell k4]; rfl
      have yh : w4.cell? ⟨wr.heap.size, 7, none⟩ = some (.int .i64 qi) := by rw [blk_cell k4]; rfl
      have yi : w4.cell? ⟨wr.heap.size, 8, none⟩ = some (.slice sa sn sc) := by rw [blk_cell k4]; rfl
      have l4 := World.block_lt ya
      have yy2 := below_cell b4 y2
      have lK4 := World.block_lt yy2
      have lbz4 := Nat.lt_of_lt_of_le lbz b4.size
      clear k4 b4 hsg hq hy
      go_upto_region 7 with (fail)
      rw [← hw4]
      clear hw4 z0 z1 z2 z3 z4 z5 z6 z7 z8 y2 lK lbz
      by_cases hk0 : k = 0
      · have dk : decide ((0 : Int) < (k : Int)) = false := by simp; omega
        cases hof : ofR e ys
        · rw [hof] at CO
          have hr := HF.out (crtR_no (fun h => by have h1 := h.1; dsimp only at h1; rw [hof] at h1; cases h1))
          clear hof
          have CO := Lib.hid CO; have CA := Lib.hid CA; have CG := Lib.hid CG
          clear HT HK
          go_wp2_with fail
          refine wp_region_below (by kernel_rfl) (by kernel_rfl) ?_
          repeat (refine wpQuiet_step (fun K hK => ?_); go_simp; first | (refine hK _ ?_; clear hK K) | (apply Exists.intro; refine ⟨fun w' hw' => ?_, hK _ ?_⟩; (first | (go_at_call 81; exact Calls.quiet_below_same hw' (CO.out _)) | (go_at_call 85; exact Calls.quiet_below hw' (CA.out _)) | (go_at_call 89; exact Calls.quiet_below hw' (CG.out _ hw')) | (with_reducible rfl) | (obtain ⟨cc, dd⟩ := bcell hw'; go_simp; rfl)); clear hK K))
          refine wpQuiet_nil ?_
          intro w7 h7
          have B7 := Lib.hid (bthen B4.out h7)
          clear h7 ya yb yc yd ye yf yg yh yi yy2 l4 lK4 lbz4 CO CA CG 
          go_wp2_with fail
          go_ret
          exact ⟨by rw [hr]; rfl, B7.out⟩
        rw [hof] at CO
        have HPR := Lib.hid (show ∀ z, prevS ce k = some z → z < ys from fun z hz => by
          unfold prevS at hz
          rw [if_pos hk0] at hz
          cases hz)
        by_cases c2 : yv < 0
        · have hr := HF.out (crtR_no (fun h => absurd h.2.2.1 (by dsimp only; omega)))
          have dc2 : decide (yv < 0) = true := by simpa using c2
          clear c2 hof
          have CO := Lib.hid CO; have CA := Lib.hid CA; have CG := Lib.hid CG
          clear HT HK
          go_wp2_with fail
          refine wp_region_below (by kernel_rfl) (by kernel_rfl) ?_
          repeat (refine wpQuiet_step (fun K hK => ?_); go_simp; first | (refine hK _ ?_; clear hK K) | (apply Exists.intro; refine ⟨fun w' hw' => ?_, hK _ ?_⟩; (first | (go_at_call 81; exact Calls.quiet_below_same hw' (CO.out _)) | (go_at_call 85; exact Calls.quiet_below hw' (CA.out _)) | (go_at_call 89; exact Calls.quiet_below hw' (CG.out _ hw')) | (with_reducible rfl) | (obtain ⟨cc, dd⟩ := bcell hw'; go_simp; rfl)); clear hK K))
          refine wpQuiet_nil ?_
          intro w7 h7
          have B7 := Lib.hid (bthen B4.out h7)
          clear h7 ya yb yc yd ye yf yg yh yi yy2 l4 lK4 lbz4 CO CA CG 
          go_wp2_with fail
          go_ret
          exact ⟨by rw [hr]; rfl, B7.out⟩
        have dc2 : decide (yv < 0) = false := by simpa using c2
        by_cases c3 : 15 < yv
        · have hr := HF.out (crtR_no (fun h => absurd h.2.2.2.1 (by dsimp only; omega)))
          have dc3 : decide (15 < yv) = true := by simpa using c3
          clear c2 c3 hof
          have CO := Lib.hid CO; have CA := Lib.hid CA; have CG := Lib.hid CG
          clear HT HK
          go_wp2_with fail
          refine wp_region_below (by kernel_rfl) (by kernel_rfl) ?_
          repeat (refine wpQuiet_step (fun K hK => ?_); go_simp; first | (refine hK _ ?_; clear hK K) | (apply Exists.intro; refine ⟨fun w' hw' => ?_, hK _ ?_⟩; (first | (go_at_call 81; exact Calls.quiet_below_same hw' (CO.out _)) | (go_at_call 85; exact Calls.quiet_below hw' (CA.out _)) | (go_at_call 89; exact Calls.quiet_below hw' (CG.out _ hw')) | (with_reducible rfl) | (obtain ⟨cc, dd⟩ := bcell hw'; go_simp; rfl)); clear hK K))
          refine wpQuiet_nil ?_
          intro w7 h7
          have B7 := Lib.hid (bthen B4.out h7)
          clear h7 ya yb yc yd ye yf yg yh yi yy2 l4 lK4 lbz4 CO CA CG 
          go_wp2_with fail
          go_ret
          exact ⟨by rw [hr]; rfl, B7.out⟩
        have dc3 : decide (15 < yv) = false := by simpa using c3
        have HP := Lib.hid (show 0 ≤ yv ∧ yv ≤ 15 from ⟨by omega, by omega⟩)
        have HO := Lib.hid hof
        clear c2 c3 hof
        cases hak : askB ⟨qc, qs, qk, qt, qb, qi⟩
        · rw [hak] at CA
          have hr := HF.out (crtR_no (fun h => by have h1 := h.2.2.2.2.1; dsimp only at h1; rw [hak] at h1; cases h1))
          clear hak
          have CO := Lib.hid CO; have CA := Lib.hid CA; have CG := Lib.hid CG
          clear HT HK
          go_wp2_with fail
          refine wp_region_below (by kernel_rfl) (by kernel_rfl) ?_
          repeat (refine wpQuiet_step (fun K hK => ?_); go_simp; first | (refine hK _ ?_; clear hK K) | (apply Exists.intro; refine ⟨fun w' hw' => ?_, hK _ ?_⟩; (first | (go_at_call 81; exact Calls.quiet_below_same hw' (CO.out _)) | (go_at_call 85; exact Calls.quiet_below hw' (CA.out _)) | (go_at_call 89; exact Calls.quiet_below hw' (CG.out _ hw')) | (with_reducible rfl) | (obtain ⟨cc, dd⟩ := bcell hw'; go_simp; rfl)); clear hK K))
          refine wpQuiet_nil ?_
          intro w7 h7
          have B7 := Lib.hid (bthen B4.out h7)
          clear h7 ya yb yc yd ye yf yg yh yi yy2 l4 lK4 lbz4 CO CA CG 
          go_wp2_with fail
          go_ret
          exact ⟨by rw [hr]; rfl, B7.out⟩
        rw [hak] at CA
        cases hsb : sigsB sg
        · rw [hsb] at CG
          have hr := HF.out (crtR_no (fun h => by have h1 := h.2.2.2.2.2; dsimp only at h1; rw [hsb] at h1; cases h1))
          clear hak hsb
          have CO := Lib.hid CO; have CA := Lib.hid CA; have CG := Lib.hid CG
          clear HT HK
          go_wp2_with fail
          refine wp_region_below (by kernel_rfl) (by kernel_rfl) ?_
          repeat (refine wpQuiet_step (fun K hK => ?_); go_simp; first | (refine hK _ ?_; clear hK K) | (apply Exists.intro; refine ⟨fun w' hw' => ?_, hK _ ?_⟩; (first | (go_at_call 81; exact Calls.quiet_below_same hw' (CO.out _)) | (go_at_call 85; exact Calls.quiet_below hw' (CA.out _)) | (go_at_call 89; exact Calls.quiet_below hw' (CG.out _ hw')) | (with_reducible rfl) | (obtain ⟨cc, dd⟩ := bcell hw'; go_simp; rfl)); clear hK K))
          refine wpQuiet_nil ?_
          intro w7 h7
          have B7 := Lib.hid (bthen B4.out h7)
          clear h7 ya yb yc yd ye yf yg yh yi yy2 l4 lK4 lbz4 CO CA CG 
          go_wp2_with fail
          go_ret
          exact ⟨by rw [hr]; rfl, B7.out⟩
        rw [hsb] at CG
        have HR := Lib.hid (HT.out (crtR_yes ⟨HO.out, HPR.out, HP.out.1, HP.out.2, hak, hsb⟩))
        have CO := Lib.hid CO; have CA := Lib.hid CA; have CG := Lib.hid CG
        clear hak hsb HT HK HF HST
        go_wp2_with fail
        refine wp_region_below (by kernel_rfl) (by kernel_rfl) ?_
        repeat (refine wpQuiet_step (fun K hK => ?_); go_simp; first | (refine hK _ ?_; clear hK K) | (apply Exists.intro; refine ⟨fun w' hw' => ?_, hK _ ?_⟩; (first | (go_at_call 81; exact Calls.quiet_below_same hw' (CO.out _)) | (go_at_call 85; exact Calls.quiet_below hw' (CA.out _)) | (go_at_call 89; exact Calls.quiet_below hw' (CG.out _ hw')) | (with_reducible rfl) | (obtain ⟨cc, dd⟩ := bcell hw'; go_simp; rfl)); clear hK K))
        refine wpQuiet_nil ?_
        intro w7 h7
        have B7 := Lib.hid (bthen B4'.out h7)
        clear h7 ya yb yc yd ye yf yg yh yi yy2 l4 lK4 lbz4 CO CA CG  dc2 dc3 
        go_wp2_with fail
        go_roundw
        case rel => exact ⟨k + 1, by omega, by go_num, HR, B7⟩
        case measure => simp [intOf]; omega
      · have dk : decide ((0 : Int) < (k : Int)) = true := by simp; omega
        obtain ⟨x, hx, pz⟩ := HPV.out (by omega)
        have lpz := World.block_lt pz
        have hwr : IntKind.i64.wrap ((k : Int) - 1) = (k : Int) - 1 := IntWalk.i64_in _ (by omega)
        have hk2 : 0 < k := by omega
        have g1 : (0 : Int) ≤ (k : Int) - 1 := by omega
        have g2 : (1 : Int) ≤ (k : Int) := by omega
        have g3 : (k : Int) - 1 < (cn : Int) := by omega
        cases hof : ofR e ys
        · rw [hof] at CO
          have hr := HF.out (crtR_no (fun h => by have h1 := h.1; dsimp only at h1; rw [hof] at h1; cases h1))
          clear hof
          have CO := Lib.hid CO; have CA := Lib.hid CA; have CG := Lib.hid CG
          clear HT HK
          go_wp2_with fail
          refine wp_region_below (by kernel_rfl) (by kernel_rfl) ?_
          repeat (refine wpQuiet_step (fun K hK => ?_); go_simp; first | (refine hK _ ?_; clear hK K) | (apply Exists.intro; refine ⟨fun w' hw' => ?_, hK _ ?_⟩; (first | (go_at_call 81; exact Calls.quiet_below_same hw' (CO.out _)) | (go_at_call 85; exact Calls.quiet_below hw' (CA.out _)) | (go_at_call 89; exact Calls.quiet_below hw' (CG.out _ hw')) | (with_reducible rfl) | (obtain ⟨cc, dd⟩ := bcell hw'; go_simp; rfl)); clear hK K))
          refine wpQuiet_nil ?_
          intro w7 h7
          have B7 := Lib.hid (bthen B4.out h7)
          clear h7 ya yb yc yd ye yf yg yh yi yy2 l4 lK4 lbz4 CO CA CG pz lpz
          go_wp2_with fail
          go_ret
          exact ⟨by rw [hr]; rfl, B7.out⟩
        rw [hof] at CO
        by_cases c1 : ys ≤ x.s
        · have hr := HF.out (crtR_no (fun h => absurd (h.2.1 x.s (by unfold prevS; rw [if_neg (by omega), hx]; rfl)) (by dsimp only; omega)))
          have dc1 : decide (ys ≤ x.s) = true := by simpa using c1
          clear c1 hof hx
          have CO := Lib.hid CO; have CA := Lib.hid CA; have CG := Lib.hid CG
          clear HT HK
          go_wp2_with fail
          refine wp_region_below (by kernel_rfl) (by kernel_rfl) ?_
          repeat (refine wpQuiet_step (fun K hK => ?_); go_simp; first | (refine hK _ ?_; clear hK K) | (apply Exists.intro; refine ⟨fun w' hw' => ?_, hK _ ?_⟩; (first | (go_at_call 81; exact Calls.quiet_below_same hw' (CO.out _)) | (go_at_call 85; exact Calls.quiet_below hw' (CA.out _)) | (go_at_call 89; exact Calls.quiet_below hw' (CG.out _ hw')) | (with_reducible rfl) | (obtain ⟨cc, dd⟩ := bcell hw'; go_simp; rfl)); clear hK K))
          refine wpQuiet_nil ?_
          intro w7 h7
          have B7 := Lib.hid (bthen B4.out h7)
          clear h7 ya yb yc yd ye yf yg yh yi yy2 l4 lK4 lbz4 CO CA CG pz lpz
          go_wp2_with fail
          go_ret
          exact ⟨by rw [hr]; rfl, B7.out⟩
        have dc1 : decide (ys ≤ x.s) = false := by simpa using c1
        have HPR := Lib.hid (show ∀ z, prevS ce k = some z → z < ys from fun z hz => by
          unfold prevS at hz
          rw [if_neg (by omega), hx] at hz
          have hz : x.s = z := by simpa using hz
          rw [← hz]
          omega)
        clear c1 hx
        by_cases c2 : yv < 0
        · have hr := HF.out (crtR_no (fun h => absurd h.2.2.1 (by dsimp only; omega)))
          have dc2 : decide (yv < 0) = true := by simpa using c2
          clear c2 hof
          have CO := Lib.hid CO; have CA := Lib.hid CA; have CG := Lib.hid CG
          clear HT HK
          go_wp2_with fail
          refine wp_region_below (by kernel_rfl) (by kernel_rfl) ?_
          repeat (refine wpQuiet_step (fun K hK => ?_); go_simp; first | (refine hK _ ?_; clear hK K) | (apply Exists.intro; refine ⟨fun w' hw' => ?_, hK _ ?_⟩; (first | (go_at_call 81; exact Calls.quiet_below_same hw' (CO.out _)) | (go_at_call 85; exact Calls.quiet_below hw' (CA.out _)) | (go_at_call 89; exact Calls.quiet_below hw' (CG.out _ hw')) | (with_reducible rfl) | (obtain ⟨cc, dd⟩ := bcell hw'; go_simp; rfl)); clear hK K))
          refine wpQuiet_nil ?_
          intro w7 h7
          have B7 := Lib.hid (bthen B4.out h7)
          clear h7 ya yb yc yd ye yf yg yh yi yy2 l4 lK4 lbz4 CO CA CG pz lpz
          go_wp2_with fail
          go_ret
          exact ⟨by rw [hr]; rfl, B7.out⟩
        have dc2 : decide (yv < 0) = false := by simpa using c2
        by_cases c3 : 15 < yv
        · have hr := HF.out (crtR_no (fun h => absurd h.2.2.2.1 (by dsimp only; omega)))
          have dc3 : decide (15 < yv) = true := by simpa using c3
          clear c2 c3 hof
          have CO := Lib.hid CO; have CA := Lib.hid CA; have CG := Lib.hid CG
          clear HT HK
          go_wp2_with fail
          refine wp_region_below (by kernel_rfl) (by kernel_rfl) ?_
          repeat (refine wpQuiet_step (fun K hK => ?_); go_simp; first | (refine hK _ ?_; clear hK K) | (apply Exists.intro; refine ⟨fun w' hw' => ?_, hK _ ?_⟩; (first | (go_at_call 81; exact Calls.quiet_below_same hw' (CO.out _)) | (go_at_call 85; exact Calls.quiet_below hw' (CA.out _)) | (go_at_call 89; exact Calls.quiet_below hw' (CG.out _ hw')) | (with_reducible rfl) | (obtain ⟨cc, dd⟩ := bcell hw'; go_simp; rfl)); clear hK K))
          refine wpQuiet_nil ?_
          intro w7 h7
          have B7 := Lib.hid (bthen B4.out h7)
          clear h7 ya yb yc yd ye yf yg yh yi yy2 l4 lK4 lbz4 CO CA CG pz lpz
          go_wp2_with fail
          go_ret
          exact ⟨by rw [hr]; rfl, B7.out⟩
        have dc3 : decide (15 < yv) = false := by simpa using c3
        have HP := Lib.hid (show 0 ≤ yv ∧ yv ≤ 15 from ⟨by omega, by omega⟩)
        have HO := Lib.hid hof
        clear c2 c3 hof
        cases hak : askB ⟨qc, qs, qk, qt, qb, qi⟩
        · rw [hak] at CA
          have hr := HF.out (crtR_no (fun h => by have h1 := h.2.2.2.2.1; dsimp only at h1; rw [hak] at h1; cases h1))
          clear hak
          have CO := Lib.hid CO; have CA := Lib.hid CA; have CG := Lib.hid CG
          clear HT HK
          go_wp2_with fail
          refine wp_region_below (by kernel_rfl) (by kernel_rfl) ?_
          repeat (refine wpQuiet_step (fun K hK => ?_); go_simp; first | (refine hK _ ?_; clear hK K) | (apply Exists.intro; refine ⟨fun w' hw' => ?_, hK _ ?_⟩; (first | (go_at_call 81; exact Calls.quiet_below_same hw' (CO.out _)) | (go_at_call 85; exact Calls.quiet_below hw' (CA.out _)) | (go_at_call 89; exact Calls.quiet_below hw' (CG.out _ hw')) | (with_reducible rfl) | (obtain ⟨cc, dd⟩ := bcell hw'; go_simp; rfl)); clear hK K))
          refine wpQuiet_nil ?_
          intro w7 h7
          have B7 := Lib.hid (bthen B4.out h7)
          clear h7 ya yb yc yd ye yf yg yh yi yy2 l4 lK4 lbz4 CO CA CG pz lpz
          go_wp2_with fail
          go_ret
          exact ⟨by rw [hr]; rfl, B7.out⟩
        rw [hak] at CA
        cases hsb : sigsB sg
        · rw [hsb] at CG
          have hr := HF.out (crtR_no (fun h => by have h1 := h.2.2.2.2.2; dsimp only at h1; rw [hsb] at h1; cases h1))
          clear hak hsb
          have CO := Lib.hid CO; have CA := Lib.hid CA; have CG := Lib.hid CG
          clear HT HK
          go_wp2_with fail
          refine wp_region_below (by kernel_rfl) (by kernel_rfl) ?_
          repeat (refine wpQuiet_step (fun K hK => ?_); go_simp; first | (refine hK _ ?_; clear hK K) | (apply Exists.intro; refine ⟨fun w' hw' => ?_, hK _ ?_⟩; (first | (go_at_call 81; exact Calls.quiet_below_same hw' (CO.out _)) | (go_at_call 85; exact Calls.quiet_below hw' (CA.out _)) | (go_at_call 89; exact Calls.quiet_below hw' (CG.out _ hw')) | (with_reducible rfl) | (obtain ⟨cc, dd⟩ := bcell hw'; go_simp; rfl)); clear hK K))
          refine wpQuiet_nil ?_
          intro w7 h7
          have B7 := Lib.hid (bthen B4.out h7)
          clear h7 ya yb yc yd ye yf yg yh yi yy2 l4 lK4 lbz4 CO CA CG pz lpz
          go_wp2_with fail
          go_ret
          exact ⟨by rw [hr]; rfl, B7.out⟩
        rw [hsb] at CG
        have HR := Lib.hid (HT.out (crtR_yes ⟨HO.out, HPR.out, HP.out.1, HP.out.2, hak, hsb⟩))
        have CO := Lib.hid CO; have CA := Lib.hid CA; have CG := Lib.hid CG
        clear hak hsb HT HK HF HST
        go_wp2_with fail
        refine wp_region_below (by kernel_rfl) (by kernel_rfl) ?_
        repeat (refine wpQuiet_step (fun K hK => ?_); go_simp; first | (refine hK _ ?_; clear hK K) | (apply Exists.intro; refine ⟨fun w' hw' => ?_, hK _ ?_⟩; (first | (go_at_call 81; exact Calls.quiet_below_same hw' (CO.out _)) | (go_at_call 85; exact Calls.quiet_below hw' (CA.out _)) | (go_at_call 89; exact Calls.quiet_below hw' (CG.out _ hw')) | (with_reducible rfl) | (obtain ⟨cc, dd⟩ := bcell hw'; go_simp; rfl)); clear hK K))
        refine wpQuiet_nil ?_
        intro w7 h7
        have B7 := Lib.hid (bthen B4'.out h7)
        clear h7 ya yb yc yd ye yf yg yh yi yy2 l4 lK4 lbz4 CO CA CG pz lpz dc2 dc3 dc1
        go_wp2_with fail
        go_roundw
        case rel => exact ⟨k + 1, by omega, by go_num, HR, B7⟩
        case measure => simp [intOf]; omega
    · have hd : decide ((k : Int) < (cn : Int)) = false := by simp; omega
      have hr : R = true := by
        rw [HK.out, List.drop_of_length_le (by omega)]
        rfl
      go_wp2_with fail
      go_ret
      exact ⟨by rw [hr]; rfl, (bthen B3.out HW.out)⟩
end Go.Proofs.Ytijeieamodjgbaa
