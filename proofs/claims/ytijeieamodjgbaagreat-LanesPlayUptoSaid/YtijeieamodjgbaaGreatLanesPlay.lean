
/- LanesPlay: what is under way, taken, lost, doubled and injected, or why not, is what the document says, in whatever row of steps: for every input within the bound the law returns true, and its arguments read as before. The bound is the given one of Upto; no other condition. (printed by mkLpW.py) -/
import Derived.Test.YtijeieamodjgbaaGreatLp
import Derived.Test.YtijeieamodjgbaaGreatView
namespace Go.Proofs.YtijeieamodjgbaaGreat
set_option maxRecDepth 100000
open Go.RowKit Go.Deep
attribute [local irreducible] wpQuiet
set_option linter.unusedVariables false
set_option linter.unusedSimpArgs false
attribute [local go_sem] run_store_float
theorem wpList_gcall {P : Program} {ops : Array Oper} {rest : List Oper} {o : Oper} {a : Act} {w : World} {Q : Exit → Act → World → Prop} {R : Ending → World → Prop} (hw : Region.wanted o (yielded ops a.tmps) = true)
    (f : FuncId) (args : Array Value) (hrun : (execOp a.eval o).run P w = .ok (.enter f args) w) (hc : Calls P f args w R) (h : ∀ e w', R e w' → ∃ v, e = .returned v ∧ wpList P ops Q rest (a.put o.dst v) w') : wpList P ops Q (o :: rest) a w :=
  wpList_step fun K hK => step_calls_g hw f args hrun hc fun e w' he => by
    obtain ⟨v, rfl, hv⟩ := h e w' he
    exact ⟨v, rfl, hK _ _ hv⟩
/-- Two lanes while both are called: which calls have come up. -/
def lpJ (i1 i2 : Nat) (w : World) (p q : Nat) (bad : List Int) (r0 r1 : List Pk) (b : List Sg) (N : Nat) (bx : List (Nat × Obj)) (d : Nat → Bool) (wa : World) : Prop := LP w p q bad (if d i1 = true then r1 else r0) b N (if d i2 = true then r1 else r0) b N bx wa
section
variable {i1 i2 : Nat} {w wa w' : World} {p q : Nat} {bad : List Int} {r0 r1 : List Pk} {b : List Sg} {N : Nat} {bx : List (Nat × Obj)} {d : Nat → Bool}
theorem lpJ_skip {i : Nat} (h1 : i ≠ i1) (h2 : i ≠ i2) (h : lpJ i1 i2 w p q bad r0 r1 b N bx d wa) : lpJ i1 i2 w p q bad r0 r1 b N bx (setD d i) wa := by
  unfold lpJ setD
  rw [if_neg (Ne.symm h1), if_neg (Ne.symm h2)]
  exact h
theorem lpJ_old (h : lpJ i1 i2 w p q bad r0 r1 b N bx d wa) (hb : Below wa.heap.size wa w') : lpJ i1 i2 w p q bad r0 r1 b N bx d w' := LP.old h hb
theorem lpJ_below (h : lpJ i1 i2 w p q bad r0 r1 b N bx d wa) : Below w.heap.size w wa := LP.below h
theorem lpJ_at {z : Nat} {o : Obj} (h : lpJ i1 i2 w p q bad r0 r1 b N [(z, o)] d wa) : wa.heap[z]? = some o := LP.at h (List.mem_singleton.2 rfl)
theorem lpJ_p (h : lpJ i1 i2 w p q bad r0 r1 b N bx d wa) (hd : d i1 = false) (hne : i2 ≠ i1) (hp : LP w p q bad r1 b N (if d i2 = true then r1 else r0) b N bx w') : lpJ i1 i2 w p q bad r0 r1 b N bx (setD d i1) w' := by
  unfold lpJ setD
  rw [if_pos rfl, if_neg hne]
  exact hp
theorem lpJ_q (h : lpJ i1 i2 w p q bad r0 r1 b N bx d wa) (hd : d i2 = false) (hne : i1 ≠ i2) (hp : LP w p q bad (if d i1 = true then r1 else r0) b N r1 b N bx w') : lpJ i1 i2 w p q bad r0 r1 b N bx (setD d i2) w' := by
  unfold lpJ setD
  rw [if_pos rfl, if_neg hne]
  exact hp
theorem lpJ_start (h : LP w p q bad r0 b N r0 b N bx wa) : lpJ i1 i2 w p q bad r0 r1 b N bx (fun _ => false) wa.drew := LP.old h ⟨rfl, rfl, rfl, Nat.le_refl _, fun _ _ => rfl⟩
end
def playI (w0 : World) (p q vb n1 c1 : Nat) (a1 : Option Addr) (yk yn : Int) (y : Pk) (D : Bool) (E : Int) : Nat → World → Value → Prop
  | 0 => fun _ v => v = .pointer (some ⟨p, 0, none⟩)
  | 1 => fun _ v => v = .agg #[.int .i64 yk, .int .i64 yn, .slice a1 n1 c1]
  | 2 => fun w v => ∃ cs : List Value, v = .agg cs.toArray ∧ shPk.E w0 y cs
  | 3 => fun w v => v = .int .i64 E
  | 4 => fun _ v => v = .pointer (some ⟨q, 0, none⟩)
  | 5 => fun _ v => v = .agg #[.int .i64 yk, .int .i64 yn, .slice a1 n1 c1]
  | 6 => fun w v => ∃ cs : List Value, v = .agg cs.toArray ∧ shPk.E w0 y cs
  | 7 => fun w v => v = .int .i64 E
  | 8 => fun _ v => v = .bool true
  | 9 => fun _ v => v = .bool true
  | _ => fun _ _ => False
theorem playI_stab {w0 : World} {p q vb n1 c1 : Nat} {a1 : Option Addr} {yk yn : Int} {y : Pk} {D : Bool} {E : Int} : ∀ i w w' v, playI w0 p q vb n1 c1 a1 yk yn y D E i w v → True → playI w0 p q vb n1 c1 a1 yk yn y D E i w' v
  | 0, w, w', v, h, hk => h
  | 1, w, w', v, h, hk => h
  | 2, w, w', v, h, hk => h
  | 3, w, w', v, h, hk => h
  | 4, w, w', v, h, hk => h
  | 5, w, w', v, h, hk => h
  | 6, w, w', v, h, hk => h
  | 7, w, w', v, h, hk => h
  | 8, w, w', v, h, hk => h
  | 9, w, w', v, h, hk => h
  | _ + 10, w, w', v, h, hk => h
def playD (w0 : World) (p q vb n1 c1 : Nat) (a1 : Option Addr) (yk yn : Int) (y : Pk) (D : Bool) (E : Int) : Nat → World → Value → Prop
  | 0 => fun _ v => v = .pointer (some ⟨p, 0, none⟩)
  | 1 => fun _ v => v = .pointer (some ⟨vb, 1, none⟩)
  | 2 => fun _ v => v = .int .i64 yn
  | 3 => fun w v => v = .bool D
  | 4 => fun _ v => v = .pointer (some ⟨q, 0, none⟩)
  | 5 => fun _ v => v = .pointer (some ⟨vb, 1, none⟩)
  | 6 => fun _ v => v = .int .i64 yn
  | 7 => fun w v => v = .bool D
  | 8 => fun _ v => v = .bool true
  | 9 => fun _ v => v = .bool true
  | _ => fun _ _ => False
theorem playD_stab {w0 : World} {p q vb n1 c1 : Nat} {a1 : Option Addr} {yk yn : Int} {y : Pk} {D : Bool} {E : Int} : ∀ i w w' v, playD w0 p q vb n1 c1 a1 yk yn y D E i w v → True → playD w0 p q vb n1 c1 a1 yk yn y D E i w' v
  | 0, w, w', v, h, hk => h
  | 1, w, w', v, h, hk => h
  | 2, w, w', v, h, hk => h
  | 3, w, w', v, h, hk => h
  | 4, w, w', v, h, hk => h
  | 5, w, w', v, h, hk => h
  | 6, w, w', v, h, hk => h
  | 7, w, w', v, h, hk => h
  | 8, w, w', v, h, hk => h
  | 9, w, w', v, h, hk => h
  | _ + 10, w, w', v, h, hk => h
def playC (w0 : World) (p q vb n1 c1 : Nat) (a1 : Option Addr) (yk yn : Int) (y : Pk) (D : Bool) (E : Int) : Nat → World → Value → Prop
  | 0 => fun _ v => v = .pointer (some ⟨p, 0, none⟩)
  | 1 => fun _ v => v = .pointer (some ⟨vb, 1, none⟩)
  | 2 => fun _ v => v = .int .i64 yn
  | 3 => fun w v => v = .bool D
  | 4 => fun _ v => v = .pointer (some ⟨q, 0, none⟩)
  | 5 => fun _ v => v = .pointer (some ⟨vb, 1, none⟩)
  | 6 => fun _ v => v = .int .i64 yn
  | 7 => fun w v => v = .bool D
  | 8 => fun _ v => v = .bool true
  | 9 => fun _ v => v = .bool true
  | _ => fun _ _ => False
theorem playC_stab {w0 : World} {p q vb n1 c1 : Nat} {a1 : Option Addr} {yk yn : Int} {y : Pk} {D : Bool} {E : Int} : ∀ i w w' v, playC w0 p q vb n1 c1 a1 yk yn y D E i w v → True → playC w0 p q vb n1 c1 a1 yk yn y D E i w' v
  | 0, w, w', v, h, hk => h
  | 1, w, w', v, h, hk => h
  | 2, w, w', v, h, hk => h
  | 3, w, w', v, h, hk => h
  | 4, w, w', v, h, hk => h
  | 5, w, w', v, h, hk => h
  | 6, w, w', v, h, hk => h
  | 7, w, w', v, h, hk => h
  | 8, w, w', v, h, hk => h
  | 9, w, w', v, h, hk => h
  | _ + 10, w, w', v, h, hk => h
end Go.Proofs.YtijeieamodjgbaaGreat
namespace Go.Proofs.YtijeieamodjgbaaGreat.lanesPlay
set_option maxRecDepth 100000
open Go.ChangeShapes Go.WideShapes Go.ChangeAt Go.RowKit Go.Deep
attribute [local irreducible] wpQuiet
set_option linter.unusedVariables false
set_option linter.unusedSimpArgs false
set_option maxHeartbeats 8000000 in
theorem walk (w : World) (ba : Option Addr) (bn bc : Nat) (bad : List Int) (hbad : SlAt Sh.int w ba bn bc bad) (a : Option Addr) (n c : Nat) (script : List Stp) (hs : SlAt shStep w a n c script) (HK : Sh.int.slice.sz bad + shStep.slice.sz script ≤ 1048576) :
    Calls Tryz.prog 4 #[.slice ba bn bc, .slice a n c] w fun e w' => e = .returned (.bool true) ∧ Below w.heap.size w w' := by
  have hlen := hs.len; have hmax := Nat.le_trans hs.cap hs.max; have HS := Lib.hid hs; have HBD := Lib.hid hbad; have HZ := Lib.hid (show ∀ j, stepsZ script j ≤ 1048576 from fun j => by have := stepsZ_le script j; omega); clear hs HK
  go_enter Tryz.func4, Tryz.ntmps4
  go_wp2_with fail
  refine (lives20_any w).mono ?_
  rintro r w1 ⟨rfl, b1⟩
  have CN := Lib.hid (ls_new hbad b1); clear b1 hbad
  go_wp2_with fail
  refine CN.out.mono ?_
  rintro r w2 ⟨p, rfl, hL⟩
  have CM := Lib.hid (lp_new HBD.out hL); clear hL CN
  go_wp2_with fail
  refine CM.out.mono ?_
  rintro r w3 ⟨q, rfl, hL⟩
  have L0 := Lib.hid hL; clear hL CM
  go_wp2_with fail
  go_loopw [7] (fun i wr => ∃ (j : Nat) (row : List Pk) (book : List Sg), j ≤ n ∧ i = .int .i64 j ∧ Hid (LP w p q bad row book (stepsZ script j) row book (stepsZ script j) [] wr)) (fun i _ => n - (intOf i).toNat)
  case atStart => exact ⟨0, [], [], by omega, rfl, L0⟩
  case round =>
    clear L0; obtain ⟨j, row, book, hj, rfl, HL⟩ := hrel
    obtain ⟨wo, hwo⟩ : ∃ u : World, u = wr := ⟨_, rfl⟩
    subst hwo
    by_cases hlt : j < n
    · obtain ⟨y, hy⟩ : ∃ y, script[j]? = some y := ⟨_, List.getElem?_eq_getElem (by omega)⟩
      obtain ⟨b, o, a1, n1, c1, rfl, m0, m1, m2, hk, hn, hps⟩ := step_cells HS.out hy; have x0 := below_cell HL.out.below m0; have x1 := below_cell HL.out.below m1; have x2 := below_cell HL.out.below m2
      have hj0 : (0 : Int) ≤ (j : Int) := by omega
      have hj1 : (j : Int) < (n : Int) := by omega
      have HA := Lib.hid (below_alloc wo (.cells #[.int .i64 y.k, .int .i64 y.n, .slice a1 n1 c1] 48 (0, 0))); have HQ := Lib.hid (blk_alloc wo (.cells #[.int .i64 y.k, .int .i64 y.n, .slice a1 n1 c1] 48 (0, 0))); have HZ1 := HZ.out (j + 1); have HZ0 := HZ.out j; have hsn := stepsZ_snoc hy; obtain ⟨hz1, hz2, hz3⟩ := step_sz y
      go_wp2_with fail
      refine (kind20_any y.k y.n a1 n1 c1 _).mono ?_
      rintro r w4 ⟨rfl, b4⟩
      have L4 := Lib.hid (HL.out.box (bthen HA.out b4) (Nat.le_refl _) (blk_below HQ.out b4)); have K4 := blk_below HQ.out b4
      have q0 : w4.cell? ⟨wo.heap.size, 0, none⟩ = some (.int .i64 y.k) := by rw [blk_cell K4]; rfl
      have q1 : w4.cell? ⟨wo.heap.size, 1, none⟩ = some (.int .i64 y.n) := by rw [blk_cell K4]; rfl
      have q2 : w4.cell? ⟨wo.heap.size, 2, none⟩ = some (.slice a1 n1 c1) := by rw [blk_cell K4]; rfl
      have lq := blk_lt K4; have HPS := Lib.hid hps; have HNN := Lib.hid hn; have hNB : stepsZ script j ≤ 1048576 := HZ0; clear b4 K4 HA HQ x0 x1 x2 m0 m1 m2 HL hps hn; have hkk := kind20_in y.k; have HYK := Lib.hid (show (Value.int .i64 y.k) = .int .i64 y.k from rfl)
      obtain ⟨kk, hke⟩ : ∃ kk, kk = kind20 y.k := ⟨_, rfl⟩
      rw [← hke] at hkk ⊢
      clear hke
      have hk5 : kk = 0 ∨ kk = 1 ∨ kk = 2 ∨ kk = 3 ∨ kk = 4 := by omega
      clear hkk
      rcases hk5 with rfl | rfl | rfl | rfl | rfl
      · have CS := Lib.hid (L4.out.sendP HPS.out (fun z hz => by have := hz2 z hz; omega) (by omega))
        go_wp2_with fail
        refine CS.out.mono ?_
        rintro r w5 ⟨rfl, l5⟩
        have L5 := Lib.hid l5; clear CS L4 q0 q1 q2 lq l5
        have K5 := L5.out.at (List.mem_singleton.2 rfl)
        have q2 : w5.cell? ⟨wo.heap.size, 2, none⟩ = some (.slice a1 n1 c1) := by rw [blk_cell K5]; rfl
        have lq := blk_lt K5; have CQ := Lib.hid (L5.out.sendQ HPS.out (fun z hz => by have := hz2 z hz; omega) (by omega)); clear K5
        go_wp2_with fail
        refine CQ.out.mono ?_
        rintro r w6 ⟨rfl, l6⟩
        have L4 := Lib.hid l6.nobox; clear CQ L5 q2 lq l6; have L9 := Lib.hid ((L4.out).mono (NP' := stepsZ script (j + 1)) (NQ' := stepsZ script (j + 1)) (by omega) (by omega)); clear L4
        generalize sendR row y.l = row9 at *
        generalize sendB book y.l = book9 at *
        obtain ⟨xa, xn, xc, ra, rc, xu, xd, hq9⟩ := L9.out.rowQ (by have := HZ.out (j + 1); omega)
        have z1 : w6.cell? ⟨q, 1, none⟩ = some (.slice ra row9.length rc) := by rw [blk_cell hq9]; rfl
        have lq9 := blk_lt hq9; have CL := Lib.hid (fun (w' : World) (hb : Below w6.heap.size w6 w') => (L9.out.old hb).lenP)
        have hnn : ((row9.length : Int) != (row9.length : Int)) = false := by simp
        clear hq9
        go_upto_region 25 with (fail)
        refine wp_region_below (by kernel_rfl) (by kernel_rfl) ?_
        repeat (refine wpQuiet_step (fun K hK => ?_); go_simp; first | (refine hK _ ?_; clear hK K) | (apply Exists.intro; refine ⟨fun w' hw' => ?_, hK _ ?_⟩; (first | (go_at_call 25; exact Calls.quiet_below_same hw' (CL.out _ hw')) | (with_reducible rfl) | (obtain ⟨cc, dd⟩ := bcell hw'; go_simp; rfl)); clear hK K))
        refine wpQuiet_nil ?_
        intro w12 hb12; have L12 := Lib.hid (L9.out.old hb12); clear hb12 CL z1 lq9 L9 hnn
        go_wp2_with fail
        go_roundw
        case rel => exact ⟨j + 1, row9, book9, by omega, by go_num, L12⟩
        case measure => simp [intOf]; omega
      · have hfi := Lib.hid (fun w' hb => first20_any y.k y.n a1 n1 c1 y.l w w' HPS.out hb)
        have HFI := hfi
        have hT1 : (termsP (firstP y.l).m).length * 24 ≤ 140737488355328 := by omega
        have hT2 : stepsZ script j < 4611686018427387904 := by omega
        have L4D := Lib.hid L4.out
        have hee : (injE bad row book (firstP y.l) == injE bad row book (firstP y.l)) = true := by simp
        clear L4 q0 q1 q2 lq
        go_upto_region 16 with (fail)
        refine wp_region_stat 10 (fun _ _ => True) (lpJ 3 7 w p q bad row (injR bad row book (firstP y.l)) book (stepsZ script j) [(wo.heap.size, .cells #[.int .i64 y.k, .int .i64 y.n, .slice a1 n1 c1] 48 (0, 0))]) (playI w p q wo.heap.size n1 c1 a1 y.k y.n (firstP y.l) (true) (injE bad row book (firstP y.l))) rfl (by kernel_rfl) (by kernel_rfl) playI_stab ((lpJ_start L4D.out)) (fun i oo hi ho => ?_) (fun vs w9 hJ7 hs => ?_)
        · intro ac wa dd hJ hd hal hcl hE hF K hK
          have z0 : wa.cell? ⟨wo.heap.size, 0, none⟩ = some (.int .i64 y.k) := by rw [blk_cell (lpJ_at hJ)]; rfl
          have z1 : wa.cell? ⟨wo.heap.size, 1, none⟩ = some (.int .i64 y.n) := by rw [blk_cell (lpJ_at hJ)]; rfl
          have z2 : wa.cell? ⟨wo.heap.size, 2, none⟩ = some (.slice a1 n1 c1) := by rw [blk_cell (lpJ_at hJ)]; rfl
          have hi' : i = 0 ∨ i = 1 ∨ i = 2 ∨ i = 3 ∨ i = 4 ∨ i = 5 ∨ i = 6 ∨ i = 7 ∨ i = 8 ∨ i = 9 := by omega
          rcases hi' with rfl | rfl | rfl | rfl | rfl | rfl | rfl | rfl | rfl | rfl
          · obtain rfl := Option.some.inj ho
            have h1 : ac.eval (.tmp 5) = .pointer (some ⟨p, 0, none⟩) := hE 5 (by decide)
            exact news_val rfl rfl (by generalize ac.eval = ρ at h1; simp only [execOp]; go_simp) (hK _ _ trivial (lpJ_skip (by decide) (by decide) hJ) rfl)
          · obtain rfl := Option.some.inj ho
            have h1 : ac.eval (.tmp 8) = .pointer (some ⟨wo.heap.size, 0, none⟩) := hE 8 (by decide)
            exact news_val rfl rfl (by generalize ac.eval = ρ at h1; simp only [execOp]; go_simp) (hK _ _ trivial (lpJ_skip (by decide) (by decide) hJ) rfl)
          · obtain rfl := Option.some.inj ho
            have h1 : ac.eval (.tmp 47) = .agg #[.int .i64 y.k, .int .i64 y.n, .slice a1 n1 c1] := hF ⟨1, .data⟩ (by simp) rfl 47 rfl; have hf : ac.eval (.func 16) = .func (.func 16) #[] #[] := rfl
            refine made_call rfl rfl 16 #[.agg #[.int .i64 y.k, .int .i64 y.n, .slice a1 n1 c1]] (by generalize ac.eval = ρ at h1 hf; simp only [execOp]; go_simp) (HFI.out wa (lpJ_below hJ)) ?_
            rintro r w8 ⟨b8, cs, rfl, hEc⟩
            exact ⟨_, rfl, hK _ _ trivial (lpJ_skip (by decide) (by decide) (lpJ_old hJ b8)) ⟨cs, rfl, hEc⟩⟩
          · obtain rfl := Option.some.inj ho
            have h1 : ac.eval (.tmp 46) = .pointer (some ⟨p, 0, none⟩) := hF ⟨0, .data⟩ (by simp) rfl 46 rfl
            obtain ⟨cs, h2, hEc⟩ : ∃ cs : List Value, (ac.eval (.tmp 48)) = .agg cs.toArray ∧ shPk.E w (firstP y.l) cs := hF ⟨2, .data⟩ (by simp) rfl 48 rfl
            have hf : ac.eval (.func 15) = .func (.func 15) #[] #[] := rfl; have hP := hJ
            unfold lpJ at hP
            rw [hd] at hP
            simp only [Bool.false_eq_true, if_false] at hP
            refine made_call rfl rfl 15 #[.pointer (some ⟨p, 0, none⟩), .agg cs.toArray] (by generalize ac.eval = ρ at h1 h2 hf; simp only [execOp]; go_simp) (LP.injectP hP hEc hT1 hT2) ?_
            rintro r w8 ⟨rfl, hp8⟩
            exact ⟨_, rfl, hK _ _ trivial (lpJ_p hJ hd (by decide) hp8) rfl⟩
          · obtain rfl := Option.some.inj ho
            have h1 : ac.eval (.tmp 6) = .pointer (some ⟨q, 0, none⟩) := hE 6 (by decide)
            exact news_val rfl rfl (by generalize ac.eval = ρ at h1; simp only [execOp]; go_simp) (hK _ _ trivial (lpJ_skip (by decide) (by decide) hJ) rfl)
          · obtain rfl := Option.some.inj ho
            have h1 : ac.eval (.tmp 8) = .pointer (some ⟨wo.heap.size, 0, none⟩) := hE 8 (by decide)
            exact news_val rfl rfl (by generalize ac.eval = ρ at h1; simp only [execOp]; go_simp) (hK _ _ trivial (lpJ_skip (by decide) (by decide) hJ) rfl)
          · obtain rfl := Option.some.inj ho
            have h1 : ac.eval (.tmp 51) = .agg #[.int .i64 y.k, .int .i64 y.n, .slice a1 n1 c1] := hF ⟨5, .data⟩ (by simp) rfl 51 rfl; have hf : ac.eval (.func 16) = .func (.func 16) #[] #[] := rfl
            refine made_call rfl rfl 16 #[.agg #[.int .i64 y.k, .int .i64 y.n, .slice a1 n1 c1]] (by generalize ac.eval = ρ at h1 hf; simp only [execOp]; go_simp) (HFI.out wa (lpJ_below hJ)) ?_
            rintro r w8 ⟨b8, cs, rfl, hEc⟩
            exact ⟨_, rfl, hK _ _ trivial (lpJ_skip (by decide) (by decide) (lpJ_old hJ b8)) ⟨cs, rfl, hEc⟩⟩
          · obtain rfl := Option.some.inj ho
            have h1 : ac.eval (.tmp 50) = .pointer (some ⟨q, 0, none⟩) := hF ⟨4, .data⟩ (by simp) rfl 50 rfl
            obtain ⟨cs, h2, hEc⟩ : ∃ cs : List Value, (ac.eval (.tmp 52)) = .agg cs.toArray ∧ shPk.E w (firstP y.l) cs := hF ⟨6, .data⟩ (by simp) rfl 52 rfl
            have hf : ac.eval (.func 17) = .func (.func 17) #[] #[] := rfl; have hP := hJ
            unfold lpJ at hP
            rw [hd] at hP
            simp only [Bool.false_eq_true, if_false] at hP
            refine made_call rfl rfl 17 #[.pointer (some ⟨q, 0, none⟩), .agg cs.toArray] (by generalize ac.eval = ρ at h1 h2 hf; simp only [execOp]; go_simp) (LP.injectQ hP hEc hT1 hNB) ?_
            rintro r w8 ⟨rfl, hp8⟩
            exact ⟨_, rfl, hK _ _ trivial (lpJ_q hJ hd (by decide) hp8) rfl⟩
          · obtain rfl := Option.some.inj ho
            obtain h1 : (ac.eval (.tmp 49)) = .int .i64 (injE bad row book (firstP y.l)) := hF ⟨3, .data⟩ (by simp) rfl 49 rfl; obtain h2 : (ac.eval (.tmp 53)) = .int .i64 (injE bad row book (firstP y.l)) := hF ⟨7, .data⟩ (by simp) rfl 53 rfl
            exact news_val rfl rfl (by generalize ac.eval = ρ at h1 h2; simp only [execOp]; go_simp) (hK _ _ trivial (lpJ_skip (by decide) (by decide) hJ) rfl)
          · obtain rfl := Option.some.inj ho
            have h1 : ac.eval (.tmp 54) = .bool true := hF ⟨8, .data⟩ (by simp) rfl 54 rfl
            exact news_val rfl rfl (by generalize ac.eval = ρ at h1; simp only [execOp]; go_simp) (hK _ _ trivial (lpJ_skip (by decide) (by decide) hJ) rfl)
        · have e0 : vs 0 = _ := hs 0 (by omega)
          have e1 : vs 1 = _ := hs 1 (by omega)
          obtain ⟨cs, e2, hEc⟩ : ∃ cs : List Value, (vs 2) = .agg cs.toArray ∧ shPk.E w (firstP y.l) cs := hs 2 (by omega)
          obtain e3 : (vs 3) = .int .i64 (injE bad row book (firstP y.l)) := hs 3 (by omega); have e4 : vs 4 = _ := hs 4 (by omega); have e5 : vs 5 = _ := hs 5 (by omega)
          obtain ⟨cs, e6, hEc⟩ : ∃ cs : List Value, (vs 6) = .agg cs.toArray ∧ shPk.E w (firstP y.l) cs := hs 6 (by omega)
          obtain e7 : (vs 7) = .int .i64 (injE bad row book (firstP y.l)) := hs 7 (by omega); have e8 : vs 8 = _ := hs 8 (by omega); have e9 : vs 9 = _ := hs 9 (by omega)
          show wpAny _ _ _ _ _ _ ((((((((((Act.put _ (some 46) (vs 0)).put (some 47) (vs 1)).put (some 48) (vs 2)).put (some 49) (vs 3)).put (some 50) (vs 4)).put (some 51) (vs 5)).put (some 52) (vs 6)).put (some 53) (vs 7)).put (some 54) (vs 8)).put (some 9) (vs 9)) _
          rw [e0, e1, e2, e3, e4, e5, e6, e7, e8, e9]; clear e0 e1 e2 e3 e4 e5 e6 e7 e8 e9 hs vs; simp only [List.drop_succ_cons, List.drop_zero, List.drop_nil, Act.put, List.setIfInBounds_toArray, List.set_cons_succ, List.set_cons_zero]
          refine wpAny_end rfl ?_
          have hL9 := hJ7
          unfold lpJ at hL9
          simp only [show decide ((3 : Nat) < 10) = true from rfl, show decide ((7 : Nat) < 10) = true from rfl, if_true] at hL9
          have L4 := Lib.hid hL9.nobox; clear hL9 hJ7 L4D; have L9 := Lib.hid ((L4.out).mono (NP' := stepsZ script (j + 1)) (NQ' := stepsZ script (j + 1)) (by omega) (by omega)); clear L4
          generalize injR bad row book (firstP y.l) = row9 at *
          generalize book = book9 at *
          obtain ⟨xa, xn, xc, ra, rc, xu, xd, hq9⟩ := L9.out.rowQ (by have := HZ.out (j + 1); omega)
          have z1 : w9.cell? ⟨q, 1, none⟩ = some (.slice ra row9.length rc) := by rw [blk_cell hq9]; rfl
          have lq9 := blk_lt hq9; have CL := Lib.hid (fun (w' : World) (hb : Below w9.heap.size w9 w') => (L9.out.old hb).lenP)
          have hnn : ((row9.length : Int) != (row9.length : Int)) = false := by simp
          clear hq9
          go_upto_region 25 with (fail)
          refine wp_region_below (by kernel_rfl) (by kernel_rfl) ?_
          repeat (refine wpQuiet_step (fun K hK => ?_); go_simp; first | (refine hK _ ?_; clear hK K) | (apply Exists.intro; refine ⟨fun w' hw' => ?_, hK _ ?_⟩; (first | (go_at_call 25; exact Calls.quiet_below_same hw' (CL.out _ hw')) | (with_reducible rfl) | (obtain ⟨cc, dd⟩ := bcell hw'; go_simp; rfl)); clear hK K))
          refine wpQuiet_nil ?_
          intro w12 hb12; have L12 := Lib.hid (L9.out.old hb12); clear hb12 CL z1 lq9 L9 hnn
          go_wp2_with fail
          go_roundw
          case rel => exact ⟨j + 1, row9, book9, by omega, by go_num, L12⟩
          case measure => simp [intOf]; omega
      · have CT := Lib.hid (L4.out.takeP HNN.out)
        obtain ⟨D, hD⟩ : ∃ D, decide (0 < row.length) = D := ⟨_, rfl⟩
        rw [hD] at CT
        go_wp2_with fail
        refine CT.out.mono ?_
        rintro r w5 ⟨⟨cs10, rfl, hcl10, hone10, hE10⟩, l5⟩
        have L5 := Lib.hid l5; clear CT l5 L4 q0 q1 q2 lq
        obtain ⟨CS10, hCS10⟩ : ∃ CS, CS = cs10.toArray := ⟨_, rfl⟩
        rw [← hCS10]; rename_i hK
        refine hK _ _ ?_
        clear hK
        refine wpList_val (w' := w5) rfl (v := .tuple #[.agg CS10, .bool D]) (by simp only [execOp]; go_simp) ?_
        simp only [Act.put, List.setIfInBounds_toArray, List.set_cons_succ, List.set_cons_zero]
        refine wpList_val (w' := w5) rfl (v := .agg CS10) (by simp only [execOp]; go_simp) ?_
        refine wpList_val (w' := w5) rfl (v := .bool D) (by simp only [execOp]; go_simp) ?_
        simp only [Act.put, List.setIfInBounds_toArray, List.set_cons_succ, List.set_cons_zero]
        refine wpList_boxpk rfl rfl (.tmp 10) (.tmp 62) rfl rfl cs10 hcl10 hone10 rfl (by rw [← hCS10]; rfl) fun w6 bw6 kw6 _ => ?_
        simp only [Act.put, List.setIfInBounds_toArray, List.set_cons_succ, List.set_cons_zero]; have HE6 := Lib.hid (hE10.step (X' := fun k => w.heap.size ≤ k) (Y := fun _ => False) (Keep.of_below bw6) (fun _ _ h => h.elim) (fun _ _ h => h)); have L6 := Lib.hid (L5.out.box bw6 (Nat.le_refl _) kw6)
        have K6 := L6.out.at (List.mem_cons_of_mem _ (List.mem_singleton.2 rfl))
        have q1 : w6.cell? ⟨wo.heap.size, 1, none⟩ = some (.int .i64 y.n) := by rw [blk_cell K6]; rfl
        have lq := blk_lt K6; have CQ := Lib.hid (L6.out.takeQ HNN.out hNB)
        rw [hD] at CQ
        obtain ⟨bx, hbx⟩ : ∃ bx, bx = w5.heap.size := ⟨_, rfl⟩
        rw [← hbx] at L6 CQ ⊢
        have hbx2 := hbx; clear bw6 kw6 hE10 L5 K6 hbx hbx2 hD
        go_wp2_with fail
        refine CQ.out.mono ?_
        rintro r w7 ⟨⟨cs12, rfl, hcl12, hone12, hE12⟩, hkk7, l7⟩
        have L7 := Lib.hid l7; have HE7 := Lib.hid (HE6.out.step (X' := fun k => w.heap.size ≤ k) hkk7 (fun _ _ h => h) (fun _ _ h => h)); clear CQ l7 L6 q1 lq hkk7 HE6
        obtain ⟨CS12, hCS12⟩ : ∃ CS, CS = cs12.toArray := ⟨_, rfl⟩
        rw [← hCS12]; rename_i hK
        refine hK _ _ ?_
        clear hK
        refine wpList_val (w' := w7) rfl (v := .tuple #[.agg CS12, .bool D]) (by simp only [execOp]; go_simp) ?_
        simp only [Act.put, List.setIfInBounds_toArray, List.set_cons_succ, List.set_cons_zero]
        refine wpList_val (w' := w7) rfl (v := .agg CS12) (by simp only [execOp]; go_simp) ?_
        refine wpList_val (w' := w7) rfl (v := .bool D) (by simp only [execOp]; go_simp) ?_
        simp only [Act.put, List.setIfInBounds_toArray, List.set_cons_succ, List.set_cons_zero]
        refine wpList_boxpk rfl rfl (.tmp 12) (.tmp 69) rfl rfl cs12 hcl12 hone12 rfl (by rw [← hCS12]; rfl) fun w8 bw8 kw8 _ => ?_
        simp only [Act.put, List.setIfInBounds_toArray, List.set_cons_succ, List.set_cons_zero]; have HE8 := Lib.hid (HE7.out.step (X' := fun k => w.heap.size ≤ k) (Y := fun _ => False) (Keep.of_below bw8) (fun _ _ h => h.elim) (fun _ _ h => h)); have HF8 := Lib.hid (hE12.step (X' := fun k => w.heap.size ≤ k) (Y := fun _ => False) (Keep.of_below bw8) (fun _ _ h => h.elim) (fun _ _ h => h)); have L8 := Lib.hid (L7.out.old bw8); have K10 := Lib.hid (L8.out.at (List.mem_cons_self ..)); have K12 := Lib.hid kw8; have lb10 := blk_lt K10.out; have lb12 := blk_lt kw8
        have hdd : (D == D) = true := by simp
        obtain ⟨by8, hby⟩ : ∃ b, b = w7.heap.size := ⟨_, rfl⟩
        rw [← hby] at K12 lb12 ⊢
        clear bw8 kw8 hE12 HE7 L7 hby hCS10 hCS12
        go_upto_region 20 with (fail)
        refine wp_region_lit ?_
        refine wpList_val (w' := w8) rfl (v := .bool D) (by simp only [execOp]; go_simp) ?_
        simp only [Act.put, List.setIfInBounds_toArray, List.set_cons_succ, List.set_cons_zero]
        refine wpList_val (w' := w8) rfl (v := .bool D) (by simp only [execOp]; go_simp) ?_
        simp only [Act.put, List.setIfInBounds_toArray, List.set_cons_succ, List.set_cons_zero]
        refine wpList_val (w' := w8) rfl (v := .bool true) (by simp only [execOp]; go_simp) ?_
        simp only [Act.put, List.setIfInBounds_toArray, List.set_cons_succ, List.set_cons_zero]
        refine wpList_val (w' := w8) rfl (v := .bool true) (by simp only [execOp]; go_simp) ?_
        simp only [Act.put, List.setIfInBounds_toArray, List.set_cons_succ, List.set_cons_zero]
        refine wpList_gval (w' := w8) rfl (v := .agg cs10.toArray) (load_pk _ _ (.tmp 10) rfl rfl K10.out (by rw [List.size_toArray]; exact hcl10)) ?_
        simp only [Act.put, List.setIfInBounds_toArray, List.set_cons_succ, List.set_cons_zero]
        obtain ⟨w9, hw9⟩ : ∃ u, u = w8.alloc (.cells cs10.toArray 54 (0, 0)) := ⟨_, rfl⟩
        have b9 : Below w8.heap.size w8 w9 := by rw [hw9]; exact below_alloc _ _
        have k9 : w9.heap[w8.heap.size]? = some (.cells cs10.toArray 54 (0, 0)) := by rw [hw9]; exact blk_alloc _ _
        refine wpList_gval (w' := w9) rfl (v := .slice (some ⟨w8.heap.size, 0, none⟩) 1 1) (by rw [hw9]; exact build_pk1 _ _ (.tmp 75) rfl cs10 hcl10 rfl w8) ?_
        simp only [Act.put, List.setIfInBounds_toArray, List.set_cons_succ, List.set_cons_zero]
        refine wpList_gval (w' := w9) rfl (v := .agg cs12.toArray) (load_pk _ _ (.tmp 12) rfl rfl (blk_below K12.out b9) (by rw [List.size_toArray]; exact hcl12)) ?_
        simp only [Act.put, List.setIfInBounds_toArray, List.set_cons_succ, List.set_cons_zero]
        obtain ⟨w10, hw10⟩ : ∃ u, u = w9.alloc (.cells cs12.toArray 54 (0, 0)) := ⟨_, rfl⟩
        have b10 : Below w9.heap.size w9 w10 := by rw [hw10]; exact below_alloc _ _
        have k10 : w10.heap[w9.heap.size]? = some (.cells cs12.toArray 54 (0, 0)) := by rw [hw10]; exact blk_alloc _ _
        refine wpList_gval (w' := w10) rfl (v := .slice (some ⟨w9.heap.size, 0, none⟩) 1 1) (by rw [hw10]; exact build_pk1 _ _ (.tmp 77) rfl cs12 hcl12 rfl w9) ?_
        simp only [Act.put, List.setIfInBounds_toArray, List.set_cons_succ, List.set_cons_zero]
        have CSP := Lib.hid (show Calls Tryz.prog 20 #[.slice (some ⟨w8.heap.size, 0, none⟩) 1 1, .slice (some ⟨w9.heap.size, 0, none⟩) 1 1] w10 fun e w'' => e = .returned (.bool true) ∧ Below w10.heap.size w10 w'' from by
          have hb := bthen b9 b10; have h := samepks_any (some ⟨w8.heap.size, 0, none⟩) 1 1 [takeV row y.n] (some ⟨w9.heap.size, 0, none⟩) 1 1 [takeV row y.n] w10 (sl_one (HE8.out w10 (Keep.of_below hb)) (blk_below k9 b10)) (sl_one (HF8.out w10 (Keep.of_below hb)) k10)
          rw [decide_eq_true rfl] at h
          exact h)
        refine wpList_gcall rfl 20 #[.slice (some ⟨w8.heap.size, 0, none⟩) 1 1, .slice (some ⟨w9.heap.size, 0, none⟩) 1 1] (by simp only [execOp]; go_simp) CSP.out ?_
        rintro r w11 ⟨rfl, b11⟩
        refine ⟨_, rfl, ?_⟩
        simp only [Act.put, List.setIfInBounds_toArray, List.set_cons_succ, List.set_cons_zero]; have L4 := Lib.hid ((L8.out.old (bthen (bthen b9 b10) b11)).nobox); clear CSP b9 b10 b11 k9 k10 hw9 hw10 L8 HE8 HF8 K10 K12 lb10 lb12; have L9 := Lib.hid ((L4.out).mono (NP' := stepsZ script (j + 1)) (NQ' := stepsZ script (j + 1)) (by omega) (by omega)); clear L4
        generalize takeR row y.n = row9 at *
        generalize book = book9 at *
        obtain ⟨xa, xn, xc, ra, rc, xu, xd, hq9⟩ := L9.out.rowQ (by have := HZ.out (j + 1); omega)
        have z1 : w11.cell? ⟨q, 1, none⟩ = some (.slice ra row9.length rc) := by rw [blk_cell hq9]; rfl
        have lq9 := blk_lt hq9; have CL := Lib.hid (fun (w' : World) (hb : Below w11.heap.size w11 w') => (L9.out.old hb).lenP)
        have hnn : ((row9.length : Int) != (row9.length : Int)) = false := by simp
        clear hq9
        go_upto_region 25 with (fail)
        refine wp_region_below (by kernel_rfl) (by kernel_rfl) ?_
        repeat (refine wpQuiet_step (fun K hK => ?_); go_simp; first | (refine hK _ ?_; clear hK K) | (apply Exists.intro; refine ⟨fun w' hw' => ?_, hK _ ?_⟩; (first | (go_at_call 25; exact Calls.quiet_below_same hw' (CL.out _ hw')) | (with_reducible rfl) | (obtain ⟨cc, dd⟩ := bcell hw'; go_simp; rfl)); clear hK K))
        refine wpQuiet_nil ?_
        intro w12 hb12; have L12 := Lib.hid (L9.out.old hb12); clear hb12 CL z1 lq9 L9 hnn
        go_wp2_with fail
        go_roundw
        case rel => exact ⟨j + 1, row9, book9, by omega, by go_num, L12⟩
        case measure => simp [intOf]; omega
      · have L4D := Lib.hid L4.out
        have hee : (decide (0 < row.length) == decide (0 < row.length)) = true := by simp
        clear L4 q0 q1 q2 lq
        go_upto_region 22 with (fail)
        refine wp_region_stat 10 (fun _ _ => True) (lpJ 3 7 w p q bad row (takeR row y.n) book (stepsZ script j) [(wo.heap.size, .cells #[.int .i64 y.k, .int .i64 y.n, .slice a1 n1 c1] 48 (0, 0))]) (playD w p q wo.heap.size n1 c1 a1 y.k y.n pkZ (decide (0 < row.length)) (0)) rfl (by kernel_rfl) (by kernel_rfl) playD_stab ((lpJ_start L4D.out)) (fun i oo hi ho => ?_) (fun vs w9 hJ7 hs => ?_)
        · intro ac wa dd hJ hd hal hcl hE hF K hK
          have z0 : wa.cell? ⟨wo.heap.size, 0, none⟩ = some (.int .i64 y.k) := by rw [blk_cell (lpJ_at hJ)]; rfl
          have z1 : wa.cell? ⟨wo.heap.size, 1, none⟩ = some (.int .i64 y.n) := by rw [blk_cell (lpJ_at hJ)]; rfl
          have z2 : wa.cell? ⟨wo.heap.size, 2, none⟩ = some (.slice a1 n1 c1) := by rw [blk_cell (lpJ_at hJ)]; rfl
          have hi' : i = 0 ∨ i = 1 ∨ i = 2 ∨ i = 3 ∨ i = 4 ∨ i = 5 ∨ i = 6 ∨ i = 7 ∨ i = 8 ∨ i = 9 := by omega
          rcases hi' with rfl | rfl | rfl | rfl | rfl | rfl | rfl | rfl | rfl | rfl
          · obtain rfl := Option.some.inj ho
            have h1 : ac.eval (.tmp 5) = .pointer (some ⟨p, 0, none⟩) := hE 5 (by decide)
            exact news_val rfl rfl (by generalize ac.eval = ρ at h1; simp only [execOp]; go_simp) (hK _ _ trivial (lpJ_skip (by decide) (by decide) hJ) rfl)
          · obtain rfl := Option.some.inj ho
            have h1 : ac.eval (.tmp 8) = .pointer (some ⟨wo.heap.size, 0, none⟩) := hE 8 (by decide)
            exact news_val rfl rfl (by generalize ac.eval = ρ at h1; simp only [execOp]; go_simp) (hK _ _ trivial (lpJ_skip (by decide) (by decide) hJ) rfl)
          · obtain rfl := Option.some.inj ho
            have h1 : ac.eval (.tmp 84) = .pointer (some ⟨wo.heap.size, 1, none⟩) := hF ⟨1, .data⟩ (by simp) rfl 84 rfl
            exact news_val rfl rfl (by generalize ac.eval = ρ at h1; simp only [execOp]; go_simp) (hK _ _ trivial (lpJ_skip (by decide) (by decide) hJ) rfl)
          · obtain rfl := Option.some.inj ho
            have h1 : ac.eval (.tmp 83) = .pointer (some ⟨p, 0, none⟩) := hF ⟨0, .data⟩ (by simp) rfl 83 rfl; have h2 : ac.eval (.tmp 85) = .int .i64 y.n := hF ⟨2, .data⟩ (by simp) rfl 85 rfl; have hf : ac.eval (.func 21) = .func (.func 21) #[] #[] := rfl; have hP := hJ
            unfold lpJ at hP
            rw [hd] at hP
            simp only [Bool.false_eq_true, if_false] at hP
            refine made_call rfl rfl 21 #[.pointer (some ⟨p, 0, none⟩), .int .i64 y.n] (by generalize ac.eval = ρ at h1 h2 hf; simp only [execOp]; go_simp) (LP.dropP hP HNN.out) ?_
            rintro r w8 ⟨rfl, hp8⟩
            exact ⟨_, rfl, hK _ _ trivial (lpJ_p hJ hd (by decide) hp8) rfl⟩
          · obtain rfl := Option.some.inj ho
            have h1 : ac.eval (.tmp 6) = .pointer (some ⟨q, 0, none⟩) := hE 6 (by decide)
            exact news_val rfl rfl (by generalize ac.eval = ρ at h1; simp only [execOp]; go_simp) (hK _ _ trivial (lpJ_skip (by decide) (by decide) hJ) rfl)
          · obtain rfl := Option.some.inj ho
            have h1 : ac.eval (.tmp 8) = .pointer (some ⟨wo.heap.size, 0, none⟩) := hE 8 (by decide)
            exact news_val rfl rfl (by generalize ac.eval = ρ at h1; simp only [execOp]; go_simp) (hK _ _ trivial (lpJ_skip (by decide) (by decide) hJ) rfl)
          · obtain rfl := Option.some.inj ho
            have h1 : ac.eval (.tmp 88) = .pointer (some ⟨wo.heap.size, 1, none⟩) := hF ⟨5, .data⟩ (by simp) rfl 88 rfl
            exact news_val rfl rfl (by generalize ac.eval = ρ at h1; simp only [execOp]; go_simp) (hK _ _ trivial (lpJ_skip (by decide) (by decide) hJ) rfl)
          · obtain rfl := Option.some.inj ho
            have h1 : ac.eval (.tmp 87) = .pointer (some ⟨q, 0, none⟩) := hF ⟨4, .data⟩ (by simp) rfl 87 rfl; have h2 : ac.eval (.tmp 89) = .int .i64 y.n := hF ⟨6, .data⟩ (by simp) rfl 89 rfl; have hf : ac.eval (.func 22) = .func (.func 22) #[] #[] := rfl; have hP := hJ
            unfold lpJ at hP
            rw [hd] at hP
            simp only [Bool.false_eq_true, if_false] at hP
            refine made_call rfl rfl 22 #[.pointer (some ⟨q, 0, none⟩), .int .i64 y.n] (by generalize ac.eval = ρ at h1 h2 hf; simp only [execOp]; go_simp) (LP.dropQ hP HNN.out hNB) ?_
            rintro r w8 ⟨rfl, hp8⟩
            exact ⟨_, rfl, hK _ _ trivial (lpJ_q hJ hd (by decide) hp8) rfl⟩
          · obtain rfl := Option.some.inj ho
            obtain h1 : (ac.eval (.tmp 86)) = .bool (decide (0 < row.length)) := hF ⟨3, .data⟩ (by simp) rfl 86 rfl; obtain h2 : (ac.eval (.tmp 90)) = .bool (decide (0 < row.length)) := hF ⟨7, .data⟩ (by simp) rfl 90 rfl
            exact news_val rfl rfl (by generalize ac.eval = ρ at h1 h2; simp only [execOp]; go_simp) (hK _ _ trivial (lpJ_skip (by decide) (by decide) hJ) rfl)
          · obtain rfl := Option.some.inj ho
            have h1 : ac.eval (.tmp 91) = .bool true := hF ⟨8, .data⟩ (by simp) rfl 91 rfl
            exact news_val rfl rfl (by generalize ac.eval = ρ at h1; simp only [execOp]; go_simp) (hK _ _ trivial (lpJ_skip (by decide) (by decide) hJ) rfl)
        · have e0 : vs 0 = _ := hs 0 (by omega)
          have e1 : vs 1 = _ := hs 1 (by omega); have e2 : vs 2 = _ := hs 2 (by omega); obtain e3 : (vs 3) = .bool (decide (0 < row.length)) := hs 3 (by omega); have e4 : vs 4 = _ := hs 4 (by omega); have e5 : vs 5 = _ := hs 5 (by omega); have e6 : vs 6 = _ := hs 6 (by omega); obtain e7 : (vs 7) = .bool (decide (0 < row.length)) := hs 7 (by omega); have e8 : vs 8 = _ := hs 8 (by omega); have e9 : vs 9 = _ := hs 9 (by omega)
          show wpAny _ _ _ _ _ _ ((((((((((Act.put _ (some 83) (vs 0)).put (some 84) (vs 1)).put (some 85) (vs 2)).put (some 86) (vs 3)).put (some 87) (vs 4)).put (some 88) (vs 5)).put (some 89) (vs 6)).put (some 90) (vs 7)).put (some 91) (vs 8)).put (some 9) (vs 9)) _
          rw [e0, e1, e2, e3, e4, e5, e6, e7, e8, e9]; clear e0 e1 e2 e3 e4 e5 e6 e7 e8 e9 hs vs; simp only [List.drop_succ_cons, List.drop_zero, List.drop_nil, Act.put, List.setIfInBounds_toArray, List.set_cons_succ, List.set_cons_zero]
          refine wpAny_end rfl ?_
          have hL9 := hJ7
          unfold lpJ at hL9
          simp only [show decide ((3 : Nat) < 10) = true from rfl, show decide ((7 : Nat) < 10) = true from rfl, if_true] at hL9
          have L4 := Lib.hid hL9.nobox; clear hL9 hJ7 L4D; have L9 := Lib.hid ((L4.out).mono (NP' := stepsZ script (j + 1)) (NQ' := stepsZ script (j + 1)) (by omega) (by omega)); clear L4
          generalize takeR row y.n = row9 at *
          generalize book = book9 at *
          obtain ⟨xa, xn, xc, ra, rc, xu, xd, hq9⟩ := L9.out.rowQ (by have := HZ.out (j + 1); omega)
          have z1 : w9.cell? ⟨q, 1, none⟩ = some (.slice ra row9.length rc) := by rw [blk_cell hq9]; rfl
          have lq9 := blk_lt hq9; have CL := Lib.hid (fun (w' : World) (hb : Below w9.heap.size w9 w') => (L9.out.old hb).lenP)
          have hnn : ((row9.length : Int) != (row9.length : Int)) = false := by simp
          clear hq9
          go_upto_region 25 with (fail)
          refine wp_region_below (by kernel_rfl) (by kernel_rfl) ?_
          repeat (refine wpQuiet_step (fun K hK => ?_); go_simp; first | (refine hK _ ?_; clear hK K) | (apply Exists.intro; refine ⟨fun w' hw' => ?_, hK _ ?_⟩; (first | (go_at_call 25; exact Calls.quiet_below_same hw' (CL.out _ hw')) | (with_reducible rfl) | (obtain ⟨cc, dd⟩ := bcell hw'; go_simp; rfl)); clear hK K))
          refine wpQuiet_nil ?_
          intro w12 hb12; have L12 := Lib.hid (L9.out.old hb12); clear hb12 CL z1 lq9 L9 hnn
          go_wp2_with fail
          go_roundw
          case rel => exact ⟨j + 1, row9, book9, by omega, by go_num, L12⟩
          case measure => simp [intOf]; omega
      · have L4D := Lib.hid L4.out
        have hee : ((decide (0 < row.length) && decide (row.length < 4096)) == (decide (0 < row.length) && decide (row.length < 4096))) = true := by simp
        clear L4 q0 q1 q2 lq
        go_upto_region 24 with (fail)
        refine wp_region_stat 10 (fun _ _ => True) (lpJ 3 7 w p q bad row (copyR row y.n) book (stepsZ script j) [(wo.heap.size, .cells #[.int .i64 y.k, .int .i64 y.n, .slice a1 n1 c1] 48 (0, 0))]) (playC w p q wo.heap.size n1 c1 a1 y.k y.n pkZ (decide (0 < row.length) && decide (row.length < 4096)) (0)) rfl (by kernel_rfl) (by kernel_rfl) playC_stab ((lpJ_start L4D.out)) (fun i oo hi ho => ?_) (fun vs w9 hJ7 hs => ?_)
        · intro ac wa dd hJ hd hal hcl hE hF K hK
          have z0 : wa.cell? ⟨wo.heap.size, 0, none⟩ = some (.int .i64 y.k) := by rw [blk_cell (lpJ_at hJ)]; rfl
          have z1 : wa.cell? ⟨wo.heap.size, 1, none⟩ = some (.int .i64 y.n) := by rw [blk_cell (lpJ_at hJ)]; rfl
          have z2 : wa.cell? ⟨wo.heap.size, 2, none⟩ = some (.slice a1 n1 c1) := by rw [blk_cell (lpJ_at hJ)]; rfl
          have hi' : i = 0 ∨ i = 1 ∨ i = 2 ∨ i = 3 ∨ i = 4 ∨ i = 5 ∨ i = 6 ∨ i = 7 ∨ i = 8 ∨ i = 9 := by omega
          rcases hi' with rfl | rfl | rfl | rfl | rfl | rfl | rfl | rfl | rfl | rfl
          · obtain rfl := Option.some.inj ho
            have h1 : ac.eval (.tmp 5) = .pointer (some ⟨p, 0, none⟩) := hE 5 (by decide)
            exact news_val rfl rfl (by generalize ac.eval = ρ at h1; simp only [execOp]; go_simp) (hK _ _ trivial (lpJ_skip (by decide) (by decide) hJ) rfl)
          · obtain rfl := Option.some.inj ho
            have h1 : ac.eval (.tmp 8) = .pointer (some ⟨wo.heap.size, 0, none⟩) := hE 8 (by decide)
            exact news_val rfl rfl (by generalize ac.eval = ρ at h1; simp only [execOp]; go_simp) (hK _ _ trivial (lpJ_skip (by decide) (by decide) hJ) rfl)
          · obtain rfl := Option.some.inj ho
            have h1 : ac.eval (.tmp 95) = .pointer (some ⟨wo.heap.size, 1, none⟩) := hF ⟨1, .data⟩ (by simp) rfl 95 rfl
            exact news_val rfl rfl (by generalize ac.eval = ρ at h1; simp only [execOp]; go_simp) (hK _ _ trivial (lpJ_skip (by decide) (by decide) hJ) rfl)
          · obtain rfl := Option.some.inj ho
            have h1 : ac.eval (.tmp 94) = .pointer (some ⟨p, 0, none⟩) := hF ⟨0, .data⟩ (by simp) rfl 94 rfl; have h2 : ac.eval (.tmp 96) = .int .i64 y.n := hF ⟨2, .data⟩ (by simp) rfl 96 rfl; have hf : ac.eval (.func 23) = .func (.func 23) #[] #[] := rfl; have hP := hJ
            unfold lpJ at hP
            rw [hd] at hP
            simp only [Bool.false_eq_true, if_false] at hP
            refine made_call rfl rfl 23 #[.pointer (some ⟨p, 0, none⟩), .int .i64 y.n] (by generalize ac.eval = ρ at h1 h2 hf; simp only [execOp]; go_simp) (LP.copyP hP HNN.out) ?_
            rintro r w8 ⟨rfl, hp8⟩
            exact ⟨_, rfl, hK _ _ trivial (lpJ_p hJ hd (by decide) hp8) rfl⟩
          · obtain rfl := Option.some.inj ho
            have h1 : ac.eval (.tmp 6) = .pointer (some ⟨q, 0, none⟩) := hE 6 (by decide)
            exact news_val rfl rfl (by generalize ac.eval = ρ at h1; simp only [execOp]; go_simp) (hK _ _ trivial (lpJ_skip (by decide) (by decide) hJ) rfl)
          · obtain rfl := Option.some.inj ho
            have h1 : ac.eval (.tmp 8) = .pointer (some ⟨wo.heap.size, 0, none⟩) := hE 8 (by decide)
            exact news_val rfl rfl (by generalize ac.eval = ρ at h1; simp only [execOp]; go_simp) (hK _ _ trivial (lpJ_skip (by decide) (by decide) hJ) rfl)
          · obtain rfl := Option.some.inj ho
            have h1 : ac.eval (.tmp 99) = .pointer (some ⟨wo.heap.size, 1, none⟩) := hF ⟨5, .data⟩ (by simp) rfl 99 rfl
            exact news_val rfl rfl (by generalize ac.eval = ρ at h1; simp only [execOp]; go_simp) (hK _ _ trivial (lpJ_skip (by decide) (by decide) hJ) rfl)
          · obtain rfl := Option.some.inj ho
            have h1 : ac.eval (.tmp 98) = .pointer (some ⟨q, 0, none⟩) := hF ⟨4, .data⟩ (by simp) rfl 98 rfl; have h2 : ac.eval (.tmp 100) = .int .i64 y.n := hF ⟨6, .data⟩ (by simp) rfl 100 rfl; have hf : ac.eval (.func 24) = .func (.func 24) #[] #[] := rfl; have hP := hJ
            unfold lpJ at hP
            rw [hd] at hP
            simp only [Bool.false_eq_true, if_false] at hP
            refine made_call rfl rfl 24 #[.pointer (some ⟨q, 0, none⟩), .int .i64 y.n] (by generalize ac.eval = ρ at h1 h2 hf; simp only [execOp]; go_simp) (LP.copyQ hP HNN.out hNB) ?_
            rintro r w8 ⟨rfl, hp8⟩
            exact ⟨_, rfl, hK _ _ trivial (lpJ_q hJ hd (by decide) hp8) rfl⟩
          · obtain rfl := Option.some.inj ho
            obtain h1 : (ac.eval (.tmp 97)) = .bool (decide (0 < row.length) && decide (row.length < 4096)) := hF ⟨3, .data⟩ (by simp) rfl 97 rfl; obtain h2 : (ac.eval (.tmp 101)) = .bool (decide (0 < row.length) && decide (row.length < 4096)) := hF ⟨7, .data⟩ (by simp) rfl 101 rfl
            exact news_val rfl rfl (by generalize ac.eval = ρ at h1 h2; simp only [execOp]; go_simp) (hK _ _ trivial (lpJ_skip (by decide) (by decide) hJ) rfl)
          · obtain rfl := Option.some.inj ho
            have h1 : ac.eval (.tmp 102) = .bool true := hF ⟨8, .data⟩ (by simp) rfl 102 rfl
            exact news_val rfl rfl (by generalize ac.eval = ρ at h1; simp only [execOp]; go_simp) (hK _ _ trivial (lpJ_skip (by decide) (by decide) hJ) rfl)
        · have e0 : vs 0 = _ := hs 0 (by omega)
          have e1 : vs 1 = _ := hs 1 (by omega); have e2 : vs 2 = _ := hs 2 (by omega); obtain e3 : (vs 3) = .bool (decide (0 < row.length) && decide (row.length < 4096)) := hs 3 (by omega); have e4 : vs 4 = _ := hs 4 (by omega); have e5 : vs 5 = _ := hs 5 (by omega); have e6 : vs 6 = _ := hs 6 (by omega); obtain e7 : (vs 7) = .bool (decide (0 < row.length) && decide (row.length < 4096)) := hs 7 (by omega); have e8 : vs 8 = _ := hs 8 (by omega); have e9 : vs 9 = _ := hs 9 (by omega)
          show wpAny _ _ _ _ _ _ ((((((((((Act.put _ (some 94) (vs 0)).put (some 95) (vs 1)).put (some 96) (vs 2)).put (some 97) (vs 3)).put (some 98) (vs 4)).put (some 99) (vs 5)).put (some 100) (vs 6)).put (some 101) (vs 7)).put (some 102) (vs 8)).put (some 9) (vs 9)) _
          rw [e0, e1, e2, e3, e4, e5, e6, e7, e8, e9]; clear e0 e1 e2 e3 e4 e5 e6 e7 e8 e9 hs vs; simp only [List.drop_succ_cons, List.drop_zero, List.drop_nil, Act.put, List.setIfInBounds_toArray, List.set_cons_succ, List.set_cons_zero]
          refine wpAny_end rfl ?_
          have hL9 := hJ7
          unfold lpJ at hL9
          simp only [show decide ((3 : Nat) < 10) = true from rfl, show decide ((7 : Nat) < 10) = true from rfl, if_true] at hL9
          have L4 := Lib.hid hL9.nobox; clear hL9 hJ7 L4D; have L9 := Lib.hid ((L4.out).mono (NP' := stepsZ script (j + 1)) (NQ' := stepsZ script (j + 1)) (by omega) (by omega)); clear L4
          generalize copyR row y.n = row9 at *
          generalize book = book9 at *
          obtain ⟨xa, xn, xc, ra, rc, xu, xd, hq9⟩ := L9.out.rowQ (by have := HZ.out (j + 1); omega)
          have z1 : w9.cell? ⟨q, 1, none⟩ = some (.slice ra row9.length rc) := by rw [blk_cell hq9]; rfl
          have lq9 := blk_lt hq9; have CL := Lib.hid (fun (w' : World) (hb : Below w9.heap.size w9 w') => (L9.out.old hb).lenP)
          have hnn : ((row9.length : Int) != (row9.length : Int)) = false := by simp
          clear hq9
          go_upto_region 25 with (fail)
          refine wp_region_below (by kernel_rfl) (by kernel_rfl) ?_
          repeat (refine wpQuiet_step (fun K hK => ?_); go_simp; first | (refine hK _ ?_; clear hK K) | (apply Exists.intro; refine ⟨fun w' hw' => ?_, hK _ ?_⟩; (first | (go_at_call 25; exact Calls.quiet_below_same hw' (CL.out _ hw')) | (with_reducible rfl) | (obtain ⟨cc, dd⟩ := bcell hw'; go_simp; rfl)); clear hK K))
          refine wpQuiet_nil ?_
          intro w12 hb12; have L12 := Lib.hid (L9.out.old hb12); clear hb12 CL z1 lq9 L9 hnn
          go_wp2_with fail
          go_roundw
          case rel => exact ⟨j + 1, row9, book9, by omega, by go_num, L12⟩
          case measure => simp [intOf]; omega
    · obtain rfl : j = n := by omega
      have hd : decide ((j : Int) < (j : Int)) = false := by simp
      have HB := Lib.hid HL.out.below
      go_wp2_with fail
      go_ret
      exact ⟨rfl, HB.out⟩
set_option maxRecDepth 100000 in
theorem lifted (os : Os) (started : os.Started) (H : Type) (enc : TypeId × Value → H) (F : Stop.Interp) :
    ReturnsInHanded {} Tryz.checked os 4 .any ((Rows.OpenSpec.upto Rows.lanesPlaySpec).pre6 enc Tryz.prog Tryz.f4 Rows.lanesPlayUptoRow.domain false) (((Rows.OpenSpec.upto Rows.lanesPlaySpec).at F).post enc Tryz.prog Tryz.f4 false true false false) := by
  refine returnsInHanded_of_cond (C := Tryz.checked) (s := Rows.OpenSpec.upto Rows.lanesPlaySpec) (k := Rows.uptoSmall) rfl own started (by kernel_rfl) Tryz.func4
    (OpenSpec.witness (enc := enc) (C := Tryz.checked) (s := Rows.OpenSpec.upto Rows.lanesPlaySpec) (k := Rows.uptoSmall) rfl false ⟨#[], #[.slice none 0 0, .slice none 0 0], []⟩ 8 (by kernel_rfl) (by kernel_rfl) (by kernel_rfl)
      (x := ([.nil, .nil], [], [])) (by kernel_rfl) rfl (by kernel_rfl)) ?_
  intro W base args ds gs before hval0 hW _ hk _
  have hval : ∀ (j : Nat) t v, Tryz.f4.params[j]? = some t → args[j]? = some v → Value.okWide Tryz.prog W .any base t v := hval0
  have hW' := hW; obtain ⟨p, q, hA0, hV, rfl, hfz, hnd⟩ := hW; have hA : DataW.TrodAll enc Tryz.prog W 0 (fun _ => true) true Tryz.f4.params.toList args.toList ds p := hA0
  rw [Tryz.params4] at hA hval
  have hA2 := hA; obtain ⟨v0, vs0, d0, ds0, p0, q0, hargs, rfl, rfl, h0, r0⟩ := trodAll_cons hA; obtain ⟨v1, vs1, d1, ds1, p1, q1, rfl, rfl, rfl, h1, r1⟩ := trodAll_cons r0; obtain ⟨rfl, rfl, rfl⟩ := trodAll_nil r1
  obtain rfl : args = #[v0, v1] := by cases args; simp_all
  obtain ⟨rfl, rfl⟩ := trodVars_none hV; clear hargs
  have hk' : Rows.uptoSmall H [d0, d1] = true := by simpa using hk
  have k0 := hval 0 30 v0 rfl rfl; obtain ⟨fu0, m0⟩ := h0; have F0 : Fit Tryz.prog 30 d0 := fit_upto hk' (by simp) _; obtain ⟨l0, ⟨a0, n0, c0, e0, f0⟩, g0⟩ := vwInts.2.2 m0 F0; have e0' := slice_of Tryz.underlying30 k0 e0; subst e0'; have k1 := hval 1 41 v1 rfl rfl; obtain ⟨fu1, m1⟩ := h1; have F1 : Fit Tryz.prog 41 d1 := fit_upto hk' (by simp) _; obtain ⟨l1, ⟨a1, n1, c1, e1, f1⟩, g1⟩ := vwSteps.2.2 m1 F1; have e1' := slice_of Tryz.underlying41 k1 e1; subst e1'; have G0 : Sh.int.slice.sz l0 ≤ Rows.uptoBulk d0 := g0; have G1 : shStep.slice.sz l1 ≤ Rows.uptoBulk d1 := g1
  have HK : Sh.int.slice.sz l0 + shStep.slice.sz l1 ≤ 1048576 := by have h : Rows.uptoBulkAll [d0, d1] ≤ 1048576 := (by simpa [Rows.uptoSmall] using hk'); simp only [Rows.uptoBulkAll] at h; omega
  refine (walk W a0 n0 c0 l0 f0 a1 n1 c1 l1 f1 HK).mono fun e W' ⟨he, bel⟩ => ?_
  subst he
  exact ⟨_, rfl, _, _, _, [], _, [], hW', trodAll_mk1 (shut_bool Tryz.underlying4 _), trodAll_again laidOut bel (by kernel_rfl) hA2, rfl, bel.frame _, fun h => by cases h⟩
theorem over : Rows.lanesPlayUptoRow.holds Tryz.pinned (Rows.OpenSpec.upto Rows.lanesPlaySpec) :=
  OpenClaim.holds_of_cond 4 Tryz.f4 rfl rfl rfl rfl rfl rfl rfl ⟨rfl, rfl, rfl, rfl, rfl⟩ rfl rfl rfl rfl rfl (by kernel_rfl) Tryz.func4 (by kernel_rfl)
    (of_decide_eq_true (by kernel_rfl)) (by unfold Func.isWrapper; first | (rw [if_pos (by decide +kernel)]; kernel_rfl) | (rw [if_neg (by decide +kernel)]; exact ⟨rfl, rfl⟩))
    (fun os started H enc _ F => lifted os started H enc F)
theorem proved : Rows.LanesPlayUptoSaid := over
#print axioms proved
end Go.Proofs.YtijeieamodjgbaaGreat.lanesPlay
