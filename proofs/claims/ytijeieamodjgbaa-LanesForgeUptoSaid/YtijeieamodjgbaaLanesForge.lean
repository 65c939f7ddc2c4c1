
/- LanesForge: in whatever is taken that a bad node sent, each signature is a bad one's, or was in what was sent ahead of it; and what isn't a bad node's is only what was sent: for every input within the bound the law returns true, and its arguments read as before. The bound is the given one of Upto; no other condition. (printed by mkLfW.py) -/
import Derived.Test.YtijeieamodjgbaaLf
import Derived.Test.YtijeieamodjgbaaView
import Derived.Deep.CutBlock

namespace Go.Proofs.Ytijeieamodjgbaa
set_option maxRecDepth 100000
open Go.RowKit Go.Deep
set_option linter.unusedVariables false
set_option linter.unusedSimpArgs false
attribute [local go_sem] run_store_float

theorem unwanted_of {ops : Array Oper} {o : Oper} {k : Nat} {b b' : Bool} {t : Tmp} {a : Act} (hg : o.guard = some (k, b)) (hd : dstAt ops k = some t) (hv : a.eval (.tmp t) = .bool b') (hb : (b' == b) = false) : Region.wanted o (yielded ops a.tmps) = false := by
  have ht : a.tmps[t]? = some (.bool b') := by
    simp only [Act.eval, Array.getD_eq_getD_getElem?] at hv
    cases h : a.tmps[t]? with
    | none => rw [h] at hv; cases hv
    | some v => rw [h] at hv; simpa using hv
  unfold Region.wanted yielded
  rw [hg]
  unfold dstAt at hd
  simp only [hd, Option.bind_some, ht]
  cases b <;> cases b' <;> simp_all
theorem news_gskip {P : Program} {ops : Array Oper} {Q : Exit → Act → World → Prop} {i : Nat} {o : Oper} {a : Act} {w : World} {K : Act → World → Prop} (ho : ops[i]? = some o) (hw : Region.wanted o (yielded ops a.tmps) = false) (hk : K (a.put o.dst undef) w) : wpOp P ops Q i K a w := by
  refine wpOp_step ho fun K' hK' => ?_
  rw [if_neg (by rw [hw]; decide)]
  exact hK' _ _ hk
theorem wpList_gskip {P : Program} {ops : Array Oper} {rest : List Oper} {o : Oper} {a : Act} {w : World} {Q : Exit → Act → World → Prop} (hw : Region.wanted o (yielded ops a.tmps) = false) (h : wpList P ops Q rest (a.put o.dst undef) w) : wpList P ops Q (o :: rest) a w :=
  wpList_step fun K hK => by
    rw [if_neg (by rw [hw]; decide)]
    exact hK _ _ h
theorem wpList_gcall {P : Program} {ops : Array Oper} {rest : List Oper} {o : Oper} {a : Act} {w : World} {Q : Exit → Act → World → Prop} {R : Ending → World → Prop} (hw : Region.wanted o (yielded ops a.tmps) = true)
    (f : FuncId) (args : Array Value) (hrun : (execOp a.eval o).run P w = .ok (.enter f args) w) (hc : Calls P f args w R) (h : ∀ e w', R e w' → ∃ v, e = .returned v ∧ wpList P ops Q rest (a.put o.dst v) w') : wpList P ops Q (o :: rest) a w :=
  wpList_step fun K hK => step_calls_g hw f args hrun hc fun e w' he => by
    obtain ⟨v, rfl, hv⟩ := h e w' he
    exact ⟨v, rfl, hK _ _ hv⟩
theorem load_msg2 (ρ : Operand → Value) (o : Oper) (x : Operand) {b off : Nat} {ms : List Value} {w : World} (ho : o.op = .load 34 x) (hx : ρ x = .pointer (some ⟨b, off, none⟩)) (hr : w.rangeAt b off ms) (hi : (Try.prog.info? 34).map (·.size) = some ms.length) : (execOp ρ o).run Try.prog w = .ok (.value (.agg ms.toArray)) w := by
  have hld := run_loadVar_mid (P := Try.prog) w b off 34 _ _ hr Try.underlying34 rfl hi
  unfold execOp
  simp only [ho, hx, Instr.loadAt, Instr.sureAddr, Sem.run_bind, Sem.run_pure, Result.andThen_ok, hld]
/-- Was it found among the first k? -/
def fndB (sent : List Pk) (y : Pk) (k : Nat) : Bool := (sent.take k).any fun z => decide (z.canon = y.canon)
theorem fnd_snoc {sent : List Pk} {y z : Pk} {k : Nat} (h : sent[k]? = some z) : fndB sent y (k + 1) = (fndB sent y k || decide (z.canon = y.canon)) := by
  unfold fndB
  rw [List.take_add_one, h, List.any_append]
  simp
theorem fnd_none {bad : List Int} {sent row : List Pk} {book : List Sg} {y : Pk} (h : ForgeI bad sent row book) (hy : y ∈ row) (hf : fndB sent y sent.length = false) : hasB bad y.fr = true ∧ fitR y.m = 0 ∧ derivP book bad (termsP y.m) = true := by
  rcases h y hy with ⟨h0, ⟨z, hz, he⟩ | ⟨h1, h2, h3⟩⟩
  · have ht : fndB sent y sent.length = true := by
      unfold fndB
      rw [List.take_length, List.any_eq_true]
      exact ⟨z, hz, by simpa using he⟩
    rw [ht] at hf; cases hf
  · exact ⟨h1, err_fits h2, h3⟩
def forgeT (q g o n c k : Nat) (cs : List Value) (D : Bool) : Nat → World → Value → Prop
  | 0 => fun _ v => v = .bool false
  | 1 => fun _ v => v = .bool false
  | 2 => fun _ v => v = .slice (some ⟨g, o, none⟩) n c
  | 3 => fun _ v => v = .int .i64 (k : Int)
  | 4 => fun _ v => v = .int .i64 (k : Int)
  | 5 => fun _ v => v = .int .i64 ((k : Int) + 1)
  | 6 => fun _ v => v = .slice (some ⟨g, o + k * 19, none⟩) 1 (c - k)
  | 7 => fun w v => v = .agg cs.toArray
  | 8 => fun w v => ∃ h, v = .slice (some ⟨h, 0, none⟩) 1 1 ∧ w.heap[h]? = some (.cells cs.toArray 56 (0, 0))
  | 9 => fun w v => v = .bool D
  | 10 => fun w v => v = .bool D
  | _ => fun _ _ => False
theorem forgeT_stab {q g o n c k : Nat} {cs : List Value} {D : Bool} : ∀ i w w' v, forgeT q g o n c k cs D i w v → Below w.heap.size w w' → forgeT q g o n c k cs D i w' v
  | 0, w, w', v, h, hb => h
  | 1, w, w', v, h, hb => h
  | 2, w, w', v, h, hb => h
  | 3, w, w', v, h, hb => h
  | 4, w, w', v, h, hb => h
  | 5, w, w', v, h, hb => h
  | 6, w, w', v, h, hb => h
  | 7, w, w', v, h, hb => h
  | 8, w, w', v, ⟨h, h1, h2⟩, hb => ⟨h, h1, blk_below h2 hb⟩
  | 9, w, w', v, h, hb => h
  | 10, w, w', v, h, hb => h
  | _ + 11, w, w', v, h, hb => h
def forgeU (q : Nat) : Nat → World → Value → Prop
  | 0 => fun _ v => v = .bool true
  | 1 => fun _ v => v = .bool true
  | 2 => fun w v => v = undef
  | 3 => fun w v => v = undef
  | 4 => fun w v => v = undef
  | 5 => fun w v => v = undef
  | 6 => fun w v => v = undef
  | 7 => fun w v => v = undef
  | 8 => fun w v => v = undef
  | 9 => fun w v => v = undef
  | 10 => fun w v => v = .bool true
  | _ => fun _ _ => False
theorem forgeU_stab {q : Nat} : ∀ i w w' v, forgeU q i w v → Below w.heap.size w w' → forgeU q i w' v
  | 0, w, w', v, h, hb => h
  | 1, w, w', v, h, hb => h
  | 2, w, w', v, h, hb => h
  | 3, w, w', v, h, hb => h
  | 4, w, w', v, h, hb => h
  | 5, w, w', v, h, hb => h
  | 6, w, w', v, h, hb => h
  | 7, w, w', v, h, hb => h
  | 8, w, w', v, h, hb => h
  | 9, w, w', v, h, hb => h
  | 10, w, w', v, h, hb => h
  | _ + 11, w, w', v, h, hb => h
end Go.Proofs.Ytijeieamodjgbaa

namespace Go.Proofs.Ytijeieamodjgbaa.lanesForge
set_option maxRecDepth 100000
open Go.ChangeShapes Go.WideShapes Go.ChangeAt Go.RowKit Go.Deep
set_option linter.unusedVariables false
set_option linter.unusedSimpArgs false

set_option maxHeartbeats 8000000 in
theorem walk (w : World) (ba : Option Addr) (bn bc : Nat) (bad : List Int) (hbad : SlAt Sh.int w ba bn bc bad) (a : Option Addr) (n c : Nat) (script : List Stp) (hs : SlAt shStep w a n c script) (HK : Sh.int.slice.sz bad + shStep.slice.sz script ≤ 1048576) :
    Calls Try.prog 10 #[.slice ba bn bc, .slice a n c] w fun e w' => e = .returned (.bool true) ∧ Below w.heap.size w w' := by
  obtain ⟨ii, hii, hz0, hz1, hz2⟩ := info_parts info_pk
  have hlen := hs.len
  have hmax := Nat.le_trans hs.cap hs.max
  have HS := Lib.hid hs
  have HBD := Lib.hid hbad
  have HZ := Lib.hid (show ∀ j, stepsZ script j ≤ 1048576 from fun j => by have := stepsZ_le script j; omega)
  clear hs HK
  go_enter Try.func10, Try.ntmps10
  go_wp2_with fail
  refine (lives20_any w).mono ?_
  rintro r w1 ⟨rfl, b1⟩
  have CN := Lib.hid (ls_new hbad b1)
  clear b1 hbad
  go_wp2_with fail
  refine CN.out.mono ?_
  rintro r w2 ⟨p, rfl, hL⟩
  have L0 := Lib.hid (FS.of hL)
  clear hL CN
  go_wp2_with fail
  go_loopw [6, 7, 8] (fun vs vn i wr => ∃ (j : Nat) (row : List Pk) (book : List Sg) (sent : List Pk), j ≤ n ∧ i = .int .i64 j ∧ Hid (FS w p bad row book (stepsZ script j) sent book vs vn [] wr) ∧ Hid (ForgeI bad sent row book) ∧ sent.length ≤ stepsZ script j ∧ book.length ≤ stepsZ script j) (fun _ _ i _ => n - (intOf i).toNat)
  case atStart => exact ⟨0, [], [], [], by omega, rfl, L0, Lib.hid (fun y hy => by cases hy), Nat.zero_le _, Nat.zero_le _⟩
  case round =>
    clear L0
    obtain ⟨j, row, book, sent, hj, rfl, HL, HF, hsl, hbl⟩ := hrel
    obtain ⟨wo, hwo⟩ : ∃ u : World, u = wr := ⟨_, rfl⟩
    subst hwo
    obtain ⟨sa, sc, rfl, hss⟩ := HL.out.sentAt (by have := HZ.out j; omega)
    obtain ⟨na, nc, rfl, hns⟩ := HL.out.seenAt (by have := HZ.out j; omega)
    clear hss hns
    by_cases hlt : j < n
    · obtain ⟨y, hy⟩ : ∃ y, script[j]? = some y := ⟨_, List.getElem?_eq_getElem (by omega)⟩
      obtain ⟨b, o, a1, n1, c1, rfl, m0, m1, m2, hk, hn, hps⟩ := step_cells HS.out hy
      have x0 := below_cell HL.out.below m0
      have x1 := below_cell HL.out.below m1
      have x2 := below_cell HL.out.below m2
      have hj0 : (0 : Int) ≤ (j : Int) := by omega
      have hj1 : (j : Int) < (n : Int) := by omega
      have HA := Lib.hid (below_alloc wo (.cells #[.int .i64 y.k, .int .i64 y.n, .slice a1 n1 c1] 64 (0, 0)))
      have HQ := Lib.hid (blk_alloc wo (.cells #[.int .i64 y.k, .int .i64 y.n, .slice a1 n1 c1] 64 (0, 0)))
      have HZ1 := HZ.out (j + 1)
      have hsn := stepsZ_snoc hy
      obtain ⟨hz1', hz2', hz3'⟩ := step_sz y
      have hz4 := step_len y
      go_wp2_with fail
      refine (kind20_any y.k y.n a1 n1 c1 _).mono ?_
      rintro r w4 ⟨rfl, b4⟩
      have L4 := Lib.hid (HL.out.box (bthen HA.out b4) (Nat.le_refl _) (blk_below HQ.out b4))
      have K4 := blk_below HQ.out b4
      have q0 : w4.cell? ⟨wo.heap.size, 0, none⟩ = some (.int .i64 y.k) := by rw [blk_cell K4]; rfl
      have q1 : w4.cell? ⟨wo.heap.size, 1, none⟩ = some (.int .i64 y.n) := by rw [blk_cell K4]; rfl
      have q2 : w4.cell? ⟨wo.heap.size, 2, none⟩ = some (.slice a1 n1 c1) := by rw [blk_cell K4]; rfl
      have lq := blk_lt K4
      have hn1 := hps.len
      have hn2 := Nat.le_trans hps.bytes (Nat.le_refl _)
      have hb8 : shPk.bs = 232 := rfl
      rw [hb8] at hn2
      have HPS := Lib.hid hps
      have HNN := Lib.hid hn
      clear b4 K4 HA HQ x0 x1 x2 m0 m1 m2 HL hps hb8 hn
      have hkk := kind20_in y.k
      generalize kind20 y.k = kk at *
      have hk5 : kk = 0 ∨ kk = 1 ∨ kk = 2 ∨ kk = 3 ∨ kk = 4 := by omega
      clear hkk
      rcases hk5 with rfl | rfl | rfl | rfl | rfl
      · have CS := Lib.hid (L4.out.send HPS.out (fun z hz => by have := hz2' z hz; omega) (by have := HZ.out j; omega))
        go_wp2_with fail
        refine CS.out.mono ?_
        rintro r w5 ⟨rfl, l5⟩
        clear CS L4 q0 q1 q2
        have q2 : w5.cell? ⟨wo.heap.size, 2, none⟩ = some (.slice a1 n1 c1) := by rw [blk_cell l5.at]; rfl
        have lq5 := blk_lt l5.at
        have hB5 := l5.below
        obtain ⟨M, NB, xs, g1, g4, g5, g6⟩ := l5
        obtain ⟨ys, hxr, hxn⟩ := pks_flat hB5 HPS.out
        have k1 : sent.length + n1 ≤ maxLen := by unfold maxLen; have := HZ.out j; omega
        have k2 : (sent.length + n1) * 232 ≤ 140737488355328 := by have := HZ.out j; omega
        have q7 : ys.length = n1 * 19 := by rw [hxr.len, hn1]; rfl
        have hnil : a1 = none → n1 = 0 ∧ c1 = 0 := fun h => ⟨by have := HPS.out.nil h; have := HPS.out.cap; omega, HPS.out.nil h⟩
        have hone : ∀ u ∈ ys, u.oneCell' = true := hxr.all (fun y cs h => pk_one h)
        have hW5 := hB5.size
        go_wp2_with (first | (at_builtin; refine wpList_append_any_at _ rfl (.tmp 37) (.tmp 39) 50 rfl w.heap.size 56 ii (.agg zeroPk.toArray) 19 232 Try.underlying50 hii hz0 hz1 hz2 rfl (by decide) (.slice sa sent.length sc) sent.length xs rfl g4.1 a1 n1 c1 ys rfl q7 hnil hxn hone k1 k2 hW5 ?_) | fail)
        intro v6 w6 ho6 hg6 hor6
        have L6 := Lib.hid (FS.grow (sent' := sent ++ y.l) g1 g4 g5 g6 hg6 (by rw [List.length_append, hn1]; exact ho6) hor6 (rowOf_app g4.2.2 hxr))
        clear ho6 hg6 hor6 g1 g4 g5 g6 hxr hxn hone q7 hnil k1 k2 hW5 hB5 q2 lq5 lq
        obtain ⟨sa', sc', rfl, hss⟩ := L6.out.sentAt (by rw [List.length_append]; have := HZ.out j; omega)
        clear hss
        go_wp2_with fail
        have L6' := Lib.hid (show FS w p bad (sendR row y.l) (sendB book y.l) (stepsZ script j + sendN y.l) (sent ++ y.l) (sendB book (y.l.take 0)) (.slice sa' (sent ++ y.l).length sc') (.slice na book.length nc) _ w6 from by rw [List.take_zero]; exact L6.out)
        have hlp : ∀ k, (sendB book (y.l.take k)).length ≤ stepsZ script (j + 1) := fun k => by
          have h1 := sendB_len (y.l.take k) book
          have h2 : sendN (y.l.take k) ≤ sendN y.l := sendN_le
          omega
        have hF' := HF.out.send y.l (fun z hz => by have := hz2' z hz; omega)
        have HF2 := Lib.hid hF'
        clear HF hF' L6
        have HLP := Lib.hid hlp
        clear hlp
        have hsl' : (sent ++ y.l).length ≤ stepsZ script (j + 1) := by rw [List.length_append]; omega
        have HNS : stepsZ script j + sendN y.l ≤ stepsZ script (j + 1) := by omega
        generalize hRR : sendR row y.l = row5 at *
        generalize hSS : sent ++ y.l = sent5 at *
        clear hRR hSS hsl
        go_loopw [7, 10] (fun vn i wr => ∃ k : Nat, k ≤ n1 ∧ i = .int .i64 k ∧ Hid (FS w p bad row5 (sendB book y.l) (stepsZ script j + sendN y.l) sent5 (sendB book (y.l.take k)) (.slice sa' sent5.length sc') vn [(wo.heap.size, .cells #[.int .i64 y.k, .int .i64 y.n, .slice a1 n1 c1] 64 (0, 0))] wr)) (fun _ i _ => n1 - (intOf i).toNat)
        case atStart => exact ⟨0, by omega, rfl, L6'⟩
        case round =>
          clear L6'
          obtain ⟨k, hk, rfl, HL⟩ := hrel
          have hK := HL.out.at
          have q2 : wr.cell? ⟨wo.heap.size, 2, none⟩ = some (.slice a1 n1 c1) := by rw [blk_cell hK]; rfl
          have lq := blk_lt hK
          clear hK
          obtain ⟨na', nc', rfl, hns⟩ := HL.out.seenAt (by have := HLP.out k; omega)
          clear hns
          by_cases hlk : k < n1
          · obtain ⟨z, hz⟩ : ∃ z, y.l[k]? = some z := ⟨_, List.getElem?_eq_getElem (by omega)⟩
            obtain ⟨b', o', zc, hae, hzE, hcc⟩ := HPS.out.cell k z hz
            subst hae
            obtain ⟨d1, m1, e1, d2, m2, e2, d3, m3, e3, d4, m4, e4, hcs, hyf, hyt, hmi⟩ := pk_open hzE
            have HTZ := Lib.hid (hz2' z (List.mem_of_getElem? hz))
            have hB := HL.out.below
            have hkP : shPk.k = 19 := rfl
            rw [hkP] at hcc
            have hrange : wr.rangeAt b' (o' + k * 19 + 2) (mgCs z.m d1 m1 e1 d2 m2 e2 d3 m3 e3 d4 m4 e4) := fun i u hi => by
              have h1 := hcc (i + 2) u (by rw [hcs]; simpa [pkCs] using hi)
              rw [show o' + k * 19 + 2 + i = o' + k * 19 + (i + 2) by omega]
              exact below_cell hB h1
            have hmlen : (Try.prog.info? 34).map (·.size) = some (mgCs z.m d1 m1 e1 d2 m2 e2 d3 m3 e3 d4 m4 e4).length := by kernel_rfl
            have CT := Lib.hid (rterms_any z.m d1 m1 e1 d2 m2 e2 d3 m3 e3 d4 m4 e4 wr (hmi.old hB) (by have := HTZ.out; omega))
            have HFN := Lib.hid (show ∀ s ∈ termsP z.m, sgOk s from terms_fine hmi)
            have HTK := Lib.hid (sendB_snoc (book := book) hz)
            have hl1 : (sendB book (y.l.take k)).length + (termsP z.m).length ≤ 1048576 := by
              have h1 := sendB_len (y.l.take k) book
              have h2 := sendN_snoc hz
              have h3 : sendN (y.l.take (k + 1)) ≤ sendN y.l := sendN_le
              omega
            generalize hms : mgCs z.m d1 m1 e1 d2 m2 e2 d3 m3 e3 d4 m4 e4 = ms at *
            clear hms hcs hyf hyt hmi hcc hzE
            have hk0 : (0 : Int) ≤ (k : Int) := by omega
            have hk1 : (k : Int) < (n1 : Int) := by omega
            generalize hbk : sendB book (y.l.take k) = bk at *
            go_upto_region 17 with (fail)
            refine wp_region_lit ?_
            refine wpList_val (w' := wr) rfl (v := .slice na' bk.length nc') (by simp only [execOp]; go_simp) ?_
            simp only [Act.put, List.setIfInBounds_toArray, List.set_cons_succ, List.set_cons_zero]
            refine wpList_val (w' := wr) rfl (v := .pointer (some ⟨wo.heap.size, 2, none⟩)) (by simp only [execOp]; go_simp) ?_
            simp only [Act.put, List.setIfInBounds_toArray, List.set_cons_succ, List.set_cons_zero]
            refine wpList_val (w' := wr) rfl (v := .slice (some ⟨b', o', none⟩) n1 c1) (by simp only [execOp]; go_simp) ?_
            simp only [Act.put, List.setIfInBounds_toArray, List.set_cons_succ, List.set_cons_zero]
            refine wpList_val (w' := wr) rfl (v := .int .i64 (k : Int)) (by simp only [execOp]; go_simp) ?_
            simp only [Act.put, List.setIfInBounds_toArray, List.set_cons_succ, List.set_cons_zero]
            refine wpList_val (w' := wr) rfl (v := .pointer (some ⟨b', o' + k * 19, none⟩)) (by simp only [execOp]; go_simp) ?_
            simp only [Act.put, List.setIfInBounds_toArray, List.set_cons_succ, List.set_cons_zero]
            refine wpList_val (w' := wr) rfl (v := .pointer (some ⟨b', o' + k * 19 + 2, none⟩)) (by simp only [execOp]; go_simp) ?_
            simp only [Act.put, List.setIfInBounds_toArray, List.set_cons_succ, List.set_cons_zero]
            refine wpList_load_mid rfl 34 (.tmp 53) rfl b' (o' + k * 19 + 2) rfl ms _ hrange Try.underlying34 rfl hmlen ?_
            simp only [Act.put, List.setIfInBounds_toArray, List.set_cons_succ, List.set_cons_zero]
            refine wpList_gcall rfl 18 #[.agg ms.toArray] (by simp only [execOp]; go_simp) CT.out ?_
            rintro r w7 ⟨b7, v7, rfl, ho7⟩
            refine ⟨_, rfl, ?_⟩
            simp only [Act.put, List.setIfInBounds_toArray, List.set_cons_succ, List.set_cons_zero]
            obtain ⟨a7, c7, rfl⟩ := owns_form ho7
            have CN := Lib.hid ((HL.out.old b7).noted (B := wr.heap.size) ho7 (fun q hq hv => by
              have h1 := (ho7.lt q hq).1
              have h2 := HL.out.seen_lt q hv
              omega) HFN.out (by omega))
            clear ho7 b7 CT HFN hrange hmlen q2 lq hB
            refine wpList_gcall rfl 32 #[.slice na' bk.length nc', .slice a7 (termsP z.m).length c7] (by simp only [execOp]; go_simp) CN.out ?_
            rintro r w8 ⟨v8, rfl, l8⟩
            refine ⟨_, rfl, ?_⟩
            simp only [Act.put, List.setIfInBounds_toArray, List.set_cons_succ, List.set_cons_zero]
            have L8 := Lib.hid l8
            clear l8 CN HL
            rw [← HTK.out] at L8
            go_wp2_with fail
            go_roundw
            case rel => exact ⟨k + 1, by omega, by go_num, L8⟩
            case measure => simp [intOf]; omega
          · obtain rfl : k = n1 := by omega
            have hd : decide ((k : Int) < (k : Int)) = false := by simp
            have L9 := Lib.hid (show FS w p bad row5 (sendB book y.l) (stepsZ script (j + 1)) sent5 (sendB book y.l) (.slice sa' sent5.length sc') (.slice na' (sendB book y.l).length nc') [] wr by
              have h := (HL.out.nobox).mono HNS
              rw [List.take_of_length_le (by omega)] at h
              exact h)
            have hl9 : (sendB book y.l).length ≤ stepsZ script (j + 1) := by
              have h := HLP.out k
              rw [List.take_of_length_le (by omega)] at h
              exact h
            have hE9 : sendB book (y.l.take k) = sendB book y.l := by rw [List.take_of_length_le (by omega)]
            clear HL HLP
            rw [hE9]
            generalize sendB book y.l = bk at *
            go_wp2_with fail
            go_roundw
            case rel => exact ⟨j + 1, row5, bk, sent5, by omega, by go_num, L9, HF2, hsl', hl9⟩
            case measure => simp [intOf]; omega
      · have hfi := Lib.hid (fun w' hb => first20_any y.k y.n a1 n1 c1 y.l w w' HPS.out hb)
        have hjz := HZ.out j
        have CI := Lib.hid (fun (w' : World) (cs : List Value) (h : FS w p bad row book (stepsZ script j) sent book (.slice sa sent.length sc) (.slice na book.length nc) [] w') (hE : shPk.E w (firstP y.l) cs) => h.inject hE (by omega) (by omega))
        have HF5 := Lib.hid (HF.out.inject (firstP y.l) (by omega))
        clear HF
        generalize injR bad row book (firstP y.l) = row5 at *
        generalize injE bad row book (firstP y.l) = e5 at *
        go_wp2_with fail
        refine (hfi.out w4 L4.out.below).mono ?_
        rintro r w5 ⟨b5, cs, rfl, hE5⟩
        have L5 := Lib.hid ((L4.out.old b5).nobox)
        have CI5 := Lib.hid (CI.out w5 cs L5.out hE5)
        obtain ⟨CS, hCS⟩ : ∃ CS, CS = cs.toArray := ⟨_, rfl⟩
        rw [← hCS] at CI5 ⊢
        clear hCS hE5 b5 CI hfi L4 q0 q1 q2 lq
        go_wp2_with fail
        refine CI5.out.mono ?_
        rintro r w7 ⟨rfl, l7⟩
        clear CI5 L5
        have L5 := Lib.hid (l7.mono (N' := stepsZ script (j + 1)) (by omega))
        clear l7
        go_wp2_with fail
        go_roundw
        case rel => exact ⟨j + 1, row5, book, sent, by omega, by go_num, L5, HF5, by omega, by omega⟩
        case measure => simp [intOf]; omega
      · have CT := Lib.hid (L4.out.nobox.take HNN.out)
        have HF5 := Lib.hid (HF.out.take y.n)
        have hmem := fun h => takeV_mem (row := row) y.n h
        have HMM := Lib.hid (fun (h : 0 < row.length) => fnd_none HF.out (hmem h))
        have HMT := Lib.hid (fun (h : 0 < row.length) => (HF.out _ (hmem h)).1)
        clear HF hmem
        generalize takeV row y.n = V at *
        generalize takeR row y.n = row5 at *
        cases hD : decide (0 < row.length)
        · rw [hD] at CT
          go_wp2_with fail
          refine CT.out.mono ?_
          rintro r w5 ⟨⟨cs, rfl, hcl, hone, -⟩, l5⟩
          have L5q := Lib.hid l5
          clear CT l5 L4 q0 q1 q2 lq
          obtain ⟨CS, hCS⟩ : ∃ CS, CS = cs.toArray := ⟨_, rfl⟩
          rw [← hCS]
          rename_i hK
          refine hK _ _ ?_
          clear hK
          refine wpList_val (w' := w5) rfl (v := .tuple #[.agg CS, .bool false]) (by simp only [execOp]; go_simp) ?_
          simp only [Act.put, List.setIfInBounds_toArray, List.set_cons_succ, List.set_cons_zero]
          refine wpList_val (w' := w5) rfl (v := .agg CS) (by simp only [execOp]; go_simp) ?_
          refine wpList_val (w' := w5) rfl (v := .bool false) (by simp only [execOp]; go_simp) ?_
          simp only [Act.put, List.setIfInBounds_toArray, List.set_cons_succ, List.set_cons_zero]
          refine wpList_boxpk rfl rfl (.tmp 11) (.tmp 82) rfl rfl cs hcl hone rfl (by rw [← hCS]; rfl) fun w7 b7 _ _ => ?_
          simp only [Act.put, List.setIfInBounds_toArray, List.set_cons_succ, List.set_cons_zero]
          have L5 := Lib.hid ((L5q.out.old b7).mono (N' := stepsZ script (j + 1)) (by omega))
          clear b7 L5q hCS hcl hone
          go_wp2_with fail
          go_roundw
          case rel => exact ⟨j + 1, row5, book, sent, by omega, by go_num, L5, HF5, by omega, by omega⟩
          case measure => simp [intOf]; omega
        · rw [hD] at CT
          have HMV := Lib.hid (HMM.out (by simpa using hD))
          have HVT := Lib.hid (HMT.out (by simpa using hD))
          clear HMM HMT hD
          go_wp2_with fail
          refine CT.out.mono ?_
          rintro r w5 ⟨⟨cs, rfl, hcl, hone, hE⟩, l5⟩
          have L5q := Lib.hid l5
          have HE5 := Lib.hid hE
          clear CT l5 L4 q0 q1 q2 lq hE
          obtain ⟨CS, hCS⟩ : ∃ CS, CS = cs.toArray := ⟨_, rfl⟩
          rw [← hCS]
          rename_i hK
          refine hK _ _ ?_
          clear hK
          refine wpList_val (w' := w5) rfl (v := .tuple #[.agg CS, .bool true]) (by simp only [execOp]; go_simp) ?_
          simp only [Act.put, List.setIfInBounds_toArray, List.set_cons_succ, List.set_cons_zero]
          refine wpList_val (w' := w5) rfl (v := .agg CS) (by simp only [execOp]; go_simp) ?_
          refine wpList_val (w' := w5) rfl (v := .bool true) (by simp only [execOp]; go_simp) ?_
          simp only [Act.put, List.setIfInBounds_toArray, List.set_cons_succ, List.set_cons_zero]
          refine wpList_boxpk rfl rfl (.tmp 11) (.tmp 82) rfl rfl cs hcl hone rfl (by rw [← hCS]; rfl) fun w7 b7 k7 _ => ?_
          simp only [Act.put, List.setIfInBounds_toArray, List.set_cons_succ, List.set_cons_zero]
          have L7 := Lib.hid ((L5q.out.old b7).mono (N' := stepsZ script (j + 1)) (by omega))
          have HE7 := Lib.hid (HE5.out.step (X' := fun k => w.heap.size ≤ k) (Y := fun _ => False) (Keep.of_below b7) (fun _ _ h => h.elim) (fun _ _ h => h))
          have K7 := Lib.hid k7
          clear b7 k7 L5q HE5 hCS hone
          obtain ⟨q, hq⟩ : ∃ q, q = w5.heap.size := ⟨_, rfl⟩
          rw [← hq] at K7 ⊢
          clear hq
          have hsz : sent.length ≤ 1048576 := by have := HZ.out j; omega
          obtain ⟨_, _, hse, hss⟩ := L7.out.sentAt hsz
          injection hse with h1 _ h3
          subst h1 h3
          have HSS := Lib.hid hss
          have hsc := hss.cap
          have hsm := hss.max
          clear hss
          go_upto_block 5 with fail
          go_cut [13] (fun f wc => f = .bool (fndB sent V sent.length) ∧ Hid (Below w7.heap.size w7 wc))
          case first =>
            go_wp2_with fail
            go_loopw [13, 14] (fun f i wr => ∃ k : Nat, k ≤ sent.length ∧ i = .int .i64 k ∧ f = .bool (fndB sent V k) ∧ Hid (Below w7.heap.size w7 wr)) (fun _ i _ => sent.length - (intOf i).toNat)
            case atStart => exact ⟨0, by omega, rfl, rfl, Lib.hid (Below.refl _ _)⟩
            case round =>
              obtain ⟨k, hk, rfl, rfl, HB⟩ := hrel
              by_cases hlk : k < sent.length
              · obtain ⟨z, hz⟩ : ∃ z, sent[k]? = some z := ⟨_, List.getElem?_eq_getElem hlk⟩
                obtain ⟨g, o, _, hae, _⟩ := HSS.out.cell k z hz
                subst hae
                have hfs := fnd_snoc (y := V) hz
                cases hf : fndB sent V k
                · rw [hf, Bool.false_or] at hfs
                  have hinf : (Try.prog.info? 56).map (·.size) = some cs.toArray.size := by rw [List.size_toArray, hcl]; kernel_rfl
                  have HLD := Lib.hid (fun (wa : World) (hb : Below wr.heap.size wr wa) => run_loadVar_row (P := Try.prog) wa q 56 56 cs.toArray (0, 0) _ (blk_below K7.out (bthen HB.out hb)) Try.underlying56 rfl hinf)
                  have CSP := Lib.hid (show ∀ (wa : World) (gb : Nat), Below wr.heap.size wr wa → wa.heap[gb]? = some (.cells cs.toArray 56 (0, 0)) → Calls Try.prog 26 #[.slice (some ⟨g, o + k * 19, none⟩) 1 (sc - k), .slice (some ⟨gb, 0, none⟩) 1 1] wa fun e w'' => e = .returned (.bool (decide (z.canon = V.canon))) ∧ Below wa.heap.size wa w'' from fun wa gb hb hk => by
                    have h := samepks_any (some ⟨g, o + k * 19, none⟩) 1 (sc - k) [z] (some ⟨gb, 0, none⟩) 1 1 [V] wa ((HSS.out.old (bthen HB.out hb)).at hz (by omega) (by omega)) (sl_one (HE7.out wa (Keep.of_below (bthen HB.out hb))) hk)
                    simpa using h)
                  have hjw : IntKind.i64.wrap ((k : Int) + 1) = (k : Int) + 1 := IntWalk.i64_in _ (by omega)
                  have hj0' : (0 : Int) ≤ (k : Int) := by omega
                  have hj1' : (k : Int) + 1 ≤ (sc : Int) := by omega
                  have hj2 : (0 : Int) ≤ (k : Int) + 1 := by omega
                  have hj3 : (k : Int) ≤ (k : Int) + 1 := by omega
                  have hc0 : ¬ sc = k := by omega
                  rw [← hfs] at CSP
                  generalize hDD : fndB sent V (k + 1) = D at *
                  clear hfs hz
                  go_upto_region 31 with (fail)
                  refine wp_region_made 11 (forgeT q g o sent.length sc k cs D) (fun _ _ => none) rfl (by kernel_rfl) (by kernel_rfl) forgeT_stab (fun _ _ _ _ _ h => by cases h) (fun i oo hi ho => ?_) (fun vs w9 hb7 hs hne => ?_)
                  · intro ac wa hba hE hF K hK
                    have b7 := below_undrew hba
                    have hno : ∀ k, (none : Option Nat) = some k → wa.heap.size ≤ k := fun _ h => by cases h
                    have hld := HLD.out wa b7
                    have hi' : i = 0 ∨ i = 1 ∨ i = 2 ∨ i = 3 ∨ i = 4 ∨ i = 5 ∨ i = 6 ∨ i = 7 ∨ i = 8 ∨ i = 9 ∨ i = 10 := by omega
                    rcases hi' with rfl | rfl | rfl | rfl | rfl | rfl | rfl | rfl | rfl | rfl | rfl
                    · obtain rfl := Option.some.inj ho
                      have h1 : ac.eval (.tmp 13) = .bool false := hE 13 (by decide)
                      exact news_val rfl rfl (by generalize ac.eval = ρ at h1; simp only [execOp]; go_simp) (hK _ _ (Below.refl _ _) rfl hno)
                    · obtain rfl := Option.some.inj ho
                      have h1 : ac.eval (.tmp 92) = .bool false := hF ⟨0, .data⟩ (by simp) rfl 92 rfl
                      exact news_val rfl rfl (by generalize ac.eval = ρ at h1; simp only [execOp]; go_simp) (hK _ _ (Below.refl _ _) rfl hno)
                    · obtain rfl := Option.some.inj ho
                      have hg : ac.eval (.tmp 93) = .bool false := hF ⟨1, .guard⟩ (by simp) rfl 93 rfl
                      have h1 : ac.eval (.tmp 6) = .slice (some ⟨g, o, none⟩) sent.length sc := hE 6 (by decide)
                      exact news_gval rfl (wanted_of rfl rfl hg) (by generalize ac.eval = ρ at h1; simp only [execOp]; go_simp) (hK _ _ (Below.refl _ _) rfl hno)
                    · obtain rfl := Option.some.inj ho
                      have hg : ac.eval (.tmp 93) = .bool false := hF ⟨1, .guard⟩ (by simp) rfl 93 rfl
                      have h1 : ac.eval (.tmp 14) = .int .i64 (k : Int) := hE 14 (by decide)
                      exact news_gval rfl (wanted_of rfl rfl hg) (by generalize ac.eval = ρ at h1; simp only [execOp]; go_simp) (hK _ _ (Below.refl _ _) rfl hno)
                    · obtain rfl := Option.some.inj ho
                      have hg : ac.eval (.tmp 93) = .bool false := hF ⟨1, .guard⟩ (by simp) rfl 93 rfl
                      have h1 : ac.eval (.tmp 14) = .int .i64 (k : Int) := hE 14 (by decide)
                      exact news_gval rfl (wanted_of rfl rfl hg) (by generalize ac.eval = ρ at h1; simp only [execOp]; go_simp) (hK _ _ (Below.refl _ _) rfl hno)
                    · obtain rfl := Option.some.inj ho
                      have hg : ac.eval (.tmp 93) = .bool false := hF ⟨1, .guard⟩ (by simp) rfl 93 rfl
                      have h1 : ac.eval (.tmp 96) = .int .i64 (k : Int) := hF ⟨4, .data⟩ (by simp) rfl 96 rfl
                      have h2 : ac.eval (.const (.int .i64 1)) = .int .i64 1 := rfl
                      exact news_gval rfl (wanted_of rfl rfl hg) (by generalize ac.eval = ρ at h1 h2; simp only [execOp]; go_simp) (hK _ _ (Below.refl _ _) rfl hno)
                    · obtain rfl := Option.some.inj ho
                      have hg : ac.eval (.tmp 93) = .bool false := hF ⟨1, .guard⟩ (by simp) rfl 93 rfl
                      have h1 : ac.eval (.tmp 94) = .slice (some ⟨g, o, none⟩) sent.length sc := hF ⟨2, .data⟩ (by simp) rfl 94 rfl
                      have h2 : ac.eval (.tmp 95) = .int .i64 (k : Int) := hF ⟨3, .data⟩ (by simp) rfl 95 rfl
                      have h3 : ac.eval (.tmp 97) = .int .i64 ((k : Int) + 1) := hF ⟨5, .data⟩ (by simp) rfl 97 rfl
                      exact news_gval rfl (wanted_of rfl rfl hg) (by generalize ac.eval = ρ at h1 h2 h3; simp only [execOp]; go_simp) (hK _ _ (Below.refl _ _) rfl hno)
                    · obtain rfl := Option.some.inj ho
                      have hg : ac.eval (.tmp 93) = .bool false := hF ⟨1, .guard⟩ (by simp) rfl 93 rfl
                      have h1 : ac.eval (.tmp 11) = .pointer (some ⟨q, 0, none⟩) := hE 11 (by decide)
                      exact news_gload rfl (wanted_of rfl rfl hg) 56 (.tmp 11) rfl q 0 h1 hld (hK _ _ (Below.refl _ _) rfl hno)
                    · obtain rfl := Option.some.inj ho
                      have hg : ac.eval (.tmp 93) = .bool false := hF ⟨1, .guard⟩ (by simp) rfl 93 rfl
                      obtain h1 : (ac.eval (.tmp 99)) = .agg cs.toArray := hF ⟨7, .data⟩ (by simp) rfl 99 rfl
                      exact news_gval rfl (wanted_of rfl rfl hg) (build_pk1 _ _ (.tmp 99) rfl cs hcl h1 wa) (hK _ _ (below_alloc _ _) ⟨wa.heap.size, rfl, blk_alloc _ _⟩ hno)
                    · obtain rfl := Option.some.inj ho
                      have hg : ac.eval (.tmp 93) = .bool false := hF ⟨1, .guard⟩ (by simp) rfl 93 rfl
                      have h1 : ac.eval (.tmp 98) = .slice (some ⟨g, o + k * 19, none⟩) 1 (sc - k) := hF ⟨6, .data⟩ (by simp) rfl 98 rfl
                      obtain ⟨gb, h2, hbb⟩ : ∃ h, (ac.eval (.tmp 100)) = .slice (some ⟨h, 0, none⟩) 1 1 ∧ wa.heap[h]? = some (.cells cs.toArray 56 (0, 0)) := hF ⟨8, .data⟩ (by simp) rfl 100 rfl
                      have hf : ac.eval (.func 26) = .func (.func 26) #[] #[] := rfl
                      refine made_gcall rfl (wanted_of rfl rfl hg) 26 #[.slice (some ⟨g, o + k * 19, none⟩) 1 (sc - k), .slice (some ⟨gb, 0, none⟩) 1 1] (by generalize ac.eval = ρ at h1 h2 hf; simp only [execOp]; go_simp) (CSP.out wa gb b7 hbb) ?_
                      rintro r w8 ⟨rfl, b8⟩
                      exact ⟨_, rfl, hK _ _ b8 rfl hno⟩
                    · obtain rfl := Option.some.inj ho
                      have h1 : ac.eval (.tmp 93) = .bool false := hF ⟨1, .data⟩ (by simp) rfl 93 rfl
                      obtain h2 : (ac.eval (.tmp 101)) = .bool D := hF ⟨9, .data⟩ (by simp) rfl 101 rfl
                      have h3 : ac.eval (.const (.bool true)) = .bool true := rfl
                      exact news_val rfl rfl (by generalize ac.eval = ρ at h1 h2 h3; simp only [execOp]; go_simp) (hK _ _ (Below.refl _ _) rfl hno)
                  · have e0 : vs 0 = _ := hs 0 (by omega)
                    have e1 : vs 1 = _ := hs 1 (by omega)
                    have e2 : vs 2 = _ := hs 2 (by omega)
                    have e3 : vs 3 = _ := hs 3 (by omega)
                    have e4 : vs 4 = _ := hs 4 (by omega)
                    have e5 : vs 5 = _ := hs 5 (by omega)
                    have e6 : vs 6 = _ := hs 6 (by omega)
                    obtain e7 : (vs 7) = .agg cs.toArray := hs 7 (by omega)
                    obtain ⟨gb, e8, hbb⟩ : ∃ h, (vs 8) = .slice (some ⟨h, 0, none⟩) 1 1 ∧ w9.heap[h]? = some (.cells cs.toArray 56 (0, 0)) := hs 8 (by omega)
                    obtain e9 : (vs 9) = .bool D := hs 9 (by omega)
                    obtain e10 : (vs 10) = .bool D := hs 10 (by omega)
                    show wpList _ _ _ _ (((((((((((Act.put _ (some 92) (vs 0)).put (some 93) (vs 1)).put (some 94) (vs 2)).put (some 95) (vs 3)).put (some 96) (vs 4)).put (some 97) (vs 5)).put (some 98) (vs 6)).put (some 99) (vs 7)).put (some 100) (vs 8)).put (some 101) (vs 9)).put (some 102) (vs 10)) _
                    rw [e0, e1, e2, e3, e4, e5, e6, e7, e8, e9, e10]
                    clear e0 e1 e2 e3 e4 e5 e6 e7 e8 e9 e10 hs hne vs
                    simp only [List.drop_succ_cons, List.drop_zero, List.drop_nil, Act.put, List.setIfInBounds_toArray, List.set_cons_succ, List.set_cons_zero]
                    have HB9 := Lib.hid (bthen HB.out hb7)
                    clear hb7 CSP HLD HB
                    go_wp2_with fail
                    go_roundw
                    case rel => exact ⟨k + 1, by omega, by go_num, by rw [hDD], HB9⟩
                    case measure => simp [intOf]; omega
                · rw [hf, Bool.true_or] at hfs
                  have hjw : IntKind.i64.wrap ((k : Int) + 1) = (k : Int) + 1 := IntWalk.i64_in _ (by omega)
                  clear hz
                  go_upto_region 31 with (fail)
                  refine wp_region_made 11 (forgeU q) (fun _ _ => none) rfl (by kernel_rfl) (by kernel_rfl) forgeU_stab (fun _ _ _ _ _ h => by cases h) (fun i oo hi ho => ?_) (fun vs w9 hb7 hs hne => ?_)
                  · intro ac wa hba hE hF K hK
                    have b7 := below_undrew hba
                    have hno : ∀ k, (none : Option Nat) = some k → wa.heap.size ≤ k := fun _ h => by cases h
                    have hi' : i = 0 ∨ i = 1 ∨ i = 2 ∨ i = 3 ∨ i = 4 ∨ i = 5 ∨ i = 6 ∨ i = 7 ∨ i = 8 ∨ i = 9 ∨ i = 10 := by omega
                    rcases hi' with rfl | rfl | rfl | rfl | rfl | rfl | rfl | rfl | rfl | rfl | rfl
                    · obtain rfl := Option.some.inj ho
                      have h1 : ac.eval (.tmp 13) = .bool true := hE 13 (by decide)
                      exact news_val rfl rfl (by generalize ac.eval = ρ at h1; simp only [execOp]; go_simp) (hK _ _ (Below.refl _ _) rfl hno)
                    · obtain rfl := Option.some.inj ho
                      have h1 : ac.eval (.tmp 92) = .bool true := hF ⟨0, .data⟩ (by simp) rfl 92 rfl
                      exact news_val rfl rfl (by generalize ac.eval = ρ at h1; simp only [execOp]; go_simp) (hK _ _ (Below.refl _ _) rfl hno)
                    · obtain rfl := Option.some.inj ho
                      have hg : ac.eval (.tmp 93) = .bool true := hF ⟨1, .guard⟩ (by simp) rfl 93 rfl
                      exact news_gskip rfl (unwanted_of rfl rfl hg (by decide)) (hK _ _ (Below.refl _ _) rfl hno)
                    · obtain rfl := Option.some.inj ho
                      have hg : ac.eval (.tmp 93) = .bool true := hF ⟨1, .guard⟩ (by simp) rfl 93 rfl
                      exact news_gskip rfl (unwanted_of rfl rfl hg (by decide)) (hK _ _ (Below.refl _ _) rfl hno)
                    · obtain rfl := Option.some.inj ho
                      have hg : ac.eval (.tmp 93) = .bool true := hF ⟨1, .guard⟩ (by simp) rfl 93 rfl
                      exact news_gskip rfl (unwanted_of rfl rfl hg (by decide)) (hK _ _ (Below.refl _ _) rfl hno)
                    · obtain rfl := Option.some.inj ho
                      have hg : ac.eval (.tmp 93) = .bool true := hF ⟨1, .guard⟩ (by simp) rfl 93 rfl
                      exact news_gskip rfl (unwanted_of rfl rfl hg (by decide)) (hK _ _ (Below.refl _ _) rfl hno)
                    · obtain rfl := Option.some.inj ho
                      have hg : ac.eval (.tmp 93) = .bool true := hF ⟨1, .guard⟩ (by simp) rfl 93 rfl
                      exact news_gskip rfl (unwanted_of rfl rfl hg (by decide)) (hK _ _ (Below.refl _ _) rfl hno)
                    · obtain rfl := Option.some.inj ho
                      have hg : ac.eval (.tmp 93) = .bool true := hF ⟨1, .guard⟩ (by simp) rfl 93 rfl
                      exact news_gskip rfl (unwanted_of rfl rfl hg (by decide)) (hK _ _ (Below.refl _ _) rfl hno)
                    · obtain rfl := Option.some.inj ho
                      have hg : ac.eval (.tmp 93) = .bool true := hF ⟨1, .guard⟩ (by simp) rfl 93 rfl
                      exact news_gskip rfl (unwanted_of rfl rfl hg (by decide)) (hK _ _ (Below.refl _ _) rfl hno)
                    · obtain rfl := Option.some.inj ho
                      have hg : ac.eval (.tmp 93) = .bool true := hF ⟨1, .guard⟩ (by simp) rfl 93 rfl
                      exact news_gskip rfl (unwanted_of rfl rfl hg (by decide)) (hK _ _ (Below.refl _ _) rfl hno)
                    · obtain rfl := Option.some.inj ho
                      have h1 : ac.eval (.tmp 93) = .bool true := hF ⟨1, .data⟩ (by simp) rfl 93 rfl
                      obtain h2 : (ac.eval (.tmp 101)) = undef := hF ⟨9, .data⟩ (by simp) rfl 101 rfl
                      have h3 : ac.eval (.const (.bool true)) = .bool true := rfl
                      exact news_val rfl rfl (by generalize ac.eval = ρ at h1 h2 h3; simp only [execOp]; go_simp) (hK _ _ (Below.refl _ _) rfl hno)
                  · have e0 : vs 0 = _ := hs 0 (by omega)
                    have e1 : vs 1 = _ := hs 1 (by omega)
                    obtain e2 : (vs 2) = undef := hs 2 (by omega)
                    obtain e3 : (vs 3) = undef := hs 3 (by omega)
                    obtain e4 : (vs 4) = undef := hs 4 (by omega)
                    obtain e5 : (vs 5) = undef := hs 5 (by omega)
                    obtain e6 : (vs 6) = undef := hs 6 (by omega)
                    obtain e7 : (vs 7) = undef := hs 7 (by omega)
                    obtain e8 : (vs 8) = undef := hs 8 (by omega)
                    obtain e9 : (vs 9) = undef := hs 9 (by omega)
                    obtain e10 : (vs 10) = .bool true := hs 10 (by omega)
                    show wpList _ _ _ _ (((((((((((Act.put _ (some 92) (vs 0)).put (some 93) (vs 1)).put (some 94) (vs 2)).put (some 95) (vs 3)).put (some 96) (vs 4)).put (some 97) (vs 5)).put (some 98) (vs 6)).put (some 99) (vs 7)).put (some 100) (vs 8)).put (some 101) (vs 9)).put (some 102) (vs 10)) _
                    rw [e0, e1, e2, e3, e4, e5, e6, e7, e8, e9, e10]
                    clear e0 e1 e2 e3 e4 e5 e6 e7 e8 e9 e10 hs hne vs
                    simp only [List.drop_succ_cons, List.drop_zero, List.drop_nil, Act.put, List.setIfInBounds_toArray, List.set_cons_succ, List.set_cons_zero]
                    have HB9 := Lib.hid (bthen HB.out hb7)
                    clear hb7 HB
                    go_wp2_with fail
                    go_roundw
                    case rel => exact ⟨k + 1, by omega, by go_num, by rw [hfs], HB9⟩
                    case measure => simp [intOf]; omega
              · obtain rfl : k = sent.length := by omega
                have hd : decide ((sent.length : Int) < (sent.length : Int)) = false := by simp
                generalize fndB sent V sent.length = D at *
                go_wp2_with fail
                go_meet
                case rel => exact ⟨rfl, HB⟩
          case rest =>
              obtain ⟨rfl, HB⟩ := hcut
              obtain ⟨wr, hwr⟩ : ∃ u : World, u = wc := ⟨_, rfl⟩
              subst hwr
              have L9 := Lib.hid (L7.out.old HB.out)
              cases hf : fndB sent V sent.length
              · obtain ⟨hv1, hv2, hv3⟩ := HMV.out hf
                obtain ⟨d1, m1, e1, d2, m2, e2, d3, m3, e3, d4, m4, e4, hcs, hyf, hyt, hmi⟩ := pk_open (HE7.out wr (Keep.of_below HB.out))
                have kw : wr.heap[q]? = some (.cells cs.toArray 56 (0, 0)) := blk_below K7.out HB.out
                have hmlen : (Try.prog.info? 34).map (·.size) = some (mgCs V.m d1 m1 e1 d2 m2 e2 d3 m3 e3 d4 m4 e4).length := by kernel_rfl
                have x0 : wr.cell? ⟨q, 0, none⟩ = some (.int .i64 V.fr) := by rw [blk_cell kw, hcs]; rfl
                have HRG := Lib.hid (show ∀ u, Below wr.heap.size wr u → u.rangeAt q 2 (mgCs V.m d1 m1 e1 d2 m2 e2 d3 m3 e3 d4 m4 e4) from fun u hu i v hi => by
                  rw [blk_cell (blk_below kw hu), hcs]
                  rw [← hi]
                  simp [pkCs, List.getElem?_cons, Nat.add_comm 2 i])
                have CHS := Lib.hid (rhas_any ba bn bc bad V.fr wr (ints_of_sl (HBD.out.old L9.out.below)))
                rw [hv1] at CHS
                have CFT := Lib.hid (rfits_any V.m d1 m1 e1 d2 m2 e2 d3 m3 e3 d4 m4 e4 wr hmi)
                rw [hv2] at CFT
                have CTM := Lib.hid (fun (u : World) (hu : Below wr.heap.size wr u) => rterms_any V.m d1 m1 e1 d2 m2 e2 d3 m3 e3 d4 m4 e4 u (hmi.old hu) (by have := HVT.out; omega))
                have HFN := Lib.hid (show ∀ s ∈ termsP V.m, sgOk s from terms_fine hmi)
                generalize hms : mgCs V.m d1 m1 e1 d2 m2 e2 d3 m3 e3 d4 m4 e4 = ms at *
                clear hms hcs hyf hyt hmi kw
                have lq := World.block_lt x0
                go_upto_region 32 with (fail)
                refine wp_region_lit ?_
                refine wpList_val (w' := wr) rfl (v := .bool false) (by simp only [execOp]; go_simp) ?_
                simp only [Act.put, List.setIfInBounds_toArray, List.set_cons_succ, List.set_cons_zero]
                refine wpList_val (w' := wr) rfl (v := .bool true) (by simp only [execOp]; go_simp) ?_
                simp only [Act.put, List.setIfInBounds_toArray, List.set_cons_succ, List.set_cons_zero]
                refine wpList_val (w' := wr) rfl (v := .bool true) (by simp only [execOp]; go_simp) ?_
                simp only [Act.put, List.setIfInBounds_toArray, List.set_cons_succ, List.set_cons_zero]
                refine wpList_gval (w' := wr) rfl (v := .slice ba bn bc) (by simp only [execOp]; go_simp) ?_
                simp only [Act.put, List.setIfInBounds_toArray, List.set_cons_succ, List.set_cons_zero]
                refine wpList_gval (w' := wr) rfl (v := .pointer (some ⟨q, 0, none⟩)) (by simp only [execOp]; go_simp) ?_
                simp only [Act.put, List.setIfInBounds_toArray, List.set_cons_succ, List.set_cons_zero]
                refine wpList_gval (w' := wr) rfl (v := .int .i64 V.fr) (by simp only [execOp]; go_simp) ?_
                simp only [Act.put, List.setIfInBounds_toArray, List.set_cons_succ, List.set_cons_zero]
                refine wpList_gcall rfl 33 #[.slice ba bn bc, .int .i64 V.fr] (by simp only [execOp]; go_simp) CHS.out ?_
                rintro r w10 ⟨rfl, rfl⟩
                refine ⟨_, rfl, ?_⟩
                simp only [Act.put, List.setIfInBounds_toArray, List.set_cons_succ, List.set_cons_zero]
                refine wpList_gval (w' := wr) rfl (v := .bool false) (by simp only [execOp]; go_simp) ?_
                simp only [Act.put, List.setIfInBounds_toArray, List.set_cons_succ, List.set_cons_zero]
                refine wpList_gval (w' := wr) rfl (v := .bool false) (by simp only [execOp]; go_simp) ?_
                simp only [Act.put, List.setIfInBounds_toArray, List.set_cons_succ, List.set_cons_zero]
                refine wpList_gval (w' := wr) rfl (v := .pointer (some ⟨q, 2, none⟩)) (by simp only [execOp]; go_simp) ?_
                simp only [Act.put, List.setIfInBounds_toArray, List.set_cons_succ, List.set_cons_zero]
                refine wpList_gval (w' := wr) rfl (v := .agg ms.toArray) (load_msg2 _ _ (.tmp 112) rfl rfl (HRG.out wr (Below.refl _ _)) hmlen) ?_
                simp only [Act.put, List.setIfInBounds_toArray, List.set_cons_succ, List.set_cons_zero]
                refine wpList_gcall rfl 34 #[.agg ms.toArray] (by simp only [execOp]; go_simp) CFT.out ?_
                rintro r w11 ⟨rfl, b11⟩
                refine ⟨_, rfl, ?_⟩
                simp only [Act.put, List.setIfInBounds_toArray, List.set_cons_succ, List.set_cons_zero]
                have L11 := Lib.hid (L9.out.old b11)
                refine wpList_gval (w' := w11) rfl (v := .bool false) (by simp only [execOp]; go_simp) ?_
                simp only [Act.put, List.setIfInBounds_toArray, List.set_cons_succ, List.set_cons_zero]
                refine wpList_gval (w' := w11) rfl (v := .bool false) (by simp only [execOp]; go_simp) ?_
                simp only [Act.put, List.setIfInBounds_toArray, List.set_cons_succ, List.set_cons_zero]
                refine wpList_gval (w' := w11) rfl (v := .bool false) (by simp only [execOp]; go_simp) ?_
                simp only [Act.put, List.setIfInBounds_toArray, List.set_cons_succ, List.set_cons_zero]
                refine wpList_gval (w' := w11) rfl (v := .slice na book.length nc) (by simp only [execOp]; go_simp) ?_
                simp only [Act.put, List.setIfInBounds_toArray, List.set_cons_succ, List.set_cons_zero]
                refine wpList_gval (w' := w11) rfl (v := .slice ba bn bc) (by simp only [execOp]; go_simp) ?_
                simp only [Act.put, List.setIfInBounds_toArray, List.set_cons_succ, List.set_cons_zero]
                refine wpList_gval (w' := w11) rfl (v := .pointer (some ⟨q, 2, none⟩)) (by simp only [execOp]; go_simp) ?_
                simp only [Act.put, List.setIfInBounds_toArray, List.set_cons_succ, List.set_cons_zero]
                refine wpList_gval (w' := w11) rfl (v := .agg ms.toArray) (load_msg2 _ _ (.tmp 120) rfl rfl (HRG.out w11 b11) hmlen) ?_
                simp only [Act.put, List.setIfInBounds_toArray, List.set_cons_succ, List.set_cons_zero]
                refine wpList_gcall rfl 18 #[.agg ms.toArray] (by simp only [execOp]; go_simp) (CTM.out w11 b11) ?_
                rintro r w12 ⟨b12, v12, rfl, ho12⟩
                refine ⟨_, rfl, ?_⟩
                simp only [Act.put, List.setIfInBounds_toArray, List.set_cons_succ, List.set_cons_zero]
                obtain ⟨a12, c12, rfl⟩ := owns_form ho12
                have L12 := Lib.hid (L11.out.old b12)
                obtain ⟨_, _, hne, hns⟩ := L12.out.seenAt (by have := HZ.out j; omega)
                injection hne with h1 _ h3
                subst h1 h3
                have CDV := Lib.hid (rderiv_any na book.length nc book ba bn bc bad a12 (termsP V.m).length c12 (termsP V.m) w12 hns (ints_of_sl (HBD.out.old L12.out.below)) (sl_owned ho12 HFN.out (by have := HVT.out; omega)))
                rw [hv3] at CDV
                refine wpList_gcall rfl 35 #[.slice na book.length nc, .slice ba bn bc, .slice a12 (termsP V.m).length c12] (by simp only [execOp]; go_simp) CDV.out ?_
                rintro r w13 ⟨rfl, b13⟩
                refine ⟨_, rfl, ?_⟩
                simp only [Act.put, List.setIfInBounds_toArray, List.set_cons_succ, List.set_cons_zero]
                have L13 := Lib.hid (L12.out.old b13)
                refine wpList_gval (w' := w13) rfl (v := .bool false) (by simp only [execOp]; go_simp) ?_
                simp only [Act.put, List.setIfInBounds_toArray, List.set_cons_succ, List.set_cons_zero]
                refine wpList_gval (w' := w13) rfl (v := .bool false) (by simp only [execOp]; go_simp) ?_
                simp only [Act.put, List.setIfInBounds_toArray, List.set_cons_succ, List.set_cons_zero]
                refine wpList_val (w' := w13) rfl (v := .bool false) (by simp only [execOp]; go_simp) ?_
                simp only [Act.put, List.setIfInBounds_toArray, List.set_cons_succ, List.set_cons_zero]
                clear CHS CFT CTM CDV HRG hmlen x0 lq L9 L11 L12 hns ho12 b11 b12 b13 HFN HSS K7 HE7 L7 HB
                go_wp2_with fail
                go_roundw
                case rel => exact ⟨j + 1, row5, book, sent, by omega, by go_num, L13, HF5, by omega, by omega⟩
                case measure => simp [intOf]; omega
              · clear HSS K7 HE7 L7 HB
                go_wp2_with fail
                go_roundw
                case rel => exact ⟨j + 1, row5, book, sent, by omega, by go_num, L9, HF5, by omega, by omega⟩
                case measure => simp [intOf]; omega
      · have CT := Lib.hid (L4.out.nobox.drop HNN.out)
        have HF5 := Lib.hid (HF.out.take y.n)
        clear HF
        generalize takeR row y.n = row5 at *
        go_wp2_with fail
        refine CT.out.mono ?_
        rintro r w5 ⟨rfl, l5⟩
        have L5 := Lib.hid (l5.mono (N' := stepsZ script (j + 1)) (by omega))
        clear CT l5 L4 q0 q1 q2 lq
        go_wp2_with fail
        go_roundw
        case rel => exact ⟨j + 1, row5, book, sent, by omega, by go_num, L5, HF5, by omega, by omega⟩
        case measure => simp [intOf]; omega
      · have CT := Lib.hid (L4.out.nobox.copy HNN.out)
        have HF5 := Lib.hid (HF.out.copy y.n)
        clear HF
        generalize copyR row y.n = row5 at *
        go_wp2_with fail
        refine CT.out.mono ?_
        rintro r w5 ⟨rfl, l5⟩
        have L5 := Lib.hid (l5.mono (N' := stepsZ script (j + 1)) (by omega))
        clear CT l5 L4 q0 q1 q2 lq
        go_wp2_with fail
        go_roundw
        case rel => exact ⟨j + 1, row5, book, sent, by omega, by go_num, L5, HF5, by omega, by omega⟩
        case measure => simp [intOf]; omega
    · obtain rfl : j = n := by omega
      have hd : decide ((j : Int) < (j : Int)) = false := by simp
      have HB := Lib.hid HL.out.below
      go_wp2_with fail
      go_ret
      exact ⟨rfl, HB.out⟩

set_option maxRecDepth 100000 in
theorem lifted (os : Os) (started : os.Started) (H : Type) (enc : TypeId × Value → H) (F : Stop.Interp) :
    ReturnsInHanded {} Try.checked os 10 .any ((Rows.OpenSpec.upto Rows.lanesForgeSpec).pre6 enc Try.prog Try.f10 Rows.lanesForgeUptoRow.domain false) (((Rows.OpenSpec.upto Rows.lanesForgeSpec).at F).post enc Try.prog Try.f10 false true false false) := by
  refine returnsInHanded_of_cond (C := Try.checked) (s := Rows.OpenSpec.upto Rows.lanesForgeSpec) (k := Rows.uptoSmall) rfl own started (by kernel_rfl) Try.func10
    (OpenSpec.witness (enc := enc) (C := Try.checked) (s := Rows.OpenSpec.upto Rows.lanesForgeSpec) (k := Rows.uptoSmall) rfl false ⟨#[], #[.slice none 0 0, .slice none 0 0], []⟩ 8 (by kernel_rfl) (by kernel_rfl) (by kernel_rfl)
      (x := ([.nil, .nil], [], [])) (by kernel_rfl) rfl (by kernel_rfl)) ?_
  intro W base args ds gs before hval0 hW _ hk _
  have hval : ∀ (j : Nat) t v, Try.f10.params[j]? = some t → args[j]? = some v → Value.okWide Try.prog W .any base t v := hval0
  have hW' := hW
  obtain ⟨p, q, hA0, hV, rfl, hfz, hnd⟩ := hW
  have hA : DataW.TrodAll enc Try.prog W 0 (fun _ => true) true Try.f10.params.toList args.toList ds p := hA0
  rw [Try.params10] at hA hval
  have hA2 := hA
  obtain ⟨v0, vs0, d0, ds0, p0, q0, hargs, rfl, rfl, h0, r0⟩ := trodAll_cons hA
  obtain ⟨v1, vs1, d1, ds1, p1, q1, rfl, rfl, rfl, h1, r1⟩ := trodAll_cons r0
  obtain ⟨rfl, rfl, rfl⟩ := trodAll_nil r1
  obtain rfl : args = #[v0, v1] := by cases args; simp_all
  obtain ⟨rfl, rfl⟩ := trodVars_none hV
  clear hargs
  have hk' : Rows.uptoSmall H [d0, d1] = true := by simpa using hk
  have k0 := hval 0 29 v0 rfl rfl
  obtain ⟨fu0, m0⟩ := h0
  have F0 : Fit Try.prog 29 d0 := fit_upto hk' (by simp) _
  obtain ⟨l0, ⟨a0, n0, c0, e0, f0⟩, g0⟩ := vwInts.2.2 m0 F0
  have e0' := slice_of Try.underlying29 k0 e0
  subst e0'
  have k1 := hval 1 62 v1 rfl rfl
  obtain ⟨fu1, m1⟩ := h1
  have F1 : Fit Try.prog 62 d1 := fit_upto hk' (by simp) _
  obtain ⟨l1, ⟨a1, n1, c1, e1, f1⟩, g1⟩ := vwSteps.2.2 m1 F1
  have e1' := slice_of Try.underlying62 k1 e1
  subst e1'
  have G0 : Sh.int.slice.sz l0 ≤ Rows.uptoBulk d0 := g0
  have G1 : shStep.slice.sz l1 ≤ Rows.uptoBulk d1 := g1
  have HK : Sh.int.slice.sz l0 + shStep.slice.sz l1 ≤ 1048576 := by have h : Rows.uptoBulkAll [d0, d1] ≤ 1048576 := (by simpa [Rows.uptoSmall] using hk'); simp only [Rows.uptoBulkAll] at h; omega
  refine (walk W a0 n0 c0 l0 f0 a1 n1 c1 l1 f1 HK).mono fun e W' ⟨he, bel⟩ => ?_
  subst he
  exact ⟨_, rfl, _, _, _, [], _, [], hW', trodAll_mk1 (shut_bool Try.underlying4 _), trodAll_again laidOut bel (by kernel_rfl) hA2, rfl, bel.frame _, fun h => by cases h⟩

theorem over : Rows.lanesForgeUptoRow.holds Try.pinned (Rows.OpenSpec.upto Rows.lanesForgeSpec) :=
  OpenClaim.holds_of_cond 10 Try.f10 rfl rfl rfl rfl rfl rfl rfl ⟨rfl, rfl, rfl, rfl, rfl⟩ rfl rfl rfl rfl rfl (by kernel_rfl) Try.func10 (by kernel_rfl)
    (of_decide_eq_true (by kernel_rfl)) (by unfold Func.isWrapper; first | (rw [if_pos (by decide +kernel)]; kernel_rfl) | (rw [if_neg (by decide +kernel)]; exact ⟨rfl, rfl⟩))
    (fun os started H enc _ F => lifted os started H enc F)

theorem proved : Rows.LanesForgeUptoSaid := over
#print axioms proved
end Go.Proofs.Ytijeieamodjgbaa.lanesForge
