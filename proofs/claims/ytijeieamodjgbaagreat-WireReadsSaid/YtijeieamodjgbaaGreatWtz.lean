
/- Wire: walk of the reference's zero, whatever letters, operation by operation on an abstract frame. (printed by mkWtz.py) -/
import Derived.Test.YtijeieamodjgbaaGreatWte
import Derived.Test.YtijeieamodjgbaaGreatFr

namespace Go.Proofs.YtijeieamodjgbaaGreat
set_option maxRecDepth 100000
open Go.RowKit Go.Deep
set_option linter.unusedVariables false
set_option linter.unusedSimpArgs false
attribute [local go_sem] run_store_float

def zg0 (t : List UInt8) (m : Mg) : Bool := (letB t 118 || decide (m.v = 0))
def zg1 (t : List UInt8) (m : Mg) : Bool := zg0 t m && (letB t 115 || decide (m.s = 0))
def zg2 (t : List UInt8) (m : Mg) : Bool := zg1 t m && (letB t 114 || m.q.nil)
def zg3 (t : List UInt8) (m : Mg) : Bool := zg2 t m && (letB t 120 || sameResB m.c m.r 0 0)
def zg4 (t : List UInt8) (m : Mg) : Bool := zg3 t m && (letB t 116 || decide (m.t.size = 0))
def zg5 (t : List UInt8) (m : Mg) : Bool := zg4 t m && (letB t 110 || decide (m.nx.length = 0))
def zg6 (t : List UInt8) (m : Mg) : Bool := zg5 t m && (letB t 103 || decide (m.sg.length = 0))
def zg7 (t : List UInt8) (m : Mg) : Bool := zg6 t m && (letB t 99 || decide (m.ch.length = 0))
def zg8 (t : List UInt8) (m : Mg) : Bool := zg7 t m && (letB t 108 || decide (m.lk.length = 0))
set_option maxHeartbeats 4000000 in
theorem rzero_any (m : Mg) (a1 : Option Addr) (n1 c1 : Nat) (a2 : Option Addr) (n2 c2 : Nat) (a3 : Option Addr) (n3 c3 : Nat) (a4 : Option Addr) (n4 c4 : Nat) (t : ByteArray) (ht : t.size ≤ 4) (hl : ∀ b ∈ t.data.toList, b.toNat < 128) (w : World) (hm : MsgIn w m a1 n1 c1 a2 n2 c2 a3 n3 c3 a4 n4 c4) :
    Calls Tryz.prog 87 #[.agg (mgCs m a1 n1 c1 a2 n2 c2 a3 n3 c3 a4 n4 c4).toArray, .string t] w fun r w' => r = .returned (.bool (zg8 t.data.toList m)) ∧ Below w.heap.size w w' := by
  obtain ⟨w1, hw1⟩ : ∃ u, u = w.alloc (.cells (mgCs m a1 n1 c1 a2 n2 c2 a3 n3 c3 a4 n4 c4).toArray 35 (0, 0)) := ⟨_, rfl⟩
  have b1 : Below w.heap.size w w1 := by rw [hw1]; exact below_alloc _ _
  have K1 := Lib.hid (show w1.heap[w.heap.size]? = some (.cells (mgCs m a1 n1 c1 a2 n2 c2 a3 n3 c3 a4 n4 c4).toArray 35 (0, 0)) by rw [hw1]; exact blk_alloc _ _)
  have B1 := Lib.hid b1
  have HM := Lib.hid hm
  have hl1 := hm.nx.len
  have hl2 := hm.sg.len
  have hl3 := hm.ch.len
  have hl4 := hm.lk.len
  obtain ⟨CS, hCS⟩ : ∃ CS, CS = (mgCs m a1 n1 c1 a2 n2 c2 a3 n3 c3 a4 n4 c4).toArray := ⟨_, rfl⟩
  rw [← hCS] at hw1 ⊢
  have HCS := Lib.hid hCS
  clear hCS b1 hm
  go_enter Tryz.func87, Tryz.ntmps87
  go_upto_region 1 with (fail)
  rw [← hw1]
  clear hw1
  refine wp_region_lit ?_
  refine ops_val rfl (w' := w1) (v := .agg zeroArr.toArray) (build_arr _ _ rfl _) ?_
  simp only [Act.put, List.setIfInBounds_toArray, List.set_cons_succ, List.set_cons_zero]
  obtain ⟨ZA, hZA⟩ : ∃ ZA, ZA = zeroArr.toArray := ⟨_, rfl⟩
  rw [← hZA]
  refine ops_made 187 zeroArr rfl rfl (.tmp 5) (.tmp 7) (fun ρ w => alloc_arr ρ _ rfl w) rfl zeroArr rfl (by kernel_rfl) (by kernel_rfl) rfl (by rw [← hZA]; rfl) fun w2 b2 k2 z2 => ?_
  simp only [Act.put, List.setIfInBounds_toArray, List.set_cons_succ, List.set_cons_zero]
  have T2 := Lib.hid (tab_new t k2)
  have B2 := Lib.hid b2
  clear b2 k2 z2 hZA
  go_wp2_with fail
  go_loopw [6] (fun i wr => ∃ k : Nat, k ≤ t.size ∧ i = .int .i64 k ∧ Hid (Tab wr w1.heap.size (t.data.toList.take k)) ∧ Hid (Below w1.heap.size w1 wr)) (fun i _ => t.size - (intOf i).toNat)
  case atStart => exact ⟨0, by omega, rfl, T2, B2⟩
  case round =>
    clear T2 B2
    obtain ⟨k, hk, rfl, HT, HB⟩ := hrel
    by_cases hlt : k < t.size
    · have hd : decide ((k : Int) < (t.size : Int)) = true := by simp; omega
      have hj0 : (0 : Int) ≤ (k : Int) := by omega
      have hj1 : (k : Int) < (t.size : Int) := by omega
      obtain ⟨cur, hc, hcz, hcj⟩ := HT.out
      have lb := blk_lt hc
      have hby := get_at t k hlt
      have hb : (t[k]'hlt).toNat < 128 := hl _ (List.mem_of_getElem? hby)
      have hbi : ((t[k]'hlt).toNat : Int) < 128 := by omega
      have xc : wr.cell? ⟨w1.heap.size, (t[k]'hlt).toNat, none⟩ = some (.bool (letB (t.data.toList.take k) (t[k]'hlt).toNat)) := by rw [blk_cell hc]; exact hcj _ hb
      have fc := blk_frozen hc (t[k]'hlt).toNat
      have HT2 := Lib.hid (HT.out.step hby hb)
      have HB2 := Lib.hid (show Below w1.heap.size w1 (wr.setCell ⟨w1.heap.size, (t[k]'hlt).toNat, none⟩ (.bool true)) from HB.out.setCell (Nat.le_refl _) _)
      clear hc hcz hcj hby HT HB
      go_wp2_with fail
      go_roundw
      case rel => exact ⟨k + 1, by omega, by go_num, HT2, HB2⟩
      case measure => simp [intOf]; omega
    · obtain rfl : k = t.size := by omega
      have hd : decide ((t.size : Int) < (t.size : Int)) = false := by simp
      have HTA := tab_all HT.out
      have KR := blk_below K1.out HB.out
      have BR := bthen B1.out HB.out
      rw [← HCS.out] at KR
      clear HT HB K1 hl hlt hk
      go_upto_region 6 with (fail)
      simp only [List.append_eq, List.cons_append, List.nil_append]
      refine wp_region_lit ?_
      refine wpList_cut 0 (fun a' w' => w' = wr ∧ a'.tmps.size = 102 ∧ a'.defers = [] ∧ a'.eval (.tmp 2) = .pointer (some ⟨w.heap.size, 0, none⟩) ∧ a'.eval (.tmp 5) = .pointer (some ⟨w1.heap.size, 0, none⟩)) (fun L hL => ?_) ?_
      · exact hL _ _ ⟨rfl, rfl, rfl, rfl, rfl⟩
      rintro a' w' ⟨rfl, hsz, hdf, e2, e5⟩
      simp only [List.drop]
      have X2 := Lib.hid (show ∀ u, Below w'.heap.size w' u → u.cell? ⟨w.heap.size, 2, none⟩ = some (.int .i64 m.v) from fun u hu => mgAt_blk (by rw [blk_below KR hu, HCS.out]) 2 _ rfl)
      have X3 := Lib.hid (show ∀ u, Below w'.heap.size w' u → u.cell? ⟨w.heap.size, 3, none⟩ = some (.int .i64 m.s) from fun u hu => mgAt_blk (by rw [blk_below KR hu, HCS.out]) 3 _ rfl)
      have X4 := Lib.hid (show ∀ u, Below w'.heap.size w' u → u.cell? ⟨w.heap.size, 4, none⟩ = some (.int .i64 m.q.c) from fun u hu => mgAt_blk (by rw [blk_below KR hu, HCS.out]) 4 _ rfl)
      have X5 := Lib.hid (show ∀ u, Below w'.heap.size w' u → u.cell? ⟨w.heap.size, 5, none⟩ = some (.int .i64 m.q.s) from fun u hu => mgAt_blk (by rw [blk_below KR hu, HCS.out]) 5 _ rfl)
      have X6 := Lib.hid (show ∀ u, Below w'.heap.size w' u → u.cell? ⟨w.heap.size, 6, none⟩ = some (.int .i64 m.q.kind) from fun u hu => mgAt_blk (by rw [blk_below KR hu, HCS.out]) 6 _ rfl)
      have X7 := Lib.hid (show ∀ u, Below w'.heap.size w' u → u.cell? ⟨w.heap.size, 7, none⟩ = some (.string m.q.key) from fun u hu => mgAt_blk (by rw [blk_below KR hu, HCS.out]) 7 _ rfl)
      have X8 := Lib.hid (show ∀ u, Below w'.heap.size w' u → u.cell? ⟨w.heap.size, 8, none⟩ = some (.float .f64 m.q.b) from fun u hu => mgAt_blk (by rw [blk_below KR hu, HCS.out]) 8 _ rfl)
      have X9 := Lib.hid (show ∀ u, Below w'.heap.size w' u → u.cell? ⟨w.heap.size, 9, none⟩ = some (.int .i64 m.q.id) from fun u hu => mgAt_blk (by rw [blk_below KR hu, HCS.out]) 9 _ rfl)
      have X10 := Lib.hid (show ∀ u, Below w'.heap.size w' u → u.cell? ⟨w.heap.size, 10, none⟩ = some (.int .i64 m.c) from fun u hu => mgAt_blk (by rw [blk_below KR hu, HCS.out]) 10 _ rfl)
      have X11 := Lib.hid (show ∀ u, Below w'.heap.size w' u → u.cell? ⟨w.heap.size, 11, none⟩ = some (.float .f64 m.r) from fun u hu => mgAt_blk (by rw [blk_below KR hu, HCS.out]) 11 _ rfl)
      have X12 := Lib.hid (show ∀ u, Below w'.heap.size w' u → u.cell? ⟨w.heap.size, 12, none⟩ = some (.string m.t) from fun u hu => mgAt_blk (by rw [blk_below KR hu, HCS.out]) 12 _ rfl)
      have X13 := Lib.hid (show ∀ u, Below w'.heap.size w' u → u.cell? ⟨w.heap.size, 13, none⟩ = some (.slice a1 n1 c1) from fun u hu => mgAt_blk (by rw [blk_below KR hu, HCS.out]) 13 _ rfl)
      have X14 := Lib.hid (show ∀ u, Below w'.heap.size w' u → u.cell? ⟨w.heap.size, 14, none⟩ = some (.slice a2 n2 c2) from fun u hu => mgAt_blk (by rw [blk_below KR hu, HCS.out]) 14 _ rfl)
      have X15 := Lib.hid (show ∀ u, Below w'.heap.size w' u → u.cell? ⟨w.heap.size, 15, none⟩ = some (.slice a3 n3 c3) from fun u hu => mgAt_blk (by rw [blk_below KR hu, HCS.out]) 15 _ rfl)
      have X16 := Lib.hid (show ∀ u, Below w'.heap.size w' u → u.cell? ⟨w.heap.size, 16, none⟩ = some (.slice a4 n4 c4) from fun u hu => mgAt_blk (by rw [blk_below KR hu, HCS.out]) 16 _ rfl)
      have XL118 := Lib.hid (show ∀ u, Below w'.heap.size w' u → u.cell? ⟨w1.heap.size, 118, none⟩ = some (.bool (letB t.data.toList 118)) from fun u hu => tab_cell (HTA.old hu) (by decide))
      have XL115 := Lib.hid (show ∀ u, Below w'.heap.size w' u → u.cell? ⟨w1.heap.size, 115, none⟩ = some (.bool (letB t.data.toList 115)) from fun u hu => tab_cell (HTA.old hu) (by decide))
      have XL114 := Lib.hid (show ∀ u, Below w'.heap.size w' u → u.cell? ⟨w1.heap.size, 114, none⟩ = some (.bool (letB t.data.toList 114)) from fun u hu => tab_cell (HTA.old hu) (by decide))
      have XL120 := Lib.hid (show ∀ u, Below w'.heap.size w' u → u.cell? ⟨w1.heap.size, 120, none⟩ = some (.bool (letB t.data.toList 120)) from fun u hu => tab_cell (HTA.old hu) (by decide))
      have XL116 := Lib.hid (show ∀ u, Below w'.heap.size w' u → u.cell? ⟨w1.heap.size, 116, none⟩ = some (.bool (letB t.data.toList 116)) from fun u hu => tab_cell (HTA.old hu) (by decide))
      have XL110 := Lib.hid (show ∀ u, Below w'.heap.size w' u → u.cell? ⟨w1.heap.size, 110, none⟩ = some (.bool (letB t.data.toList 110)) from fun u hu => tab_cell (HTA.old hu) (by decide))
      have XL103 := Lib.hid (show ∀ u, Below w'.heap.size w' u → u.cell? ⟨w1.heap.size, 103, none⟩ = some (.bool (letB t.data.toList 103)) from fun u hu => tab_cell (HTA.old hu) (by decide))
      have XL99 := Lib.hid (show ∀ u, Below w'.heap.size w' u → u.cell? ⟨w1.heap.size, 99, none⟩ = some (.bool (letB t.data.toList 99)) from fun u hu => tab_cell (HTA.old hu) (by decide))
      have XL108 := Lib.hid (show ∀ u, Below w'.heap.size w' u → u.cell? ⟨w1.heap.size, 108, none⟩ = some (.bool (letB t.data.toList 108)) from fun u hu => tab_cell (HTA.old hu) (by decide))
      have CNQ := Lib.hid (fun u => qrnull_any m.q.c m.q.s m.q.kind m.q.key m.q.b HM.out.q.b m.q.id u)
      have CSR := Lib.hid (fun u => sameres_any m.c m.r 0 0 u HM.out.r (by decide))
      have HZ := Lib.hid (show zg8 t.data.toList m = (((((((((letB t.data.toList 118 || decide (m.v = 0)) && (letB t.data.toList 115 || decide (m.s = 0))) && (letB t.data.toList 114 || nullQ m.q.c m.q.s m.q.kind m.q.key m.q.b m.q.id)) && (letB t.data.toList 120 || sameResB m.c m.r 0 0)) && (letB t.data.toList 116 || decide (m.t.size = 0))) && (letB t.data.toList 110 || decide (m.nx.length = 0))) && (letB t.data.toList 103 || decide (m.sg.length = 0))) && (letB t.data.toList 99 || decide (m.ch.length = 0))) && (letB t.data.toList 108 || decide (m.lk.length = 0))) from rfl)
      generalize letB t.data.toList 118 = L118 at HZ XL118
      generalize letB t.data.toList 115 = L115 at HZ XL115
      generalize letB t.data.toList 114 = L114 at HZ XL114
      generalize letB t.data.toList 120 = L120 at HZ XL120
      generalize letB t.data.toList 116 = L116 at HZ XL116
      generalize letB t.data.toList 110 = L110 at HZ XL110
      generalize letB t.data.toList 103 = L103 at HZ XL103
      generalize letB t.data.toList 99 = L99 at HZ XL99
      generalize letB t.data.toList 108 = L108 at HZ XL108
      generalize nullQ m.q.c m.q.s m.q.kind m.q.key m.q.b m.q.id = NQ at HZ CNQ
      generalize sameResB m.c m.r 0 0 = SR at HZ CSR
      have HB0 := Lib.hid (Below.refl w'.heap.size w')
      have BR0 := Lib.hid BR
      clear BR KR HTA
      refine fr_g hsz (t := 18) (by decide) rfl (by rfl) (v := .pointer (some ⟨w1.heap.size, 118, none⟩)) (fun hG => by have hc0 : a'.eval (.const (.int .i64 118)) = .int .i64 118 := rfl; generalize a'.eval = ρ at e5 hc0; simp only [execOp]; go_simp) fun aq0 fq0 => ?_
      have e2_q0 := (fq0.other 2 (by decide)).trans e2
      have e5_q0 := (fq0.other 5 (by decide)).trans e5
      have e18_q0 : aq0.eval (.tmp 18) = .pointer (some ⟨w1.heap.size, 118, none⟩) := fq0.own
      have zq0 := fq0.sz
      have dq0 := fq0.df.trans hdf
      clear fq0 e2 e5 hsz hdf
      refine fr_g zq0 (t := 19) (by decide) rfl (by rfl) (v := .bool L118) (fun hG => by have yL118 := XL118.out w' HB0.out; generalize aq0.eval = ρ at e18_q0; simp only [execOp]; go_simp) fun aq1 fq1 => ?_
      have e2_q1 := (fq1.other 2 (by decide)).trans e2_q0
      have e5_q1 := (fq1.other 5 (by decide)).trans e5_q0
      have e19_q1 : aq1.eval (.tmp 19) = .bool L118 := fq1.own
      have zq1 := fq1.sz
      have dq1 := fq1.df.trans dq0
      clear fq1 e2_q0 e5_q0 e18_q0 zq0 dq0
      refine fr_g zq1 (t := 20) (by decide) rfl (by rfl) (v := .bool L118) (fun hG => by generalize aq1.eval = ρ at e19_q1; simp only [execOp]; go_simp) fun aq2 fq2 => ?_
      have e2_q2 := (fq2.other 2 (by decide)).trans e2_q1
      have e5_q2 := (fq2.other 5 (by decide)).trans e5_q1
      have e20_q2 : aq2.eval (.tmp 20) = .bool L118 := fq2.own
      have zq2 := fq2.sz
      have dq2 := fq2.df.trans dq1
      clear fq2 e2_q1 e5_q1 e19_q1 zq1 dq1
      obtain ⟨Gq3, hGq3⟩ : ∃ G, Hid (G = (true && (L118 == false))) := ⟨_, Lib.hid rfl⟩
      have iGq3 := Lib.hid (show Gq3 = true → true = true ∧ L118 = false from fun h => by rw [hGq3.out] at h; simpa using h)
      refine fr_g zq2 (t := 21) (by decide) rfl ((fr_w0 (k := 2) (b := false) (t := 20) rfl rfl e20_q2).trans hGq3.out.symm) (v := .pointer (some ⟨w.heap.size, 2, none⟩)) (fun hG => by obtain ⟨hp0, hb0⟩ := iGq3.out hG; generalize aq2.eval = ρ at e2_q2; simp only [execOp]; go_simp) fun aq3 fq3 => ?_
      have e2_q3 := (fq3.other 2 (by decide)).trans e2_q2
      have e5_q3 := (fq3.other 5 (by decide)).trans e5_q2
      have e20_q3 := (fq3.other 20 (by decide)).trans e20_q2
      have e21_q3 : aq3.eval (.tmp 21) = vif Gq3 (.pointer (some ⟨w.heap.size, 2, none⟩)) := fq3.own
      have zq3 := fq3.sz
      have dq3 := fq3.df.trans dq2
      clear fq3 e2_q2 e5_q2 e20_q2 zq2 dq2
      refine fr_g zq3 (t := 22) (by decide) rfl ((fr_w0 (k := 2) (b := false) (t := 20) rfl rfl e20_q3).trans hGq3.out.symm) (v := .int .i64 m.v) (fun hG => by obtain ⟨hp0, hb0⟩ := iGq3.out hG; have y2 := X2.out w' HB0.out; generalize aq3.eval = ρ at e21_q3; simp only [vif, cond_true, cond_false, hG, hp0, hb0] at e21_q3; simp only [execOp]; go_simp) fun aq4 fq4 => ?_
      have e2_q4 := (fq4.other 2 (by decide)).trans e2_q3
      have e5_q4 := (fq4.other 5 (by decide)).trans e5_q3
      have e20_q4 := (fq4.other 20 (by decide)).trans e20_q3
      have e22_q4 : aq4.eval (.tmp 22) = vif Gq3 (.int .i64 m.v) := fq4.own
      have zq4 := fq4.sz
      have dq4 := fq4.df.trans dq3
      clear fq4 e2_q3 e5_q3 e20_q3 e21_q3 zq3 dq3
      obtain ⟨Bq5, hBq5⟩ : ∃ B, Hid (B = ((m.v : Int) == 0)) := ⟨_, Lib.hid rfl⟩
      refine fr_g zq4 (t := 23) (by decide) rfl ((fr_w0 (k := 2) (b := false) (t := 20) rfl rfl e20_q4).trans hGq3.out.symm) (v := .bool Bq5) (fun hG => by obtain ⟨hp0, hb0⟩ := iGq3.out hG; have hc0 : aq4.eval (.const (.int .i64 0)) = .int .i64 0 := rfl; generalize aq4.eval = ρ at e22_q4 hc0; simp only [vif, cond_true, cond_false, hG, hp0, hb0] at e22_q4; rw [hBq5.out]; simp only [execOp]; go_simp) fun aq5 fq5 => ?_
      have e2_q5 := (fq5.other 2 (by decide)).trans e2_q4
      have e5_q5 := (fq5.other 5 (by decide)).trans e5_q4
      have e20_q5 := (fq5.other 20 (by decide)).trans e20_q4
      have e23_q5 : aq5.eval (.tmp 23) = vif Gq3 (.bool Bq5) := fq5.own
      have zq5 := fq5.sz
      have dq5 := fq5.df.trans dq4
      clear fq5 e2_q4 e5_q4 e20_q4 e22_q4 zq4 dq4
      obtain ⟨Bq6, hBq6⟩ : ∃ B, Hid (B = ((L118 || Bq5))) := ⟨_, Lib.hid rfl⟩
      refine fr_g zq5 (t := 24) (by decide) rfl (by rfl) (v := .bool Bq6) (fun hG => by have hc0 : aq5.eval (.const (.bool true)) = .bool true := rfl; generalize aq5.eval = ρ at e20_q5 e23_q5 hc0; rw [hBq6.out]; cases L118 <;> simp only [execOp, vif, cond_true, cond_false, Bool.true_and, Bool.false_and, Bool.true_or, Bool.false_or, beq_self_eq_true, hGq3.out] at e23_q5 ⊢ <;> go_simp) fun aq6 fq6 => ?_
      have e2_q6 := (fq6.other 2 (by decide)).trans e2_q5
      have e5_q6 := (fq6.other 5 (by decide)).trans e5_q5
      have e24_q6 : aq6.eval (.tmp 24) = .bool Bq6 := fq6.own
      have zq6 := fq6.sz
      have dq6 := fq6.df.trans dq5
      clear fq6 e2_q5 e5_q5 e20_q5 e23_q5 zq5 dq5
      refine fr_g zq6 (t := 25) (by decide) rfl (by rfl) (v := .bool Bq6) (fun hG => by generalize aq6.eval = ρ at e24_q6; simp only [execOp]; go_simp) fun aq7 fq7 => ?_
      have e2_q7 := (fq7.other 2 (by decide)).trans e2_q6
      have e5_q7 := (fq7.other 5 (by decide)).trans e5_q6
      have e25_q7 : aq7.eval (.tmp 25) = .bool Bq6 := fq7.own
      have zq7 := fq7.sz
      have dq7 := fq7.df.trans dq6
      clear fq7 e2_q6 e5_q6 e24_q6 zq6 dq6
      obtain ⟨Gq8, hGq8⟩ : ∃ G, Hid (G = (true && (Bq6 == true))) := ⟨_, Lib.hid rfl⟩
      have iGq8 := Lib.hid (show Gq8 = true → true = true ∧ Bq6 = true from fun h => by rw [hGq8.out] at h; simpa using h)
      refine fr_g zq7 (t := 26) (by decide) rfl ((fr_w0 (k := 7) (b := true) (t := 25) rfl rfl e25_q7).trans hGq8.out.symm) (v := .pointer (some ⟨w1.heap.size, 115, none⟩)) (fun hG => by obtain ⟨hp0, hb0⟩ := iGq8.out hG; have hc0 : aq7.eval (.const (.int .i64 115)) = .int .i64 115 := rfl; generalize aq7.eval = ρ at e5_q7 hc0; simp only [execOp]; go_simp) fun aq8 fq8 => ?_
      have e2_q8 := (fq8.other 2 (by decide)).trans e2_q7
      have e5_q8 := (fq8.other 5 (by decide)).trans e5_q7
      have e25_q8 := (fq8.other 25 (by decide)).trans e25_q7
      have e26_q8 : aq8.eval (.tmp 26) = vif Gq8 (.pointer (some ⟨w1.heap.size, 115, none⟩)) := fq8.own
      have zq8 := fq8.sz
      have dq8 := fq8.df.trans dq7
      clear fq8 e2_q7 e5_q7 e25_q7 zq7 dq7
      refine fr_g zq8 (t := 27) (by decide) rfl ((fr_w0 (k := 7) (b := true) (t := 25) rfl rfl e25_q8).trans hGq8.out.symm) (v := .bool L115) (fun hG => by obtain ⟨hp0, hb0⟩ := iGq8.out hG; have yL115 := XL115.out w' HB0.out; generalize aq8.eval = ρ at e26_q8; simp only [vif, cond_true, cond_false, hG, hp0, hb0] at e26_q8; simp only [execOp]; go_simp) fun aq9 fq9 => ?_
      have e2_q9 := (fq9.other 2 (by decide)).trans e2_q8
      have e5_q9 := (fq9.other 5 (by decide)).trans e5_q8
      have e25_q9 := (fq9.other 25 (by decide)).trans e25_q8
      have e27_q9 : aq9.eval (.tmp 27) = vif Gq8 (.bool L115) := fq9.own
      have zq9 := fq9.sz
      have dq9 := fq9.df.trans dq8
      clear fq9 e2_q8 e5_q8 e25_q8 e26_q8 zq8 dq8
      refine fr_g zq9 (t := 28) (by decide) rfl ((fr_w0 (k := 7) (b := true) (t := 25) rfl rfl e25_q9).trans hGq8.out.symm) (v := .bool L115) (fun hG => by obtain ⟨hp0, hb0⟩ := iGq8.out hG; generalize aq9.eval = ρ at e27_q9; simp only [vif, cond_true, cond_false, hG, hp0, hb0] at e27_q9; simp only [execOp]; go_simp) fun aq10 fq10 => ?_
      have e2_q10 := (fq10.other 2 (by decide)).trans e2_q9
      have e5_q10 := (fq10.other 5 (by decide)).trans e5_q9
      have e25_q10 := (fq10.other 25 (by decide)).trans e25_q9
      have e28_q10 : aq10.eval (.tmp 28) = vif Gq8 (.bool L115) := fq10.own
      have zq10 := fq10.sz
      have dq10 := fq10.df.trans dq9
      clear fq10 e2_q9 e5_q9 e25_q9 e27_q9 zq9 dq9
      obtain ⟨Gq11, hGq11⟩ : ∃ G, Hid (G = (Gq8 && (L115 == false))) := ⟨_, Lib.hid rfl⟩
      have iGq11 := Lib.hid (show Gq11 = true → Gq8 = true ∧ L115 = false from fun h => by rw [hGq11.out] at h; simpa using h)
      refine fr_g zq10 (t := 29) (by decide) rfl ((fr_w (k := 10) (b := false) (t := 28) rfl rfl e28_q10).trans hGq11.out.symm) (v := .pointer (some ⟨w.heap.size, 3, none⟩)) (fun hG => by obtain ⟨hp0, hb0⟩ := iGq11.out hG; obtain ⟨hp1, hb1⟩ := iGq8.out hp0; generalize aq10.eval = ρ at e2_q10; simp only [execOp]; go_simp) fun aq11 fq11 => ?_
      have e2_q11 := (fq11.other 2 (by decide)).trans e2_q10
      have e5_q11 := (fq11.other 5 (by decide)).trans e5_q10
      have e25_q11 := (fq11.other 25 (by decide)).trans e25_q10
      have e28_q11 := (fq11.other 28 (by decide)).trans e28_q10
      have e29_q11 : aq11.eval (.tmp 29) = vif Gq11 (.pointer (some ⟨w.heap.size, 3, none⟩)) := fq11.own
      have zq11 := fq11.sz
      have dq11 := fq11.df.trans dq10
      clear fq11 e2_q10 e5_q10 e25_q10 e28_q10 zq10 dq10
      refine fr_g zq11 (t := 30) (by decide) rfl ((fr_w (k := 10) (b := false) (t := 28) rfl rfl e28_q11).trans hGq11.out.symm) (v := .int .i64 m.s) (fun hG => by obtain ⟨hp0, hb0⟩ := iGq11.out hG; obtain ⟨hp1, hb1⟩ := iGq8.out hp0; have y3 := X3.out w' HB0.out; generalize aq11.eval = ρ at e29_q11; simp only [vif, cond_true, cond_false, hG, hp0, hb0, hp1, hb1] at e29_q11; simp only [execOp]; go_simp) fun aq12 fq12 => ?_
      have e2_q12 := (fq12.other 2 (by decide)).trans e2_q11
      have e5_q12 := (fq12.other 5 (by decide)).trans e5_q11
      have e25_q12 := (fq12.other 25 (by decide)).trans e25_q11
      have e28_q12 := (fq12.other 28 (by decide)).trans e28_q11
      have e30_q12 : aq12.eval (.tmp 30) = vif Gq11 (.int .i64 m.s) := fq12.own
      have zq12 := fq12.sz
      have dq12 := fq12.df.trans dq11
      clear fq12 e2_q11 e5_q11 e25_q11 e28_q11 e29_q11 zq11 dq11
      obtain ⟨Bq13, hBq13⟩ : ∃ B, Hid (B = ((m.s : Int) == 0)) := ⟨_, Lib.hid rfl⟩
      refine fr_g zq12 (t := 31) (by decide) rfl ((fr_w (k := 10) (b := false) (t := 28) rfl rfl e28_q12).trans hGq11.out.symm) (v := .bool Bq13) (fun hG => by obtain ⟨hp0, hb0⟩ := iGq11.out hG; obtain ⟨hp1, hb1⟩ := iGq8.out hp0; have hc0 : aq12.eval (.const (.int .i64 0)) = .int .i64 0 := rfl; generalize aq12.eval = ρ at e30_q12 hc0; simp only [vif, cond_true, cond_false, hG, hp0, hb0, hp1, hb1] at e30_q12; rw [hBq13.out]; simp only [execOp]; go_simp) fun aq13 fq13 => ?_
      have e2_q13 := (fq13.other 2 (by decide)).trans e2_q12
      have e5_q13 := (fq13.other 5 (by decide)).trans e5_q12
      have e25_q13 := (fq13.other 25 (by decide)).trans e25_q12
      have e28_q13 := (fq13.other 28 (by decide)).trans e28_q12
      have e31_q13 : aq13.eval (.tmp 31) = vif Gq11 (.bool Bq13) := fq13.own
      have zq13 := fq13.sz
      have dq13 := fq13.df.trans dq12
      clear fq13 e2_q12 e5_q12 e25_q12 e28_q12 e30_q12 zq12 dq12
      obtain ⟨Bq14, hBq14⟩ : ∃ B, Hid (B = ((L115 || Bq13))) := ⟨_, Lib.hid rfl⟩
      refine fr_g zq13 (t := 32) (by decide) rfl ((fr_w0 (k := 7) (b := true) (t := 25) rfl rfl e25_q13).trans hGq8.out.symm) (v := .bool Bq14) (fun hG => by obtain ⟨hp0, hb0⟩ := iGq8.out hG; have hc0 : aq13.eval (.const (.bool true)) = .bool true := rfl; generalize aq13.eval = ρ at e28_q13 e31_q13 hc0; rw [hBq14.out]; cases L115 <;> simp only [execOp, vif, cond_true, cond_false, Bool.true_and, Bool.false_and, Bool.true_or, Bool.false_or, beq_self_eq_true, hGq3.out, hGq8.out, hGq11.out, hG, hp0, hb0] at e28_q13 e31_q13 ⊢ <;> go_simp) fun aq14 fq14 => ?_
      have e2_q14 := (fq14.other 2 (by decide)).trans e2_q13
      have e5_q14 := (fq14.other 5 (by decide)).trans e5_q13
      have e25_q14 := (fq14.other 25 (by decide)).trans e25_q13
      have e32_q14 : aq14.eval (.tmp 32) = vif Gq8 (.bool Bq14) := fq14.own
      have zq14 := fq14.sz
      have dq14 := fq14.df.trans dq13
      clear fq14 e2_q13 e5_q13 e25_q13 e28_q13 e31_q13 zq13 dq13
      obtain ⟨Bq15, hBq15⟩ : ∃ B, Hid (B = ((Bq6 && Bq14))) := ⟨_, Lib.hid rfl⟩
      refine fr_g zq14 (t := 33) (by decide) rfl (by rfl) (v := .bool Bq15) (fun hG => by have hc0 : aq14.eval (.const (.bool false)) = .bool false := rfl; generalize aq14.eval = ρ at e25_q14 e32_q14 hc0; rw [hBq15.out]; cases Bq6 <;> simp only [execOp, vif, cond_true, cond_false, Bool.true_and, Bool.false_and, Bool.true_or, Bool.false_or, beq_self_eq_true, hGq3.out, hGq8.out, hGq11.out] at e32_q14 ⊢ <;> go_simp) fun aq15 fq15 => ?_
      have e2_q15 := (fq15.other 2 (by decide)).trans e2_q14
      have e5_q15 := (fq15.other 5 (by decide)).trans e5_q14
      have e33_q15 : aq15.eval (.tmp 33) = .bool Bq15 := fq15.own
      have zq15 := fq15.sz
      have dq15 := fq15.df.trans dq14
      clear fq15 e2_q14 e5_q14 e25_q14 e32_q14 zq14 dq14
      refine fr_g zq15 (t := 34) (by decide) rfl (by rfl) (v := .bool Bq15) (fun hG => by generalize aq15.eval = ρ at e33_q15; simp only [execOp]; go_simp) fun aq16 fq16 => ?_
      have e2_q16 := (fq16.other 2 (by decide)).trans e2_q15
      have e5_q16 := (fq16.other 5 (by decide)).trans e5_q15
      have e34_q16 : aq16.eval (.tmp 34) = .bool Bq15 := fq16.own
      have zq16 := fq16.sz
      have dq16 := fq16.df.trans dq15
      clear fq16 e2_q15 e5_q15 e33_q15 zq15 dq15
      obtain ⟨Gq17, hGq17⟩ : ∃ G, Hid (G = (true && (Bq15 == true))) := ⟨_, Lib.hid rfl⟩
      have iGq17 := Lib.hid (show Gq17 = true → true = true ∧ Bq15 = true from fun h => by rw [hGq17.out] at h; simpa using h)
      refine fr_g zq16 (t := 35) (by decide) rfl ((fr_w0 (k := 16) (b := true) (t := 34) rfl rfl e34_q16).trans hGq17.out.symm) (v := .pointer (some ⟨w1.heap.size, 114, none⟩)) (fun hG => by obtain ⟨hp0, hb0⟩ := iGq17.out hG; have hc0 : aq16.eval (.const (.int .i64 114)) = .int .i64 114 := rfl; generalize aq16.eval = ρ at e5_q16 hc0; simp only [execOp]; go_simp) fun aq17 fq17 => ?_
      have e2_q17 := (fq17.other 2 (by decide)).trans e2_q16
      have e5_q17 := (fq17.other 5 (by decide)).trans e5_q16
      have e34_q17 := (fq17.other 34 (by decide)).trans e34_q16
      have e35_q17 : aq17.eval (.tmp 35) = vif Gq17 (.pointer (some ⟨w1.heap.size, 114, none⟩)) := fq17.own
      have zq17 := fq17.sz
      have dq17 := fq17.df.trans dq16
      clear fq17 e2_q16 e5_q16 e34_q16 zq16 dq16
      refine fr_g zq17 (t := 36) (by decide) rfl ((fr_w0 (k := 16) (b := true) (t := 34) rfl rfl e34_q17).trans hGq17.out.symm) (v := .bool L114) (fun hG => by obtain ⟨hp0, hb0⟩ := iGq17.out hG; have yL114 := XL114.out w' HB0.out; generalize aq17.eval = ρ at e35_q17; simp only [vif, cond_true, cond_false, hG, hp0, hb0] at e35_q17; simp only [execOp]; go_simp) fun aq18 fq18 => ?_
      have e2_q18 := (fq18.other 2 (by decide)).trans e2_q17
      have e5_q18 := (fq18.other 5 (by decide)).trans e5_q17
      have e34_q18 := (fq18.other 34 (by decide)).trans e34_q17
      have e36_q18 : aq18.eval (.tmp 36) = vif Gq17 (.bool L114) := fq18.own
      have zq18 := fq18.sz
      have dq18 := fq18.df.trans dq17
      clear fq18 e2_q17 e5_q17 e34_q17 e35_q17 zq17 dq17
      refine fr_g zq18 (t := 37) (by decide) rfl ((fr_w0 (k := 16) (b := true) (t := 34) rfl rfl e34_q18).trans hGq17.out.symm) (v := .bool L114) (fun hG => by obtain ⟨hp0, hb0⟩ := iGq17.out hG; generalize aq18.eval = ρ at e36_q18; simp only [vif, cond_true, cond_false, hG, hp0, hb0] at e36_q18; simp only [execOp]; go_simp) fun aq19 fq19 => ?_
      have e2_q19 := (fq19.other 2 (by decide)).trans e2_q18
      have e5_q19 := (fq19.other 5 (by decide)).trans e5_q18
      have e34_q19 := (fq19.other 34 (by decide)).trans e34_q18
      have e37_q19 : aq19.eval (.tmp 37) = vif Gq17 (.bool L114) := fq19.own
      have zq19 := fq19.sz
      have dq19 := fq19.df.trans dq18
      clear fq19 e2_q18 e5_q18 e34_q18 e36_q18 zq18 dq18
      obtain ⟨Gq20, hGq20⟩ : ∃ G, Hid (G = (Gq17 && (L114 == false))) := ⟨_, Lib.hid rfl⟩
      have iGq20 := Lib.hid (show Gq20 = true → Gq17 = true ∧ L114 = false from fun h => by rw [hGq20.out] at h; simpa using h)
      refine fr_g zq19 (t := 38) (by decide) rfl ((fr_w (k := 19) (b := false) (t := 37) rfl rfl e37_q19).trans hGq20.out.symm) (v := .pointer (some ⟨w.heap.size, 4, none⟩)) (fun hG => by obtain ⟨hp0, hb0⟩ := iGq20.out hG; obtain ⟨hp1, hb1⟩ := iGq17.out hp0; generalize aq19.eval = ρ at e2_q19; simp only [execOp]; go_simp) fun aq20 fq20 => ?_
      have e2_q20 := (fq20.other 2 (by decide)).trans e2_q19
      have e5_q20 := (fq20.other 5 (by decide)).trans e5_q19
      have e34_q20 := (fq20.other 34 (by decide)).trans e34_q19
      have e37_q20 := (fq20.other 37 (by decide)).trans e37_q19
      have e38_q20 : aq20.eval (.tmp 38) = vif Gq20 (.pointer (some ⟨w.heap.size, 4, none⟩)) := fq20.own
      have zq20 := fq20.sz
      have dq20 := fq20.df.trans dq19
      clear fq20 e2_q19 e5_q19 e34_q19 e37_q19 zq19 dq19
      refine fr_g zq20 (t := 39) (by decide) rfl ((fr_w (k := 19) (b := false) (t := 37) rfl rfl e37_q20).trans hGq20.out.symm) (v := .agg #[.int .i64 m.q.c, .int .i64 m.q.s, .int .i64 m.q.kind, .string m.q.key, .float .f64 m.q.b, .int .i64 m.q.id]) (fun hG => by obtain ⟨hp0, hb0⟩ := iGq20.out hG; obtain ⟨hp1, hb1⟩ := iGq17.out hp0; have y4 := X4.out w' HB0.out; have y5 := X5.out w' HB0.out; have y6 := X6.out w' HB0.out; have y7 := X7.out w' HB0.out; have y8 := X8.out w' HB0.out; have y9 := X9.out w' HB0.out; generalize aq20.eval = ρ at e38_q20; simp only [vif, cond_true, cond_false, hG, hp0, hb0, hp1, hb1] at e38_q20; simp only [execOp]; go_simp) fun aq21 fq21 => ?_
      have e2_q21 := (fq21.other 2 (by decide)).trans e2_q20
      have e5_q21 := (fq21.other 5 (by decide)).trans e5_q20
      have e34_q21 := (fq21.other 34 (by decide)).trans e34_q20
      have e37_q21 := (fq21.other 37 (by decide)).trans e37_q20
      have e39_q21 : aq21.eval (.tmp 39) = vif Gq20 (.agg #[.int .i64 m.q.c, .int .i64 m.q.s, .int .i64 m.q.kind, .string m.q.key, .float .f64 m.q.b, .int .i64 m.q.id]) := fq21.own
      have zq21 := fq21.sz
      have dq21 := fq21.df.trans dq20
      clear fq21 e2_q20 e5_q20 e34_q20 e37_q20 e38_q20 zq20 dq20
      refine fr_gc zq21 (t := 40) (by decide) rfl ((fr_w (k := 19) (b := false) (t := 37) rfl rfl e37_q21).trans hGq20.out.symm) 88 #[.agg #[.int .i64 m.q.c, .int .i64 m.q.s, .int .i64 m.q.kind, .string m.q.key, .float .f64 m.q.b, .int .i64 m.q.id]] (v := .bool NQ) (fun hG => by obtain ⟨hp0, hb0⟩ := iGq20.out hG; obtain ⟨hp1, hb1⟩ := iGq17.out hp0; have hf : aq21.eval (.func 88) = .func (.func 88) #[] #[] := rfl; generalize aq21.eval = ρ at hf e39_q21; simp only [vif, cond_true, cond_false, hG, hp0, hb0, hp1, hb1] at e39_q21; simp only [execOp]; go_simp) (fun hG => CNQ.out w') fun aq22 uq22 blq22 fq22 => ?_
      have HBq22 := Lib.hid (bthen HB0.out blq22)
      clear blq22
      have e2_q22 := (fq22.other 2 (by decide)).trans e2_q21
      have e5_q22 := (fq22.other 5 (by decide)).trans e5_q21
      have e34_q22 := (fq22.other 34 (by decide)).trans e34_q21
      have e37_q22 := (fq22.other 37 (by decide)).trans e37_q21
      have e40_q22 : aq22.eval (.tmp 40) = vif Gq20 (.bool NQ) := fq22.own
      have zq22 := fq22.sz
      have dq22 := fq22.df.trans dq21
      clear fq22 e2_q21 e5_q21 e34_q21 e37_q21 e39_q21 zq21 dq21
      obtain ⟨Bq23, hBq23⟩ : ∃ B, Hid (B = ((L114 || NQ))) := ⟨_, Lib.hid rfl⟩
      refine fr_g zq22 (t := 41) (by decide) rfl ((fr_w0 (k := 16) (b := true) (t := 34) rfl rfl e34_q22).trans hGq17.out.symm) (v := .bool Bq23) (fun hG => by obtain ⟨hp0, hb0⟩ := iGq17.out hG; have hc0 : aq22.eval (.const (.bool true)) = .bool true := rfl; generalize aq22.eval = ρ at e37_q22 e40_q22 hc0; rw [hBq23.out]; cases L114 <;> simp only [execOp, vif, cond_true, cond_false, Bool.true_and, Bool.false_and, Bool.true_or, Bool.false_or, beq_self_eq_true, hGq3.out, hGq8.out, hGq11.out, hGq17.out, hGq20.out, hG, hp0, hb0] at e37_q22 e40_q22 ⊢ <;> go_simp) fun aq23 fq23 => ?_
      have e2_q23 := (fq23.other 2 (by decide)).trans e2_q22
      have e5_q23 := (fq23.other 5 (by decide)).trans e5_q22
      have e34_q23 := (fq23.other 34 (by decide)).trans e34_q22
      have e41_q23 : aq23.eval (.tmp 41) = vif Gq17 (.bool Bq23) := fq23.own
      have zq23 := fq23.sz
      have dq23 := fq23.df.trans dq22
      clear fq23 e2_q22 e5_q22 e34_q22 e37_q22 e40_q22 zq22 dq22
      obtain ⟨Bq24, hBq24⟩ : ∃ B, Hid (B = ((Bq15 && Bq23))) := ⟨_, Lib.hid rfl⟩
      refine fr_g zq23 (t := 42) (by decide) rfl (by rfl) (v := .bool Bq24) (fun hG => by have hc0 : aq23.eval (.const (.bool false)) = .bool false := rfl; generalize aq23.eval = ρ at e34_q23 e41_q23 hc0; rw [hBq24.out]; cases Bq15 <;> simp only [execOp, vif, cond_true, cond_false, Bool.true_and, Bool.false_and, Bool.true_or, Bool.false_or, beq_self_eq_true, hGq3.out, hGq8.out, hGq11.out, hGq17.out, hGq20.out] at e41_q23 ⊢ <;> go_simp) fun aq24 fq24 => ?_
      have e2_q24 := (fq24.other 2 (by decide)).trans e2_q23
      have e5_q24 := (fq24.other 5 (by decide)).trans e5_q23
      have e42_q24 : aq24.eval (.tmp 42) = .bool Bq24 := fq24.own
      have zq24 := fq24.sz
      have dq24 := fq24.df.trans dq23
      clear fq24 e2_q23 e5_q23 e34_q23 e41_q23 zq23 dq23
      refine fr_g zq24 (t := 43) (by decide) rfl (by rfl) (v := .bool Bq24) (fun hG => by generalize aq24.eval = ρ at e42_q24; simp only [execOp]; go_simp) fun aq25 fq25 => ?_
      have e2_q25 := (fq25.other 2 (by decide)).trans e2_q24
      have e5_q25 := (fq25.other 5 (by decide)).trans e5_q24
      have e43_q25 : aq25.eval (.tmp 43) = .bool Bq24 := fq25.own
      have zq25 := fq25.sz
      have dq25 := fq25.df.trans dq24
      clear fq25 e2_q24 e5_q24 e42_q24 zq24 dq24
      obtain ⟨Gq26, hGq26⟩ : ∃ G, Hid (G = (true && (Bq24 == true))) := ⟨_, Lib.hid rfl⟩
      have iGq26 := Lib.hid (show Gq26 = true → true = true ∧ Bq24 = true from fun h => by rw [hGq26.out] at h; simpa using h)
      refine fr_g zq25 (t := 44) (by decide) rfl ((fr_w0 (k := 25) (b := true) (t := 43) rfl rfl e43_q25).trans hGq26.out.symm) (v := .pointer (some ⟨w1.heap.size, 120, none⟩)) (fun hG => by obtain ⟨hp0, hb0⟩ := iGq26.out hG; have hc0 : aq25.eval (.const (.int .i64 120)) = .int .i64 120 := rfl; generalize aq25.eval = ρ at e5_q25 hc0; simp only [execOp]; go_simp) fun aq26 fq26 => ?_
      have e2_q26 := (fq26.other 2 (by decide)).trans e2_q25
      have e5_q26 := (fq26.other 5 (by decide)).trans e5_q25
      have e43_q26 := (fq26.other 43 (by decide)).trans e43_q25
      have e44_q26 : aq26.eval (.tmp 44) = vif Gq26 (.pointer (some ⟨w1.heap.size, 120, none⟩)) := fq26.own
      have zq26 := fq26.sz
      have dq26 := fq26.df.trans dq25
      clear fq26 e2_q25 e5_q25 e43_q25 zq25 dq25
      refine fr_g zq26 (t := 45) (by decide) rfl ((fr_w0 (k := 25) (b := true) (t := 43) rfl rfl e43_q26).trans hGq26.out.symm) (v := .bool L120) (fun hG => by obtain ⟨hp0, hb0⟩ := iGq26.out hG; have yL120 := XL120.out uq22 HBq22.out; generalize aq26.eval = ρ at e44_q26; simp only [vif, cond_true, cond_false, hG, hp0, hb0] at e44_q26; simp only [execOp]; go_simp) fun aq27 fq27 => ?_
      have e2_q27 := (fq27.other 2 (by decide)).trans e2_q26
      have e5_q27 := (fq27.other 5 (by decide)).trans e5_q26
      have e43_q27 := (fq27.other 43 (by decide)).trans e43_q26
      have e45_q27 : aq27.eval (.tmp 45) = vif Gq26 (.bool L120) := fq27.own
      have zq27 := fq27.sz
      have dq27 := fq27.df.trans dq26
      clear fq27 e2_q26 e5_q26 e43_q26 e44_q26 zq26 dq26
      refine fr_g zq27 (t := 46) (by decide) rfl ((fr_w0 (k := 25) (b := true) (t := 43) rfl rfl e43_q27).trans hGq26.out.symm) (v := .bool L120) (fun hG => by obtain ⟨hp0, hb0⟩ := iGq26.out hG; generalize aq27.eval = ρ at e45_q27; simp only [vif, cond_true, cond_false, hG, hp0, hb0] at e45_q27; simp only [execOp]; go_simp) fun aq28 fq28 => ?_
      have e2_q28 := (fq28.other 2 (by decide)).trans e2_q27
      have e5_q28 := (fq28.other 5 (by decide)).trans e5_q27
      have e43_q28 := (fq28.other 43 (by decide)).trans e43_q27
      have e46_q28 : aq28.eval (.tmp 46) = vif Gq26 (.bool L120) := fq28.own
      have zq28 := fq28.sz
      have dq28 := fq28.df.trans dq27
      clear fq28 e2_q27 e5_q27 e43_q27 e45_q27 zq27 dq27
      obtain ⟨Gq29, hGq29⟩ : ∃ G, Hid (G = (Gq26 && (L120 == false))) := ⟨_, Lib.hid rfl⟩
      have iGq29 := Lib.hid (show Gq29 = true → Gq26 = true ∧ L120 = false from fun h => by rw [hGq29.out] at h; simpa using h)
      refine fr_g zq28 (t := 47) (by decide) rfl ((fr_w (k := 28) (b := false) (t := 46) rfl rfl e46_q28).trans hGq29.out.symm) (v := .pointer (some ⟨w.heap.size, 10, none⟩)) (fun hG => by obtain ⟨hp0, hb0⟩ := iGq29.out hG; obtain ⟨hp1, hb1⟩ := iGq26.out hp0; generalize aq28.eval = ρ at e2_q28; simp only [execOp]; go_simp) fun aq29 fq29 => ?_
      have e2_q29 := (fq29.other 2 (by decide)).trans e2_q28
      have e5_q29 := (fq29.other 5 (by decide)).trans e5_q28
      have e43_q29 := (fq29.other 43 (by decide)).trans e43_q28
      have e46_q29 := (fq29.other 46 (by decide)).trans e46_q28
      have e47_q29 : aq29.eval (.tmp 47) = vif Gq29 (.pointer (some ⟨w.heap.size, 10, none⟩)) := fq29.own
      have zq29 := fq29.sz
      have dq29 := fq29.df.trans dq28
      clear fq29 e2_q28 e5_q28 e43_q28 e46_q28 zq28 dq28
      refine fr_g zq29 (t := 48) (by decide) rfl ((fr_w (k := 28) (b := false) (t := 46) rfl rfl e46_q29).trans hGq29.out.symm) (v := .agg #[.int .i64 m.c, .float .f64 m.r]) (fun hG => by obtain ⟨hp0, hb0⟩ := iGq29.out hG; obtain ⟨hp1, hb1⟩ := iGq26.out hp0; have y10 := X10.out uq22 HBq22.out; have y11 := X11.out uq22 HBq22.out; generalize aq29.eval = ρ at e47_q29; simp only [vif, cond_true, cond_false, hG, hp0, hb0, hp1, hb1] at e47_q29; simp only [execOp]; go_simp) fun aq30 fq30 => ?_
      have e2_q30 := (fq30.other 2 (by decide)).trans e2_q29
      have e5_q30 := (fq30.other 5 (by decide)).trans e5_q29
      have e43_q30 := (fq30.other 43 (by decide)).trans e43_q29
      have e46_q30 := (fq30.other 46 (by decide)).trans e46_q29
      have e48_q30 : aq30.eval (.tmp 48) = vif Gq29 (.agg #[.int .i64 m.c, .float .f64 m.r]) := fq30.own
      have zq30 := fq30.sz
      have dq30 := fq30.df.trans dq29
      clear fq30 e2_q29 e5_q29 e43_q29 e46_q29 e47_q29 zq29 dq29
      refine fr_g zq30 (t := 49) (by decide) rfl ((fr_w (k := 28) (b := false) (t := 46) rfl rfl e46_q30).trans hGq29.out.symm) (v := .agg #[.int .i64 0, .float .f64 0]) (fun hG => by obtain ⟨hp0, hb0⟩ := iGq29.out hG; obtain ⟨hp1, hb1⟩ := iGq26.out hp0; generalize aq30.eval = ρ; simp only [execOp]; go_simp) fun aq31 fq31 => ?_
      have e2_q31 := (fq31.other 2 (by decide)).trans e2_q30
      have e5_q31 := (fq31.other 5 (by decide)).trans e5_q30
      have e43_q31 := (fq31.other 43 (by decide)).trans e43_q30
      have e46_q31 := (fq31.other 46 (by decide)).trans e46_q30
      have e48_q31 := (fq31.other 48 (by decide)).trans e48_q30
      have e49_q31 : aq31.eval (.tmp 49) = vif Gq29 (.agg #[.int .i64 0, .float .f64 0]) := fq31.own
      have zq31 := fq31.sz
      have dq31 := fq31.df.trans dq30
      clear fq31 e2_q30 e5_q30 e43_q30 e46_q30 e48_q30 zq30 dq30
      refine fr_gc zq31 (t := 50) (by decide) rfl ((fr_w (k := 28) (b := false) (t := 46) rfl rfl e46_q31).trans hGq29.out.symm) 42 #[.agg #[.int .i64 m.c, .float .f64 m.r], .agg #[.int .i64 0, .float .f64 0]] (v := .bool SR) (fun hG => by obtain ⟨hp0, hb0⟩ := iGq29.out hG; obtain ⟨hp1, hb1⟩ := iGq26.out hp0; have hf : aq31.eval (.func 42) = .func (.func 42) #[] #[] := rfl; generalize aq31.eval = ρ at hf e48_q31 e49_q31; simp only [vif, cond_true, cond_false, hG, hp0, hb0, hp1, hb1] at e48_q31 e49_q31; simp only [execOp]; go_simp) (fun hG => CSR.out uq22) fun aq32 uq32 blq32 fq32 => ?_
      have HBq32 := Lib.hid (bthen HBq22.out blq32)
      clear blq32
      have e2_q32 := (fq32.other 2 (by decide)).trans e2_q31
      have e5_q32 := (fq32.other 5 (by decide)).trans e5_q31
      have e43_q32 := (fq32.other 43 (by decide)).trans e43_q31
      have e46_q32 := (fq32.other 46 (by decide)).trans e46_q31
      have e50_q32 : aq32.eval (.tmp 50) = vif Gq29 (.bool SR) := fq32.own
      have zq32 := fq32.sz
      have dq32 := fq32.df.trans dq31
      clear fq32 e2_q31 e5_q31 e43_q31 e46_q31 e48_q31 e49_q31 zq31 dq31
      obtain ⟨Bq33, hBq33⟩ : ∃ B, Hid (B = ((L120 || SR))) := ⟨_, Lib.hid rfl⟩
      refine fr_g zq32 (t := 51) (by decide) rfl ((fr_w0 (k := 25) (b := true) (t := 43) rfl rfl e43_q32).trans hGq26.out.symm) (v := .bool Bq33) (fun hG => by obtain ⟨hp0, hb0⟩ := iGq26.out hG; have hc0 : aq32.eval (.const (.bool true)) = .bool true := rfl; generalize aq32.eval = ρ at e46_q32 e50_q32 hc0; rw [hBq33.out]; cases L120 <;> simp only [execOp, vif, cond_true, cond_false, Bool.true_and, Bool.false_and, Bool.true_or, Bool.false_or, beq_self_eq_true, hGq3.out, hGq8.out, hGq11.out, hGq17.out, hGq20.out, hGq26.out, hGq29.out, hG, hp0, hb0] at e46_q32 e50_q32 ⊢ <;> go_simp) fun aq33 fq33 => ?_
      have e2_q33 := (fq33.other 2 (by decide)).trans e2_q32
      have e5_q33 := (fq33.other 5 (by decide)).trans e5_q32
      have e43_q33 := (fq33.other 43 (by decide)).trans e43_q32
      have e51_q33 : aq33.eval (.tmp 51) = vif Gq26 (.bool Bq33) := fq33.own
      have zq33 := fq33.sz
      have dq33 := fq33.df.trans dq32
      clear fq33 e2_q32 e5_q32 e43_q32 e46_q32 e50_q32 zq32 dq32
      obtain ⟨Bq34, hBq34⟩ : ∃ B, Hid (B = ((Bq24 && Bq33))) := ⟨_, Lib.hid rfl⟩
      refine fr_g zq33 (t := 52) (by decide) rfl (by rfl) (v := .bool Bq34) (fun hG => by have hc0 : aq33.eval (.const (.bool false)) = .bool false := rfl; generalize aq33.eval = ρ at e43_q33 e51_q33 hc0; rw [hBq34.out]; cases Bq24 <;> simp only [execOp, vif, cond_true, cond_false, Bool.true_and, Bool.false_and, Bool.true_or, Bool.false_or, beq_self_eq_true, hGq3.out, hGq8.out, hGq11.out, hGq17.out, hGq20.out, hGq26.out, hGq29.out] at e51_q33 ⊢ <;> go_simp) fun aq34 fq34 => ?_
      have e2_q34 := (fq34.other 2 (by decide)).trans e2_q33
      have e5_q34 := (fq34.other 5 (by decide)).trans e5_q33
      have e52_q34 : aq34.eval (.tmp 52) = .bool Bq34 := fq34.own
      have zq34 := fq34.sz
      have dq34 := fq34.df.trans dq33
      clear fq34 e2_q33 e5_q33 e43_q33 e51_q33 zq33 dq33
      refine fr_g zq34 (t := 53) (by decide) rfl (by rfl) (v := .bool Bq34) (fun hG => by generalize aq34.eval = ρ at e52_q34; simp only [execOp]; go_simp) fun aq35 fq35 => ?_
      have e2_q35 := (fq35.other 2 (by decide)).trans e2_q34
      have e5_q35 := (fq35.other 5 (by decide)).trans e5_q34
      have e53_q35 : aq35.eval (.tmp 53) = .bool Bq34 := fq35.own
      have zq35 := fq35.sz
      have dq35 := fq35.df.trans dq34
      clear fq35 e2_q34 e5_q34 e52_q34 zq34 dq34
      obtain ⟨Gq36, hGq36⟩ : ∃ G, Hid (G = (true && (Bq34 == true))) := ⟨_, Lib.hid rfl⟩
      have iGq36 := Lib.hid (show Gq36 = true → true = true ∧ Bq34 = true from fun h => by rw [hGq36.out] at h; simpa using h)
      refine fr_g zq35 (t := 54) (by decide) rfl ((fr_w0 (k := 35) (b := true) (t := 53) rfl rfl e53_q35).trans hGq36.out.symm) (v := .pointer (some ⟨w1.heap.size, 116, none⟩)) (fun hG => by obtain ⟨hp0, hb0⟩ := iGq36.out hG; have hc0 : aq35.eval (.const (.int .i64 116)) = .int .i64 116 := rfl; generalize aq35.eval = ρ at e5_q35 hc0; simp only [execOp]; go_simp) fun aq36 fq36 => ?_
      have e2_q36 := (fq36.other 2 (by decide)).trans e2_q35
      have e5_q36 := (fq36.other 5 (by decide)).trans e5_q35
      have e53_q36 := (fq36.other 53 (by decide)).trans e53_q35
      have e54_q36 : aq36.eval (.tmp 54) = vif Gq36 (.pointer (some ⟨w1.heap.size, 116, none⟩)) := fq36.own
      have zq36 := fq36.sz
      have dq36 := fq36.df.trans dq35
      clear fq36 e2_q35 e5_q35 e53_q35 zq35 dq35
      refine fr_g zq36 (t := 55) (by decide) rfl ((fr_w0 (k := 35) (b := true) (t := 53) rfl rfl e53_q36).trans hGq36.out.symm) (v := .bool L116) (fun hG => by obtain ⟨hp0, hb0⟩ := iGq36.out hG; have yL116 := XL116.out uq32 HBq32.out; generalize aq36.eval = ρ at e54_q36; simp only [vif, cond_true, cond_false, hG, hp0, hb0] at e54_q36; simp only [execOp]; go_simp) fun aq37 fq37 => ?_
      have e2_q37 := (fq37.other 2 (by decide)).trans e2_q36
      have e5_q37 := (fq37.other 5 (by decide)).trans e5_q36
      have e53_q37 := (fq37.other 53 (by decide)).trans e53_q36
      have e55_q37 : aq37.eval (.tmp 55) = vif Gq36 (.bool L116) := fq37.own
      have zq37 := fq37.sz
      have dq37 := fq37.df.trans dq36
      clear fq37 e2_q36 e5_q36 e53_q36 e54_q36 zq36 dq36
      refine fr_g zq37 (t := 56) (by decide) rfl ((fr_w0 (k := 35) (b := true) (t := 53) rfl rfl e53_q37).trans hGq36.out.symm) (v := .bool L116) (fun hG => by obtain ⟨hp0, hb0⟩ := iGq36.out hG; generalize aq37.eval = ρ at e55_q37; simp only [vif, cond_true, cond_false, hG, hp0, hb0] at e55_q37; simp only [execOp]; go_simp) fun aq38 fq38 => ?_
      have e2_q38 := (fq38.other 2 (by decide)).trans e2_q37
      have e5_q38 := (fq38.other 5 (by decide)).trans e5_q37
      have e53_q38 := (fq38.other 53 (by decide)).trans e53_q37
      have e56_q38 : aq38.eval (.tmp 56) = vif Gq36 (.bool L116) := fq38.own
      have zq38 := fq38.sz
      have dq38 := fq38.df.trans dq37
      clear fq38 e2_q37 e5_q37 e53_q37 e55_q37 zq37 dq37
      obtain ⟨Gq39, hGq39⟩ : ∃ G, Hid (G = (Gq36 && (L116 == false))) := ⟨_, Lib.hid rfl⟩
      have iGq39 := Lib.hid (show Gq39 = true → Gq36 = true ∧ L116 = false from fun h => by rw [hGq39.out] at h; simpa using h)
      refine fr_g zq38 (t := 57) (by decide) rfl ((fr_w (k := 38) (b := false) (t := 56) rfl rfl e56_q38).trans hGq39.out.symm) (v := .pointer (some ⟨w.heap.size, 12, none⟩)) (fun hG => by obtain ⟨hp0, hb0⟩ := iGq39.out hG; obtain ⟨hp1, hb1⟩ := iGq36.out hp0; generalize aq38.eval = ρ at e2_q38; simp only [execOp]; go_simp) fun aq39 fq39 => ?_
      have e2_q39 := (fq39.other 2 (by decide)).trans e2_q38
      have e5_q39 := (fq39.other 5 (by decide)).trans e5_q38
      have e53_q39 := (fq39.other 53 (by decide)).trans e53_q38
      have e56_q39 := (fq39.other 56 (by decide)).trans e56_q38
      have e57_q39 : aq39.eval (.tmp 57) = vif Gq39 (.pointer (some ⟨w.heap.size, 12, none⟩)) := fq39.own
      have zq39 := fq39.sz
      have dq39 := fq39.df.trans dq38
      clear fq39 e2_q38 e5_q38 e53_q38 e56_q38 zq38 dq38
      refine fr_g zq39 (t := 58) (by decide) rfl ((fr_w (k := 38) (b := false) (t := 56) rfl rfl e56_q39).trans hGq39.out.symm) (v := .string m.t) (fun hG => by obtain ⟨hp0, hb0⟩ := iGq39.out hG; obtain ⟨hp1, hb1⟩ := iGq36.out hp0; have y12 := X12.out uq32 HBq32.out; generalize aq39.eval = ρ at e57_q39; simp only [vif, cond_true, cond_false, hG, hp0, hb0, hp1, hb1] at e57_q39; simp only [execOp]; go_simp) fun aq40 fq40 => ?_
      have e2_q40 := (fq40.other 2 (by decide)).trans e2_q39
      have e5_q40 := (fq40.other 5 (by decide)).trans e5_q39
      have e53_q40 := (fq40.other 53 (by decide)).trans e53_q39
      have e56_q40 := (fq40.other 56 (by decide)).trans e56_q39
      have e58_q40 : aq40.eval (.tmp 58) = vif Gq39 (.string m.t) := fq40.own
      have zq40 := fq40.sz
      have dq40 := fq40.df.trans dq39
      clear fq40 e2_q39 e5_q39 e53_q39 e56_q39 e57_q39 zq39 dq39
      obtain ⟨Bq41, hBq41⟩ : ∃ B, Hid (B = (m.t.toList.isEmpty)) := ⟨_, Lib.hid rfl⟩
      refine fr_g zq40 (t := 59) (by decide) rfl ((fr_w (k := 38) (b := false) (t := 56) rfl rfl e56_q40).trans hGq39.out.symm) (v := .bool Bq41) (fun hG => by obtain ⟨hp0, hb0⟩ := iGq39.out hG; obtain ⟨hp1, hb1⟩ := iGq36.out hp0; have hc0 : aq40.eval (.const (.string ⟨#[]⟩)) = .string ⟨#[]⟩ := rfl; generalize aq40.eval = ρ at e58_q40 hc0; simp only [vif, cond_true, cond_false, hG, hp0, hb0, hp1, hb1] at e58_q40; rw [hBq41.out]; simp only [execOp]; go_simp) fun aq41 fq41 => ?_
      have e2_q41 := (fq41.other 2 (by decide)).trans e2_q40
      have e5_q41 := (fq41.other 5 (by decide)).trans e5_q40
      have e53_q41 := (fq41.other 53 (by decide)).trans e53_q40
      have e56_q41 := (fq41.other 56 (by decide)).trans e56_q40
      have e59_q41 : aq41.eval (.tmp 59) = vif Gq39 (.bool Bq41) := fq41.own
      have zq41 := fq41.sz
      have dq41 := fq41.df.trans dq40
      clear fq41 e2_q40 e5_q40 e53_q40 e56_q40 e58_q40 zq40 dq40
      obtain ⟨Bq42, hBq42⟩ : ∃ B, Hid (B = ((L116 || Bq41))) := ⟨_, Lib.hid rfl⟩
      refine fr_g zq41 (t := 60) (by decide) rfl ((fr_w0 (k := 35) (b := true) (t := 53) rfl rfl e53_q41).trans hGq36.out.symm) (v := .bool Bq42) (fun hG => by obtain ⟨hp0, hb0⟩ := iGq36.out hG; have hc0 : aq41.eval (.const (.bool true)) = .bool true := rfl; generalize aq41.eval = ρ at e56_q41 e59_q41 hc0; rw [hBq42.out]; cases L116 <;> simp only [execOp, vif, cond_true, cond_false, Bool.true_and, Bool.false_and, Bool.true_or, Bool.false_or, beq_self_eq_true, hGq3.out, hGq8.out, hGq11.out, hGq17.out, hGq20.out, hGq26.out, hGq29.out, hGq36.out, hGq39.out, hG, hp0, hb0] at e56_q41 e59_q41 ⊢ <;> go_simp) fun aq42 fq42 => ?_
      have e2_q42 := (fq42.other 2 (by decide)).trans e2_q41
      have e5_q42 := (fq42.other 5 (by decide)).trans e5_q41
      have e53_q42 := (fq42.other 53 (by decide)).trans e53_q41
      have e60_q42 : aq42.eval (.tmp 60) = vif Gq36 (.bool Bq42) := fq42.own
      have zq42 := fq42.sz
      have dq42 := fq42.df.trans dq41
      clear fq42 e2_q41 e5_q41 e53_q41 e56_q41 e59_q41 zq41 dq41
      obtain ⟨Bq43, hBq43⟩ : ∃ B, Hid (B = ((Bq34 && Bq42))) := ⟨_, Lib.hid rfl⟩
      refine fr_g zq42 (t := 61) (by decide) rfl (by rfl) (v := .bool Bq43) (fun hG => by have hc0 : aq42.eval (.const (.bool false)) = .bool false := rfl; generalize aq42.eval = ρ at e53_q42 e60_q42 hc0; rw [hBq43.out]; cases Bq34 <;> simp only [execOp, vif, cond_true, cond_false, Bool.true_and, Bool.false_and, Bool.true_or, Bool.false_or, beq_self_eq_true, hGq3.out, hGq8.out, hGq11.out, hGq17.out, hGq20.out, hGq26.out, hGq29.out, hGq36.out, hGq39.out] at e60_q42 ⊢ <;> go_simp) fun aq43 fq43 => ?_
      have e2_q43 := (fq43.other 2 (by decide)).trans e2_q42
      have e5_q43 := (fq43.other 5 (by decide)).trans e5_q42
      have e61_q43 : aq43.eval (.tmp 61) = .bool Bq43 := fq43.own
      have zq43 := fq43.sz
      have dq43 := fq43.df.trans dq42
      clear fq43 e2_q42 e5_q42 e53_q42 e60_q42 zq42 dq42
      refine fr_g zq43 (t := 62) (by decide) rfl (by rfl) (v := .bool Bq43) (fun hG => by generalize aq43.eval = ρ at e61_q43; simp only [execOp]; go_simp) fun aq44 fq44 => ?_
      have e2_q44 := (fq44.other 2 (by decide)).trans e2_q43
      have e5_q44 := (fq44.other 5 (by decide)).trans e5_q43
      have e62_q44 : aq44.eval (.tmp 62) = .bool Bq43 := fq44.own
      have zq44 := fq44.sz
      have dq44 := fq44.df.trans dq43
      clear fq44 e2_q43 e5_q43 e61_q43 zq43 dq43
      obtain ⟨Gq45, hGq45⟩ : ∃ G, Hid (G = (true && (Bq43 == true))) := ⟨_, Lib.hid rfl⟩
      have iGq45 := Lib.hid (show Gq45 = true → true = true ∧ Bq43 = true from fun h => by rw [hGq45.out] at h; simpa using h)
      refine fr_g zq44 (t := 63) (by decide) rfl ((fr_w0 (k := 44) (b := true) (t := 62) rfl rfl e62_q44).trans hGq45.out.symm) (v := .pointer (some ⟨w1.heap.size, 110, none⟩)) (fun hG => by obtain ⟨hp0, hb0⟩ := iGq45.out hG; have hc0 : aq44.eval (.const (.int .i64 110)) = .int .i64 110 := rfl; generalize aq44.eval = ρ at e5_q44 hc0; simp only [execOp]; go_simp) fun aq45 fq45 => ?_
      have e2_q45 := (fq45.other 2 (by decide)).trans e2_q44
      have e5_q45 := (fq45.other 5 (by decide)).trans e5_q44
      have e62_q45 := (fq45.other 62 (by decide)).trans e62_q44
      have e63_q45 : aq45.eval (.tmp 63) = vif Gq45 (.pointer (some ⟨w1.heap.size, 110, none⟩)) := fq45.own
      have zq45 := fq45.sz
      have dq45 := fq45.df.trans dq44
      clear fq45 e2_q44 e5_q44 e62_q44 zq44 dq44
      refine fr_g zq45 (t := 64) (by decide) rfl ((fr_w0 (k := 44) (b := true) (t := 62) rfl rfl e62_q45).trans hGq45.out.symm) (v := .bool L110) (fun hG => by obtain ⟨hp0, hb0⟩ := iGq45.out hG; have yL110 := XL110.out uq32 HBq32.out; generalize aq45.eval = ρ at e63_q45; simp only [vif, cond_true, cond_false, hG, hp0, hb0] at e63_q45; simp only [execOp]; go_simp) fun aq46 fq46 => ?_
      have e2_q46 := (fq46.other 2 (by decide)).trans e2_q45
      have e5_q46 := (fq46.other 5 (by decide)).trans e5_q45
      have e62_q46 := (fq46.other 62 (by decide)).trans e62_q45
      have e64_q46 : aq46.eval (.tmp 64) = vif Gq45 (.bool L110) := fq46.own
      have zq46 := fq46.sz
      have dq46 := fq46.df.trans dq45
      clear fq46 e2_q45 e5_q45 e62_q45 e63_q45 zq45 dq45
      refine fr_g zq46 (t := 65) (by decide) rfl ((fr_w0 (k := 44) (b := true) (t := 62) rfl rfl e62_q46).trans hGq45.out.symm) (v := .bool L110) (fun hG => by obtain ⟨hp0, hb0⟩ := iGq45.out hG; generalize aq46.eval = ρ at e64_q46; simp only [vif, cond_true, cond_false, hG, hp0, hb0] at e64_q46; simp only [execOp]; go_simp) fun aq47 fq47 => ?_
      have e2_q47 := (fq47.other 2 (by decide)).trans e2_q46
      have e5_q47 := (fq47.other 5 (by decide)).trans e5_q46
      have e62_q47 := (fq47.other 62 (by decide)).trans e62_q46
      have e65_q47 : aq47.eval (.tmp 65) = vif Gq45 (.bool L110) := fq47.own
      have zq47 := fq47.sz
      have dq47 := fq47.df.trans dq46
      clear fq47 e2_q46 e5_q46 e62_q46 e64_q46 zq46 dq46
      obtain ⟨Gq48, hGq48⟩ : ∃ G, Hid (G = (Gq45 && (L110 == false))) := ⟨_, Lib.hid rfl⟩
      have iGq48 := Lib.hid (show Gq48 = true → Gq45 = true ∧ L110 = false from fun h => by rw [hGq48.out] at h; simpa using h)
      refine fr_g zq47 (t := 66) (by decide) rfl ((fr_w (k := 47) (b := false) (t := 65) rfl rfl e65_q47).trans hGq48.out.symm) (v := .pointer (some ⟨w.heap.size, 13, none⟩)) (fun hG => by obtain ⟨hp0, hb0⟩ := iGq48.out hG; obtain ⟨hp1, hb1⟩ := iGq45.out hp0; generalize aq47.eval = ρ at e2_q47; simp only [execOp]; go_simp) fun aq48 fq48 => ?_
      have e2_q48 := (fq48.other 2 (by decide)).trans e2_q47
      have e5_q48 := (fq48.other 5 (by decide)).trans e5_q47
      have e62_q48 := (fq48.other 62 (by decide)).trans e62_q47
      have e65_q48 := (fq48.other 65 (by decide)).trans e65_q47
      have e66_q48 : aq48.eval (.tmp 66) = vif Gq48 (.pointer (some ⟨w.heap.size, 13, none⟩)) := fq48.own
      have zq48 := fq48.sz
      have dq48 := fq48.df.trans dq47
      clear fq48 e2_q47 e5_q47 e62_q47 e65_q47 zq47 dq47
      refine fr_g zq48 (t := 67) (by decide) rfl ((fr_w (k := 47) (b := false) (t := 65) rfl rfl e65_q48).trans hGq48.out.symm) (v := .slice a1 n1 c1) (fun hG => by obtain ⟨hp0, hb0⟩ := iGq48.out hG; obtain ⟨hp1, hb1⟩ := iGq45.out hp0; have y13 := X13.out uq32 HBq32.out; generalize aq48.eval = ρ at e66_q48; simp only [vif, cond_true, cond_false, hG, hp0, hb0, hp1, hb1] at e66_q48; simp only [execOp]; go_simp) fun aq49 fq49 => ?_
      have e2_q49 := (fq49.other 2 (by decide)).trans e2_q48
      have e5_q49 := (fq49.other 5 (by decide)).trans e5_q48
      have e62_q49 := (fq49.other 62 (by decide)).trans e62_q48
      have e65_q49 := (fq49.other 65 (by decide)).trans e65_q48
      have e67_q49 : aq49.eval (.tmp 67) = vif Gq48 (.slice a1 n1 c1) := fq49.own
      have zq49 := fq49.sz
      have dq49 := fq49.df.trans dq48
      clear fq49 e2_q48 e5_q48 e62_q48 e65_q48 e66_q48 zq48 dq48
      refine fr_g zq49 (t := 68) (by decide) rfl ((fr_w (k := 47) (b := false) (t := 65) rfl rfl e65_q49).trans hGq48.out.symm) (v := .int .i64 n1) (fun hG => by obtain ⟨hp0, hb0⟩ := iGq48.out hG; obtain ⟨hp1, hb1⟩ := iGq45.out hp0; generalize aq49.eval = ρ at e67_q49; simp only [vif, cond_true, cond_false, hG, hp0, hb0, hp1, hb1] at e67_q49; simp only [execOp]; go_simp) fun aq50 fq50 => ?_
      have e2_q50 := (fq50.other 2 (by decide)).trans e2_q49
      have e5_q50 := (fq50.other 5 (by decide)).trans e5_q49
      have e62_q50 := (fq50.other 62 (by decide)).trans e62_q49
      have e65_q50 := (fq50.other 65 (by decide)).trans e65_q49
      have e68_q50 : aq50.eval (.tmp 68) = vif Gq48 (.int .i64 n1) := fq50.own
      have zq50 := fq50.sz
      have dq50 := fq50.df.trans dq49
      clear fq50 e2_q49 e5_q49 e62_q49 e65_q49 e67_q49 zq49 dq49
      obtain ⟨Bq51, hBq51⟩ : ∃ B, Hid (B = ((n1 : Int) == 0)) := ⟨_, Lib.hid rfl⟩
      refine fr_g zq50 (t := 69) (by decide) rfl ((fr_w (k := 47) (b := false) (t := 65) rfl rfl e65_q50).trans hGq48.out.symm) (v := .bool Bq51) (fun hG => by obtain ⟨hp0, hb0⟩ := iGq48.out hG; obtain ⟨hp1, hb1⟩ := iGq45.out hp0; have hc0 : aq50.eval (.const (.int .i64 0)) = .int .i64 0 := rfl; generalize aq50.eval = ρ at e68_q50 hc0; simp only [vif, cond_true, cond_false, hG, hp0, hb0, hp1, hb1] at e68_q50; rw [hBq51.out]; simp only [execOp]; go_simp) fun aq51 fq51 => ?_
      have e2_q51 := (fq51.other 2 (by decide)).trans e2_q50
      have e5_q51 := (fq51.other 5 (by decide)).trans e5_q50
      have e62_q51 := (fq51.other 62 (by decide)).trans e62_q50
      have e65_q51 := (fq51.other 65 (by decide)).trans e65_q50
      have e69_q51 : aq51.eval (.tmp 69) = vif Gq48 (.bool Bq51) := fq51.own
      have zq51 := fq51.sz
      have dq51 := fq51.df.trans dq50
      clear fq51 e2_q50 e5_q50 e62_q50 e65_q50 e68_q50 zq50 dq50
      obtain ⟨Bq52, hBq52⟩ : ∃ B, Hid (B = ((L110 || Bq51))) := ⟨_, Lib.hid rfl⟩
      refine fr_g zq51 (t := 70) (by decide) rfl ((fr_w0 (k := 44) (b := true) (t := 62) rfl rfl e62_q51).trans hGq45.out.symm) (v := .bool Bq52) (fun hG => by obtain ⟨hp0, hb0⟩ := iGq45.out hG; have hc0 : aq51.eval (.const (.bool true)) = .bool true := rfl; generalize aq51.eval = ρ at e65_q51 e69_q51 hc0; rw [hBq52.out]; cases L110 <;> simp only [execOp, vif, cond_true, cond_false, Bool.true_and, Bool.false_and, Bool.true_or, Bool.false_or, beq_self_eq_true, hGq3.out, hGq8.out, hGq11.out, hGq17.out, hGq20.out, hGq26.out, hGq29.out, hGq36.out, hGq39.out, hGq45.out, hGq48.out, hG, hp0, hb0] at e65_q51 e69_q51 ⊢ <;> go_simp) fun aq52 fq52 => ?_
      have e2_q52 := (fq52.other 2 (by decide)).trans e2_q51
      have e5_q52 := (fq52.other 5 (by decide)).trans e5_q51
      have e62_q52 := (fq52.other 62 (by decide)).trans e62_q51
      have e70_q52 : aq52.eval (.tmp 70) = vif Gq45 (.bool Bq52) := fq52.own
      have zq52 := fq52.sz
      have dq52 := fq52.df.trans dq51
      clear fq52 e2_q51 e5_q51 e62_q51 e65_q51 e69_q51 zq51 dq51
      obtain ⟨Bq53, hBq53⟩ : ∃ B, Hid (B = ((Bq43 && Bq52))) := ⟨_, Lib.hid rfl⟩
      refine fr_g zq52 (t := 71) (by decide) rfl (by rfl) (v := .bool Bq53) (fun hG => by have hc0 : aq52.eval (.const (.bool false)) = .bool false := rfl; generalize aq52.eval = ρ at e62_q52 e70_q52 hc0; rw [hBq53.out]; cases Bq43 <;> simp only [execOp, vif, cond_true, cond_false, Bool.true_and, Bool.false_and, Bool.true_or, Bool.false_or, beq_self_eq_true, hGq3.out, hGq8.out, hGq11.out, hGq17.out, hGq20.out, hGq26.out, hGq29.out, hGq36.out, hGq39.out, hGq45.out, hGq48.out] at e70_q52 ⊢ <;> go_simp) fun aq53 fq53 => ?_
      have e2_q53 := (fq53.other 2 (by decide)).trans e2_q52
      have e5_q53 := (fq53.other 5 (by decide)).trans e5_q52
      have e71_q53 : aq53.eval (.tmp 71) = .bool Bq53 := fq53.own
      have zq53 := fq53.sz
      have dq53 := fq53.df.trans dq52
      clear fq53 e2_q52 e5_q52 e62_q52 e70_q52 zq52 dq52
      refine fr_g zq53 (t := 72) (by decide) rfl (by rfl) (v := .bool Bq53) (fun hG => by generalize aq53.eval = ρ at e71_q53; simp only [execOp]; go_simp) fun aq54 fq54 => ?_
      have e2_q54 := (fq54.other 2 (by decide)).trans e2_q53
      have e5_q54 := (fq54.other 5 (by decide)).trans e5_q53
      have e72_q54 : aq54.eval (.tmp 72) = .bool Bq53 := fq54.own
      have zq54 := fq54.sz
      have dq54 := fq54.df.trans dq53
      clear fq54 e2_q53 e5_q53 e71_q53 zq53 dq53
      obtain ⟨Gq55, hGq55⟩ : ∃ G, Hid (G = (true && (Bq53 == true))) := ⟨_, Lib.hid rfl⟩
      have iGq55 := Lib.hid (show Gq55 = true → true = true ∧ Bq53 = true from fun h => by rw [hGq55.out] at h; simpa using h)
      refine fr_g zq54 (t := 73) (by decide) rfl ((fr_w0 (k := 54) (b := true) (t := 72) rfl rfl e72_q54).trans hGq55.out.symm) (v := .pointer (some ⟨w1.heap.size, 103, none⟩)) (fun hG => by obtain ⟨hp0, hb0⟩ := iGq55.out hG; have hc0 : aq54.eval (.const (.int .i64 103)) = .int .i64 103 := rfl; generalize aq54.eval = ρ at e5_q54 hc0; simp only [execOp]; go_simp) fun aq55 fq55 => ?_
      have e2_q55 := (fq55.other 2 (by decide)).trans e2_q54
      have e5_q55 := (fq55.other 5 (by decide)).trans e5_q54
      have e72_q55 := (fq55.other 72 (by decide)).trans e72_q54
      have e73_q55 : aq55.eval (.tmp 73) = vif Gq55 (.pointer (some ⟨w1.heap.size, 103, none⟩)) := fq55.own
      have zq55 := fq55.sz
      have dq55 := fq55.df.trans dq54
      clear fq55 e2_q54 e5_q54 e72_q54 zq54 dq54
      refine fr_g zq55 (t := 74) (by decide) rfl ((fr_w0 (k := 54) (b := true) (t := 72) rfl rfl e72_q55).trans hGq55.out.symm) (v := .bool L103) (fun hG => by obtain ⟨hp0, hb0⟩ := iGq55.out hG; have yL103 := XL103.out uq32 HBq32.out; generalize aq55.eval = ρ at e73_q55; simp only [vif, cond_true, cond_false, hG, hp0, hb0] at e73_q55; simp only [execOp]; go_simp) fun aq56 fq56 => ?_
      have e2_q56 := (fq56.other 2 (by decide)).trans e2_q55
      have e5_q56 := (fq56.other 5 (by decide)).trans e5_q55
      have e72_q56 := (fq56.other 72 (by decide)).trans e72_q55
      have e74_q56 : aq56.eval (.tmp 74) = vif Gq55 (.bool L103) := fq56.own
      have zq56 := fq56.sz
      have dq56 := fq56.df.trans dq55
      clear fq56 e2_q55 e5_q55 e72_q55 e73_q55 zq55 dq55
      refine fr_g zq56 (t := 75) (by decide) rfl ((fr_w0 (k := 54) (b := true) (t := 72) rfl rfl e72_q56).trans hGq55.out.symm) (v := .bool L103) (fun hG => by obtain ⟨hp0, hb0⟩ := iGq55.out hG; generalize aq56.eval = ρ at e74_q56; simp only [vif, cond_true, cond_false, hG, hp0, hb0] at e74_q56; simp only [execOp]; go_simp) fun aq57 fq57 => ?_
      have e2_q57 := (fq57.other 2 (by decide)).trans e2_q56
      have e5_q57 := (fq57.other 5 (by decide)).trans e5_q56
      have e72_q57 := (fq57.other 72 (by decide)).trans e72_q56
      have e75_q57 : aq57.eval (.tmp 75) = vif Gq55 (.bool L103) := fq57.own
      have zq57 := fq57.sz
      have dq57 := fq57.df.trans dq56
      clear fq57 e2_q56 e5_q56 e72_q56 e74_q56 zq56 dq56
      obtain ⟨Gq58, hGq58⟩ : ∃ G, Hid (G = (Gq55 && (L103 == false))) := ⟨_, Lib.hid rfl⟩
      have iGq58 := Lib.hid (show Gq58 = true → Gq55 = true ∧ L103 = false from fun h => by rw [hGq58.out] at h; simpa using h)
      refine fr_g zq57 (t := 76) (by decide) rfl ((fr_w (k := 57) (b := false) (t := 75) rfl rfl e75_q57).trans hGq58.out.symm) (v := .pointer (some ⟨w.heap.size, 14, none⟩)) (fun hG => by obtain ⟨hp0, hb0⟩ := iGq58.out hG; obtain ⟨hp1, hb1⟩ := iGq55.out hp0; generalize aq57.eval = ρ at e2_q57; simp only [execOp]; go_simp) fun aq58 fq58 => ?_
      have e2_q58 := (fq58.other 2 (by decide)).trans e2_q57
      have e5_q58 := (fq58.other 5 (by decide)).trans e5_q57
      have e72_q58 := (fq58.other 72 (by decide)).trans e72_q57
      have e75_q58 := (fq58.other 75 (by decide)).trans e75_q57
      have e76_q58 : aq58.eval (.tmp 76) = vif Gq58 (.pointer (some ⟨w.heap.size, 14, none⟩)) := fq58.own
      have zq58 := fq58.sz
      have dq58 := fq58.df.trans dq57
      clear fq58 e2_q57 e5_q57 e72_q57 e75_q57 zq57 dq57
      refine fr_g zq58 (t := 77) (by decide) rfl ((fr_w (k := 57) (b := false) (t := 75) rfl rfl e75_q58).trans hGq58.out.symm) (v := .slice a2 n2 c2) (fun hG => by obtain ⟨hp0, hb0⟩ := iGq58.out hG; obtain ⟨hp1, hb1⟩ := iGq55.out hp0; have y14 := X14.out uq32 HBq32.out; generalize aq58.eval = ρ at e76_q58; simp only [vif, cond_true, cond_false, hG, hp0, hb0, hp1, hb1] at e76_q58; simp only [execOp]; go_simp) fun aq59 fq59 => ?_
      have e2_q59 := (fq59.other 2 (by decide)).trans e2_q58
      have e5_q59 := (fq59.other 5 (by decide)).trans e5_q58
      have e72_q59 := (fq59.other 72 (by decide)).trans e72_q58
      have e75_q59 := (fq59.other 75 (by decide)).trans e75_q58
      have e77_q59 : aq59.eval (.tmp 77) = vif Gq58 (.slice a2 n2 c2) := fq59.own
      have zq59 := fq59.sz
      have dq59 := fq59.df.trans dq58
      clear fq59 e2_q58 e5_q58 e72_q58 e75_q58 e76_q58 zq58 dq58
      refine fr_g zq59 (t := 78) (by decide) rfl ((fr_w (k := 57) (b := false) (t := 75) rfl rfl e75_q59).trans hGq58.out.symm) (v := .int .i64 n2) (fun hG => by obtain ⟨hp0, hb0⟩ := iGq58.out hG; obtain ⟨hp1, hb1⟩ := iGq55.out hp0; generalize aq59.eval = ρ at e77_q59; simp only [vif, cond_true, cond_false, hG, hp0, hb0, hp1, hb1] at e77_q59; simp only [execOp]; go_simp) fun aq60 fq60 => ?_
      have e2_q60 := (fq60.other 2 (by decide)).trans e2_q59
      have e5_q60 := (fq60.other 5 (by decide)).trans e5_q59
      have e72_q60 := (fq60.other 72 (by decide)).trans e72_q59
      have e75_q60 := (fq60.other 75 (by decide)).trans e75_q59
      have e78_q60 : aq60.eval (.tmp 78) = vif Gq58 (.int .i64 n2) := fq60.own
      have zq60 := fq60.sz
      have dq60 := fq60.df.trans dq59
      clear fq60 e2_q59 e5_q59 e72_q59 e75_q59 e77_q59 zq59 dq59
      obtain ⟨Bq61, hBq61⟩ : ∃ B, Hid (B = ((n2 : Int) == 0)) := ⟨_, Lib.hid rfl⟩
      refine fr_g zq60 (t := 79) (by decide) rfl ((fr_w (k := 57) (b := false) (t := 75) rfl rfl e75_q60).trans hGq58.out.symm) (v := .bool Bq61) (fun hG => by obtain ⟨hp0, hb0⟩ := iGq58.out hG; obtain ⟨hp1, hb1⟩ := iGq55.out hp0; have hc0 : aq60.eval (.const (.int .i64 0)) = .int .i64 0 := rfl; generalize aq60.eval = ρ at e78_q60 hc0; simp only [vif, cond_true, cond_false, hG, hp0, hb0, hp1, hb1] at e78_q60; rw [hBq61.out]; simp only [execOp]; go_simp) fun aq61 fq61 => ?_
      have e2_q61 := (fq61.other 2 (by decide)).trans e2_q60
      have e5_q61 := (fq61.other 5 (by decide)).trans e5_q60
      have e72_q61 := (fq61.other 72 (by decide)).trans e72_q60
      have e75_q61 := (fq61.other 75 (by decide)).trans e75_q60
      have e79_q61 : aq61.eval (.tmp 79) = vif Gq58 (.bool Bq61) := fq61.own
      have zq61 := fq61.sz
      have dq61 := fq61.df.trans dq60
      clear fq61 e2_q60 e5_q60 e72_q60 e75_q60 e78_q60 zq60 dq60
      obtain ⟨Bq62, hBq62⟩ : ∃ B, Hid (B = ((L103 || Bq61))) := ⟨_, Lib.hid rfl⟩
      refine fr_g zq61 (t := 80) (by decide) rfl ((fr_w0 (k := 54) (b := true) (t := 72) rfl rfl e72_q61).trans hGq55.out.symm) (v := .bool Bq62) (fun hG => by obtain ⟨hp0, hb0⟩ := iGq55.out hG; have hc0 : aq61.eval (.const (.bool true)) = .bool true := rfl; generalize aq61.eval = ρ at e75_q61 e79_q61 hc0; rw [hBq62.out]; cases L103 <;> simp only [execOp, vif, cond_true, cond_false, Bool.true_and, Bool.false_and, Bool.true_or, Bool.false_or, beq_self_eq_true, hGq3.out, hGq8.out, hGq11.out, hGq17.out, hGq20.out, hGq26.out, hGq29.out, hGq36.out, hGq39.out, hGq45.out, hGq48.out, hGq55.out, hGq58.out, hG, hp0, hb0] at e75_q61 e79_q61 ⊢ <;> go_simp) fun aq62 fq62 => ?_
      have e2_q62 := (fq62.other 2 (by decide)).trans e2_q61
      have e5_q62 := (fq62.other 5 (by decide)).trans e5_q61
      have e72_q62 := (fq62.other 72 (by decide)).trans e72_q61
      have e80_q62 : aq62.eval (.tmp 80) = vif Gq55 (.bool Bq62) := fq62.own
      have zq62 := fq62.sz
      have dq62 := fq62.df.trans dq61
      clear fq62 e2_q61 e5_q61 e72_q61 e75_q61 e79_q61 zq61 dq61
      obtain ⟨Bq63, hBq63⟩ : ∃ B, Hid (B = ((Bq53 && Bq62))) := ⟨_, Lib.hid rfl⟩
      refine fr_g zq62 (t := 81) (by decide) rfl (by rfl) (v := .bool Bq63) (fun hG => by have hc0 : aq62.eval (.const (.bool false)) = .bool false := rfl; generalize aq62.eval = ρ at e72_q62 e80_q62 hc0; rw [hBq63.out]; cases Bq53 <;> simp only [execOp, vif, cond_true, cond_false, Bool.true_and, Bool.false_and, Bool.true_or, Bool.false_or, beq_self_eq_true, hGq3.out, hGq8.out, hGq11.out, hGq17.out, hGq20.out, hGq26.out, hGq29.out, hGq36.out, hGq39.out, hGq45.out, hGq48.out, hGq55.out, hGq58.out] at e80_q62 ⊢ <;> go_simp) fun aq63 fq63 => ?_
      have e2_q63 := (fq63.other 2 (by decide)).trans e2_q62
      have e5_q63 := (fq63.other 5 (by decide)).trans e5_q62
      have e81_q63 : aq63.eval (.tmp 81) = .bool Bq63 := fq63.own
      have zq63 := fq63.sz
      have dq63 := fq63.df.trans dq62
      clear fq63 e2_q62 e5_q62 e72_q62 e80_q62 zq62 dq62
      refine fr_g zq63 (t := 82) (by decide) rfl (by rfl) (v := .bool Bq63) (fun hG => by generalize aq63.eval = ρ at e81_q63; simp only [execOp]; go_simp) fun aq64 fq64 => ?_
      have e2_q64 := (fq64.other 2 (by decide)).trans e2_q63
      have e5_q64 := (fq64.other 5 (by decide)).trans e5_q63
      have e82_q64 : aq64.eval (.tmp 82) = .bool Bq63 := fq64.own
      have zq64 := fq64.sz
      have dq64 := fq64.df.trans dq63
      clear fq64 e2_q63 e5_q63 e81_q63 zq63 dq63
      obtain ⟨Gq65, hGq65⟩ : ∃ G, Hid (G = (true && (Bq63 == true))) := ⟨_, Lib.hid rfl⟩
      have iGq65 := Lib.hid (show Gq65 = true → true = true ∧ Bq63 = true from fun h => by rw [hGq65.out] at h; simpa using h)
      refine fr_g zq64 (t := 83) (by decide) rfl ((fr_w0 (k := 64) (b := true) (t := 82) rfl rfl e82_q64).trans hGq65.out.symm) (v := .pointer (some ⟨w1.heap.size, 99, none⟩)) (fun hG => by obtain ⟨hp0, hb0⟩ := iGq65.out hG; have hc0 : aq64.eval (.const (.int .i64 99)) = .int .i64 99 := rfl; generalize aq64.eval = ρ at e5_q64 hc0; simp only [execOp]; go_simp) fun aq65 fq65 => ?_
      have e2_q65 := (fq65.other 2 (by decide)).trans e2_q64
      have e5_q65 := (fq65.other 5 (by decide)).trans e5_q64
      have e82_q65 := (fq65.other 82 (by decide)).trans e82_q64
      have e83_q65 : aq65.eval (.tmp 83) = vif Gq65 (.pointer (some ⟨w1.heap.size, 99, none⟩)) := fq65.own
      have zq65 := fq65.sz
      have dq65 := fq65.df.trans dq64
      clear fq65 e2_q64 e5_q64 e82_q64 zq64 dq64
      refine fr_g zq65 (t := 84) (by decide) rfl ((fr_w0 (k := 64) (b := true) (t := 82) rfl rfl e82_q65).trans hGq65.out.symm) (v := .bool L99) (fun hG => by obtain ⟨hp0, hb0⟩ := iGq65.out hG; have yL99 := XL99.out uq32 HBq32.out; generalize aq65.eval = ρ at e83_q65; simp only [vif, cond_true, cond_false, hG, hp0, hb0] at e83_q65; simp only [execOp]; go_simp) fun aq66 fq66 => ?_
      have e2_q66 := (fq66.other 2 (by decide)).trans e2_q65
      have e5_q66 := (fq66.other 5 (by decide)).trans e5_q65
      have e82_q66 := (fq66.other 82 (by decide)).trans e82_q65
      have e84_q66 : aq66.eval (.tmp 84) = vif Gq65 (.bool L99) := fq66.own
      have zq66 := fq66.sz
      have dq66 := fq66.df.trans dq65
      clear fq66 e2_q65 e5_q65 e82_q65 e83_q65 zq65 dq65
      refine fr_g zq66 (t := 85) (by decide) rfl ((fr_w0 (k := 64) (b := true) (t := 82) rfl rfl e82_q66).trans hGq65.out.symm) (v := .bool L99) (fun hG => by obtain ⟨hp0, hb0⟩ := iGq65.out hG; generalize aq66.eval = ρ at e84_q66; simp only [vif, cond_true, cond_false, hG, hp0, hb0] at e84_q66; simp only [execOp]; go_simp) fun aq67 fq67 => ?_
      have e2_q67 := (fq67.other 2 (by decide)).trans e2_q66
      have e5_q67 := (fq67.other 5 (by decide)).trans e5_q66
      have e82_q67 := (fq67.other 82 (by decide)).trans e82_q66
      have e85_q67 : aq67.eval (.tmp 85) = vif Gq65 (.bool L99) := fq67.own
      have zq67 := fq67.sz
      have dq67 := fq67.df.trans dq66
      clear fq67 e2_q66 e5_q66 e82_q66 e84_q66 zq66 dq66
      obtain ⟨Gq68, hGq68⟩ : ∃ G, Hid (G = (Gq65 && (L99 == false))) := ⟨_, Lib.hid rfl⟩
      have iGq68 := Lib.hid (show Gq68 = true → Gq65 = true ∧ L99 = false from fun h => by rw [hGq68.out] at h; simpa using h)
      refine fr_g zq67 (t := 86) (by decide) rfl ((fr_w (k := 67) (b := false) (t := 85) rfl rfl e85_q67).trans hGq68.out.symm) (v := .pointer (some ⟨w.heap.size, 15, none⟩)) (fun hG => by obtain ⟨hp0, hb0⟩ := iGq68.out hG; obtain ⟨hp1, hb1⟩ := iGq65.out hp0; generalize aq67.eval = ρ at e2_q67; simp only [execOp]; go_simp) fun aq68 fq68 => ?_
      have e2_q68 := (fq68.other 2 (by decide)).trans e2_q67
      have e5_q68 := (fq68.other 5 (by decide)).trans e5_q67
      have e82_q68 := (fq68.other 82 (by decide)).trans e82_q67
      have e85_q68 := (fq68.other 85 (by decide)).trans e85_q67
      have e86_q68 : aq68.eval (.tmp 86) = vif Gq68 (.pointer (some ⟨w.heap.size, 15, none⟩)) := fq68.own
      have zq68 := fq68.sz
      have dq68 := fq68.df.trans dq67
      clear fq68 e2_q67 e5_q67 e82_q67 e85_q67 zq67 dq67
      refine fr_g zq68 (t := 87) (by decide) rfl ((fr_w (k := 67) (b := false) (t := 85) rfl rfl e85_q68).trans hGq68.out.symm) (v := .slice a3 n3 c3) (fun hG => by obtain ⟨hp0, hb0⟩ := iGq68.out hG; obtain ⟨hp1, hb1⟩ := iGq65.out hp0; have y15 := X15.out uq32 HBq32.out; generalize aq68.eval = ρ at e86_q68; simp only [vif, cond_true, cond_false, hG, hp0, hb0, hp1, hb1] at e86_q68; simp only [execOp]; go_simp) fun aq69 fq69 => ?_
      have e2_q69 := (fq69.other 2 (by decide)).trans e2_q68
      have e5_q69 := (fq69.other 5 (by decide)).trans e5_q68
      have e82_q69 := (fq69.other 82 (by decide)).trans e82_q68
      have e85_q69 := (fq69.other 85 (by decide)).trans e85_q68
      have e87_q69 : aq69.eval (.tmp 87) = vif Gq68 (.slice a3 n3 c3) := fq69.own
      have zq69 := fq69.sz
      have dq69 := fq69.df.trans dq68
      clear fq69 e2_q68 e5_q68 e82_q68 e85_q68 e86_q68 zq68 dq68
      refine fr_g zq69 (t := 88) (by decide) rfl ((fr_w (k := 67) (b := false) (t := 85) rfl rfl e85_q69).trans hGq68.out.symm) (v := .int .i64 n3) (fun hG => by obtain ⟨hp0, hb0⟩ := iGq68.out hG; obtain ⟨hp1, hb1⟩ := iGq65.out hp0; generalize aq69.eval = ρ at e87_q69; simp only [vif, cond_true, cond_false, hG, hp0, hb0, hp1, hb1] at e87_q69; simp only [execOp]; go_simp) fun aq70 fq70 => ?_
      have e2_q70 := (fq70.other 2 (by decide)).trans e2_q69
      have e5_q70 := (fq70.other 5 (by decide)).trans e5_q69
      have e82_q70 := (fq70.other 82 (by decide)).trans e82_q69
      have e85_q70 := (fq70.other 85 (by decide)).trans e85_q69
      have e88_q70 : aq70.eval (.tmp 88) = vif Gq68 (.int .i64 n3) := fq70.own
      have zq70 := fq70.sz
      have dq70 := fq70.df.trans dq69
      clear fq70 e2_q69 e5_q69 e82_q69 e85_q69 e87_q69 zq69 dq69
      obtain ⟨Bq71, hBq71⟩ : ∃ B, Hid (B = ((n3 : Int) == 0)) := ⟨_, Lib.hid rfl⟩
      refine fr_g zq70 (t := 89) (by decide) rfl ((fr_w (k := 67) (b := false) (t := 85) rfl rfl e85_q70).trans hGq68.out.symm) (v := .bool Bq71) (fun hG => by obtain ⟨hp0, hb0⟩ := iGq68.out hG; obtain ⟨hp1, hb1⟩ := iGq65.out hp0; have hc0 : aq70.eval (.const (.int .i64 0)) = .int .i64 0 := rfl; generalize aq70.eval = ρ at e88_q70 hc0; simp only [vif, cond_true, cond_false, hG, hp0, hb0, hp1, hb1] at e88_q70; rw [hBq71.out]; simp only [execOp]; go_simp) fun aq71 fq71 => ?_
      have e2_q71 := (fq71.other 2 (by decide)).trans e2_q70
      have e5_q71 := (fq71.other 5 (by decide)).trans e5_q70
      have e82_q71 := (fq71.other 82 (by decide)).trans e82_q70
      have e85_q71 := (fq71.other 85 (by decide)).trans e85_q70
      have e89_q71 : aq71.eval (.tmp 89) = vif Gq68 (.bool Bq71) := fq71.own
      have zq71 := fq71.sz
      have dq71 := fq71.df.trans dq70
      clear fq71 e2_q70 e5_q70 e82_q70 e85_q70 e88_q70 zq70 dq70
      obtain ⟨Bq72, hBq72⟩ : ∃ B, Hid (B = ((L99 || Bq71))) := ⟨_, Lib.hid rfl⟩
      refine fr_g zq71 (t := 90) (by decide) rfl ((fr_w0 (k := 64) (b := true) (t := 82) rfl rfl e82_q71).trans hGq65.out.symm) (v := .bool Bq72) (fun hG => by obtain ⟨hp0, hb0⟩ := iGq65.out hG; have hc0 : aq71.eval (.const (.bool true)) = .bool true := rfl; generalize aq71.eval = ρ at e85_q71 e89_q71 hc0; rw [hBq72.out]; cases L99 <;> simp only [execOp, vif, cond_true, cond_false, Bool.true_and, Bool.false_and, Bool.true_or, Bool.false_or, beq_self_eq_true, hGq3.out, hGq8.out, hGq11.out, hGq17.out, hGq20.out, hGq26.out, hGq29.out, hGq36.out, hGq39.out, hGq45.out, hGq48.out, hGq55.out, hGq58.out, hGq65.out, hGq68.out, hG, hp0, hb0] at e85_q71 e89_q71 ⊢ <;> go_simp) fun aq72 fq72 => ?_
      have e2_q72 := (fq72.other 2 (by decide)).trans e2_q71
      have e5_q72 := (fq72.other 5 (by decide)).trans e5_q71
      have e82_q72 := (fq72.other 82 (by decide)).trans e82_q71
      have e90_q72 : aq72.eval (.tmp 90) = vif Gq65 (.bool Bq72) := fq72.own
      have zq72 := fq72.sz
      have dq72 := fq72.df.trans dq71
      clear fq72 e2_q71 e5_q71 e82_q71 e85_q71 e89_q71 zq71 dq71
      obtain ⟨Bq73, hBq73⟩ : ∃ B, Hid (B = ((Bq63 && Bq72))) := ⟨_, Lib.hid rfl⟩
      refine fr_g zq72 (t := 91) (by decide) rfl (by rfl) (v := .bool Bq73) (fun hG => by have hc0 : aq72.eval (.const (.bool false)) = .bool false := rfl; generalize aq72.eval = ρ at e82_q72 e90_q72 hc0; rw [hBq73.out]; cases Bq63 <;> simp only [execOp, vif, cond_true, cond_false, Bool.true_and, Bool.false_and, Bool.true_or, Bool.false_or, beq_self_eq_true, hGq3.out, hGq8.out, hGq11.out, hGq17.out, hGq20.out, hGq26.out, hGq29.out, hGq36.out, hGq39.out, hGq45.out, hGq48.out, hGq55.out, hGq58.out, hGq65.out, hGq68.out] at e90_q72 ⊢ <;> go_simp) fun aq73 fq73 => ?_
      have e2_q73 := (fq73.other 2 (by decide)).trans e2_q72
      have e5_q73 := (fq73.other 5 (by decide)).trans e5_q72
      have e91_q73 : aq73.eval (.tmp 91) = .bool Bq73 := fq73.own
      have zq73 := fq73.sz
      have dq73 := fq73.df.trans dq72
      clear fq73 e2_q72 e5_q72 e82_q72 e90_q72 zq72 dq72
      refine fr_g zq73 (t := 92) (by decide) rfl (by rfl) (v := .bool Bq73) (fun hG => by generalize aq73.eval = ρ at e91_q73; simp only [execOp]; go_simp) fun aq74 fq74 => ?_
      have e2_q74 := (fq74.other 2 (by decide)).trans e2_q73
      have e5_q74 := (fq74.other 5 (by decide)).trans e5_q73
      have e92_q74 : aq74.eval (.tmp 92) = .bool Bq73 := fq74.own
      have zq74 := fq74.sz
      have dq74 := fq74.df.trans dq73
      clear fq74 e2_q73 e5_q73 e91_q73 zq73 dq73
      obtain ⟨Gq75, hGq75⟩ : ∃ G, Hid (G = (true && (Bq73 == true))) := ⟨_, Lib.hid rfl⟩
      have iGq75 := Lib.hid (show Gq75 = true → true = true ∧ Bq73 = true from fun h => by rw [hGq75.out] at h; simpa using h)
      refine fr_g zq74 (t := 93) (by decide) rfl ((fr_w0 (k := 74) (b := true) (t := 92) rfl rfl e92_q74).trans hGq75.out.symm) (v := .pointer (some ⟨w1.heap.size, 108, none⟩)) (fun hG => by obtain ⟨hp0, hb0⟩ := iGq75.out hG; have hc0 : aq74.eval (.const (.int .i64 108)) = .int .i64 108 := rfl; generalize aq74.eval = ρ at e5_q74 hc0; simp only [execOp]; go_simp) fun aq75 fq75 => ?_
      have e2_q75 := (fq75.other 2 (by decide)).trans e2_q74
      have e92_q75 := (fq75.other 92 (by decide)).trans e92_q74
      have e93_q75 : aq75.eval (.tmp 93) = vif Gq75 (.pointer (some ⟨w1.heap.size, 108, none⟩)) := fq75.own
      have zq75 := fq75.sz
      have dq75 := fq75.df.trans dq74
      clear fq75 e2_q74 e5_q74 e92_q74 zq74 dq74
      refine fr_g zq75 (t := 94) (by decide) rfl ((fr_w0 (k := 74) (b := true) (t := 92) rfl rfl e92_q75).trans hGq75.out.symm) (v := .bool L108) (fun hG => by obtain ⟨hp0, hb0⟩ := iGq75.out hG; have yL108 := XL108.out uq32 HBq32.out; generalize aq75.eval = ρ at e93_q75; simp only [vif, cond_true, cond_false, hG, hp0, hb0] at e93_q75; simp only [execOp]; go_simp) fun aq76 fq76 => ?_
      have e2_q76 := (fq76.other 2 (by decide)).trans e2_q75
      have e92_q76 := (fq76.other 92 (by decide)).trans e92_q75
      have e94_q76 : aq76.eval (.tmp 94) = vif Gq75 (.bool L108) := fq76.own
      have zq76 := fq76.sz
      have dq76 := fq76.df.trans dq75
      clear fq76 e2_q75 e92_q75 e93_q75 zq75 dq75
      refine fr_g zq76 (t := 95) (by decide) rfl ((fr_w0 (k := 74) (b := true) (t := 92) rfl rfl e92_q76).trans hGq75.out.symm) (v := .bool L108) (fun hG => by obtain ⟨hp0, hb0⟩ := iGq75.out hG; generalize aq76.eval = ρ at e94_q76; simp only [vif, cond_true, cond_false, hG, hp0, hb0] at e94_q76; simp only [execOp]; go_simp) fun aq77 fq77 => ?_
      have e2_q77 := (fq77.other 2 (by decide)).trans e2_q76
      have e92_q77 := (fq77.other 92 (by decide)).trans e92_q76
      have e95_q77 : aq77.eval (.tmp 95) = vif Gq75 (.bool L108) := fq77.own
      have zq77 := fq77.sz
      have dq77 := fq77.df.trans dq76
      clear fq77 e2_q76 e92_q76 e94_q76 zq76 dq76
      obtain ⟨Gq78, hGq78⟩ : ∃ G, Hid (G = (Gq75 && (L108 == false))) := ⟨_, Lib.hid rfl⟩
      have iGq78 := Lib.hid (show Gq78 = true → Gq75 = true ∧ L108 = false from fun h => by rw [hGq78.out] at h; simpa using h)
      refine fr_g zq77 (t := 96) (by decide) rfl ((fr_w (k := 77) (b := false) (t := 95) rfl rfl e95_q77).trans hGq78.out.symm) (v := .pointer (some ⟨w.heap.size, 16, none⟩)) (fun hG => by obtain ⟨hp0, hb0⟩ := iGq78.out hG; obtain ⟨hp1, hb1⟩ := iGq75.out hp0; generalize aq77.eval = ρ at e2_q77; simp only [execOp]; go_simp) fun aq78 fq78 => ?_
      have e92_q78 := (fq78.other 92 (by decide)).trans e92_q77
      have e95_q78 := (fq78.other 95 (by decide)).trans e95_q77
      have e96_q78 : aq78.eval (.tmp 96) = vif Gq78 (.pointer (some ⟨w.heap.size, 16, none⟩)) := fq78.own
      have zq78 := fq78.sz
      have dq78 := fq78.df.trans dq77
      clear fq78 e2_q77 e92_q77 e95_q77 zq77 dq77
      refine fr_g zq78 (t := 97) (by decide) rfl ((fr_w (k := 77) (b := false) (t := 95) rfl rfl e95_q78).trans hGq78.out.symm) (v := .slice a4 n4 c4) (fun hG => by obtain ⟨hp0, hb0⟩ := iGq78.out hG; obtain ⟨hp1, hb1⟩ := iGq75.out hp0; have y16 := X16.out uq32 HBq32.out; generalize aq78.eval = ρ at e96_q78; simp only [vif, cond_true, cond_false, hG, hp0, hb0, hp1, hb1] at e96_q78; simp only [execOp]; go_simp) fun aq79 fq79 => ?_
      have e92_q79 := (fq79.other 92 (by decide)).trans e92_q78
      have e95_q79 := (fq79.other 95 (by decide)).trans e95_q78
      have e97_q79 : aq79.eval (.tmp 97) = vif Gq78 (.slice a4 n4 c4) := fq79.own
      have zq79 := fq79.sz
      have dq79 := fq79.df.trans dq78
      clear fq79 e92_q78 e95_q78 e96_q78 zq78 dq78
      refine fr_g zq79 (t := 98) (by decide) rfl ((fr_w (k := 77) (b := false) (t := 95) rfl rfl e95_q79).trans hGq78.out.symm) (v := .int .i64 n4) (fun hG => by obtain ⟨hp0, hb0⟩ := iGq78.out hG; obtain ⟨hp1, hb1⟩ := iGq75.out hp0; generalize aq79.eval = ρ at e97_q79; simp only [vif, cond_true, cond_false, hG, hp0, hb0, hp1, hb1] at e97_q79; simp only [execOp]; go_simp) fun aq80 fq80 => ?_
      have e92_q80 := (fq80.other 92 (by decide)).trans e92_q79
      have e95_q80 := (fq80.other 95 (by decide)).trans e95_q79
      have e98_q80 : aq80.eval (.tmp 98) = vif Gq78 (.int .i64 n4) := fq80.own
      have zq80 := fq80.sz
      have dq80 := fq80.df.trans dq79
      clear fq80 e92_q79 e95_q79 e97_q79 zq79 dq79
      obtain ⟨Bq81, hBq81⟩ : ∃ B, Hid (B = ((n4 : Int) == 0)) := ⟨_, Lib.hid rfl⟩
      refine fr_g zq80 (t := 99) (by decide) rfl ((fr_w (k := 77) (b := false) (t := 95) rfl rfl e95_q80).trans hGq78.out.symm) (v := .bool Bq81) (fun hG => by obtain ⟨hp0, hb0⟩ := iGq78.out hG; obtain ⟨hp1, hb1⟩ := iGq75.out hp0; have hc0 : aq80.eval (.const (.int .i64 0)) = .int .i64 0 := rfl; generalize aq80.eval = ρ at e98_q80 hc0; simp only [vif, cond_true, cond_false, hG, hp0, hb0, hp1, hb1] at e98_q80; rw [hBq81.out]; simp only [execOp]; go_simp) fun aq81 fq81 => ?_
      have e92_q81 := (fq81.other 92 (by decide)).trans e92_q80
      have e95_q81 := (fq81.other 95 (by decide)).trans e95_q80
      have e99_q81 : aq81.eval (.tmp 99) = vif Gq78 (.bool Bq81) := fq81.own
      have zq81 := fq81.sz
      have dq81 := fq81.df.trans dq80
      clear fq81 e92_q80 e95_q80 e98_q80 zq80 dq80
      obtain ⟨Bq82, hBq82⟩ : ∃ B, Hid (B = ((L108 || Bq81))) := ⟨_, Lib.hid rfl⟩
      refine fr_g zq81 (t := 100) (by decide) rfl ((fr_w0 (k := 74) (b := true) (t := 92) rfl rfl e92_q81).trans hGq75.out.symm) (v := .bool Bq82) (fun hG => by obtain ⟨hp0, hb0⟩ := iGq75.out hG; have hc0 : aq81.eval (.const (.bool true)) = .bool true := rfl; generalize aq81.eval = ρ at e95_q81 e99_q81 hc0; rw [hBq82.out]; cases L108 <;> simp only [execOp, vif, cond_true, cond_false, Bool.true_and, Bool.false_and, Bool.true_or, Bool.false_or, beq_self_eq_true, hGq3.out, hGq8.out, hGq11.out, hGq17.out, hGq20.out, hGq26.out, hGq29.out, hGq36.out, hGq39.out, hGq45.out, hGq48.out, hGq55.out, hGq58.out, hGq65.out, hGq68.out, hGq75.out, hGq78.out, hG, hp0, hb0] at e95_q81 e99_q81 ⊢ <;> go_simp) fun aq82 fq82 => ?_
      have e92_q82 := (fq82.other 92 (by decide)).trans e92_q81
      have e100_q82 : aq82.eval (.tmp 100) = vif Gq75 (.bool Bq82) := fq82.own
      have zq82 := fq82.sz
      have dq82 := fq82.df.trans dq81
      clear fq82 e92_q81 e95_q81 e99_q81 zq81 dq81
      obtain ⟨Bq83, hBq83⟩ : ∃ B, Hid (B = ((Bq73 && Bq82))) := ⟨_, Lib.hid rfl⟩
      refine fr_g zq82 (t := 101) (by decide) rfl (by rfl) (v := .bool Bq83) (fun hG => by have hc0 : aq82.eval (.const (.bool false)) = .bool false := rfl; generalize aq82.eval = ρ at e92_q82 e100_q82 hc0; rw [hBq83.out]; cases Bq73 <;> simp only [execOp, vif, cond_true, cond_false, Bool.true_and, Bool.false_and, Bool.true_or, Bool.false_or, beq_self_eq_true, hGq3.out, hGq8.out, hGq11.out, hGq17.out, hGq20.out, hGq26.out, hGq29.out, hGq36.out, hGq39.out, hGq45.out, hGq48.out, hGq55.out, hGq58.out, hGq65.out, hGq68.out, hGq75.out, hGq78.out] at e100_q82 ⊢ <;> go_simp) fun aq83 fq83 => ?_
      have e101_q83 : aq83.eval (.tmp 101) = .bool Bq83 := fq83.own
      have zq83 := fq83.sz
      have dq83 := fq83.df.trans dq82
      clear fq83 e92_q82 e100_q82 zq82 dq82
      refine fr_g zq83 (t := 4) (by decide) rfl (by rfl) (v := .bool Bq83) (fun hG => by generalize aq83.eval = ρ at e101_q83; simp only [execOp]; go_simp) fun aq84 fq84 => ?_
      have e4_q84 : aq84.eval (.tmp 4) = .bool Bq83 := fq84.own
      have zq84 := fq84.sz
      have dq84 := fq84.df.trans dq83
      clear fq84 e101_q83 zq83 dq83
      show Exit.then _ _ Exit.normal aq84 uq32
      refine ‹∀ (a : Act) (w : World), Code.wp Tryz.prog Code.ret _ a w → _› _ _ ?_
      refine wp_ret ?_
      show bodyPost Tryz.prog Tryz.f87 _ Exit.ret aq84 uq32
      have hv : Bq83 = zg8 t.data.toList m := by
        rw [HZ.out]
        simp only [hBq83.out, hBq82.out, hBq81.out, hBq73.out, hBq72.out, hBq71.out, hBq63.out, hBq62.out, hBq61.out, hBq53.out, hBq52.out, hBq51.out, hBq43.out, hBq42.out, hBq41.out, hBq34.out, hBq33.out, hBq24.out, hBq23.out, hBq15.out, hBq14.out, hBq13.out, hBq6.out, hBq5.out]
        have hz : ∀ x : Int, (x == 0) = decide (x = 0) := fun x => by rw [Bool.eq_iff_iff]; simp
        have h1 : ((n1 : Int) == 0) = decide (m.nx.length = 0) := by rw [hl1, Bool.eq_iff_iff]; simp
        have h2 : ((n2 : Int) == 0) = decide (m.sg.length = 0) := by rw [hl2, Bool.eq_iff_iff]; simp
        have h3 : ((n3 : Int) == 0) = decide (m.ch.length = 0) := by rw [hl3, Bool.eq_iff_iff]; simp
        have h4 : ((n4 : Int) == 0) = decide (m.lk.length = 0) := by rw [hl4, Bool.eq_iff_iff]; simp
        rw [h1, h2, h3, h4, hz, hz, str_empty]
      refine bodyPost_ret (v := .bool Bq83) ?_ dq84 (show _ ∧ _ from ⟨by rw [hv], bthen BR0.out HBq32.out⟩)
      have e4' : aq84.tmps[4]?.getD undef = .bool Bq83 := by rw [← Array.getD_eq_getD_getElem?]; exact e4_q84
      simp [results, Tryz.results87, e4']
theorem zg_rg (m : Mg) : zg8 (ByteArray.mk #[114, 103]).data.toList m = restB { q := true, sg := true } m := by
  simp [zg8, zg7, zg6, zg5, zg4, zg3, zg2, zg1, zg0, letB, restB, sameRes0]
theorem zg_vsrg (m : Mg) : zg8 (ByteArray.mk #[118, 115, 114, 103]).data.toList m = restB { v := true, s := true, q := true, sg := true } m := by
  simp [zg8, zg7, zg6, zg5, zg4, zg3, zg2, zg1, zg0, letB, restB, sameRes0]
theorem zg_vsr (m : Mg) : zg8 (ByteArray.mk #[118, 115, 114]).data.toList m = restB { v := true, s := true, q := true } m := by
  simp [zg8, zg7, zg6, zg5, zg4, zg3, zg2, zg1, zg0, letB, restB, sameRes0]
theorem zg_stng (m : Mg) : zg8 (ByteArray.mk #[115, 116, 110, 103]).data.toList m = restB { s := true, t := true, nx := true, sg := true } m := by
  simp [zg8, zg7, zg6, zg5, zg4, zg3, zg2, zg1, zg0, letB, restB, sameRes0]
theorem zg_vc (m : Mg) : zg8 (ByteArray.mk #[118, 99]).data.toList m = restB { v := true, ch := true } m := by
  simp [zg8, zg7, zg6, zg5, zg4, zg3, zg2, zg1, zg0, letB, restB, sameRes0]
theorem zg_rx (m : Mg) : zg8 (ByteArray.mk #[114, 120]).data.toList m = restB { q := true, r := true } m := by
  simp [zg8, zg7, zg6, zg5, zg4, zg3, zg2, zg1, zg0, letB, restB, sameRes0]
theorem zg_e (m : Mg) : zg8 (ByteArray.mk #[]).data.toList m = restB {} m := by
  simp [zg8, zg7, zg6, zg5, zg4, zg3, zg2, zg1, zg0, letB, restB, sameRes0]
theorem zg_stgl (m : Mg) : zg8 (ByteArray.mk #[115, 116, 103, 108]).data.toList m = restB { s := true, t := true, sg := true, lk := true } m := by
  simp [zg8, zg7, zg6, zg5, zg4, zg3, zg2, zg1, zg0, letB, restB, sameRes0]
end Go.Proofs.YtijeieamodjgbaaGreat
