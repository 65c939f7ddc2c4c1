
/- Wire: fits. (printed by mkWe.py) -/
import Derived.Test.YtijeieamodjgbabWa
import Derived.Deep.MidRow

namespace Go.Proofs.Ytijeieamodjgbab
set_option maxRecDepth 100000
open Go.RowKit Go.Deep
set_option linter.unusedVariables false
set_option linter.unusedSimpArgs false
attribute [local go_sem] run_store_float

theorem ops_val {P : Program} {ops : Array Oper} {rest : List Oper} {o : Oper} {a : Act} {w w' : World} {Q : Exit → Act → World → Prop} {v : Value} (hw : Region.wanted o (yielded ops a.tmps) = true) (hrun : (execOp a.eval o).run P w = .ok (.value v) w') (h : wpList P ops Q rest (a.put o.dst v) w') : wpList P ops Q (o :: rest) a w :=
  wpList_step fun K hK => by
    rw [if_pos hw]
    unfold Oper.wp
    rw [hrun]
    exact hK _ _ h
theorem load_row {P : Program} {ty t : TypeId} {d : TypeDesc} {fr : Nat × Nat} (ρ : Operand → Value) (o : Oper) (x : Operand) {b : Nat} {cs : Array Value} {w : World} (hu : P.underlying ty = some d) (hd : d.isRow = true) (hi : (P.info? ty).map (·.size) = some cs.size) (ho : o.op = .load ty x) (hx : ρ x = .pointer (some ⟨b, 0, none⟩)) (hk : w.heap[b]? = some (.cells cs t fr)) : (execOp ρ o).run P w = .ok (.value (.agg cs)) w := by
  have hld := run_loadVar_mid (P := P) w b 0 ty cs.toList d (fun j v hj => by rw [blk_cell hk, Nat.zero_add, ← hj]; simp) hu hd (by simpa using hi)
  rw [Array.toArray_toList] at hld
  unfold execOp
  simp only [ho, hx, Instr.loadAt, Instr.sureAddr, Sem.run_bind, Sem.run_pure, Result.andThen_ok, hld]
def zeroMg : List Value := [.int .i64 0, .int .i64 0, .int .i64 0, .int .i64 0, .int .i64 0, .int .i64 0, .int .i64 0, .string ⟨#[]⟩, .float .f64 0, .int .i64 0, .int .i64 0, .float .f64 0, .string ⟨#[]⟩, .slice none 0 0, .slice none 0 0, .slice none 0 0, .slice none 0 0]
theorem zeroMg_row : zeroMg.toArray = #[.int .i64 0, .int .i64 0, .int .i64 0, .int .i64 0, .int .i64 0, .int .i64 0, .int .i64 0, .string ⟨#[]⟩, .float .f64 0, .int .i64 0, .int .i64 0, .float .f64 0, .string ⟨#[]⟩, .slice none 0 0, .slice none 0 0, .slice none 0 0, .slice none 0 0] := rfl
theorem alloc_rest (ρ : Operand → Value) (o : Oper) (ho : o.op = .alloc 145) (w : World) : (execOp ρ o).run Try.prog w = .ok (.value (.pointer (some ⟨w.heap.size, 0, none⟩))) (w.alloc (.cells zeroMg.toArray 145 (0, 0))) := by
  rw [zeroMg_row]
  simp only [execOp, ho]
  go_simp
theorem sets_blk {b : Nat} {t : TypeId} {fr : Nat × Nat} : ∀ (vs : List Value) (w : World) (pre : List Value) (cur : List Value), w.heap[b]? = some (.cells (pre ++ cur).toArray t fr) → cur.length = vs.length → (w.setCells b pre.length vs).heap[b]? = some (.cells (pre ++ vs).toArray t fr)
  | [], w, pre, cur, h, hl => by
    have : cur = [] := List.eq_nil_of_length_eq_zero (by simpa using hl)
    subst this
    exact h
  | v :: r, w, pre, cur, h, hl => by
    cases cur with
    | nil => cases hl
    | cons u cur =>
      have h1 := blk_set h pre.length v
      have h2 := sets_blk (t := t) (fr := fr) r (w.setCell ⟨b, pre.length, none⟩ v) (pre ++ [v]) cur (by
        rw [h1]
        simp [List.set_append]) (by simpa using hl)
      rw [List.length_append, List.append_assoc] at h2
      exact h2
theorem sets_old {B : Nat} {w0 : World} {b : Nat} (hb : B ≤ b) : ∀ (vs : List Value) {w : World} {j : Nat}, Below B w0 w → Below B w0 (w.setCells b j vs)
  | [], w, j, h => h
  | v :: r, w, j, h => sets_old hb r (h.setCell hb v)
theorem sets_len {b : Nat} : ∀ (vs : List Value) {w : World} {j : Nat}, (w.setCells b j vs).heap.size = w.heap.size
  | [], w, j => rfl
  | v :: r, w, j => by rw [World.setCells, sets_len r]; simp [World.setCell]
theorem ops_box {ops : Array Oper} {rest : List Oper} {o1 o2 : Oper} {a : Act} {w : World} {Q : Exit → Act → World → Prop} (hg1 : o1.guard = none) (hg2 : o2.guard = none) (x y : Operand) (ho1 : o1.op = .alloc 145) (ho2 : o2.op = .store 145 x y)
    (cs : List Value) (hl : cs.length = 17) (h1 : cs.toArray.all (·.oneCell') = true)
    (hx : (a.put o1.dst (.pointer (some ⟨w.heap.size, 0, none⟩))).eval x = .pointer (some ⟨w.heap.size, 0, none⟩)) (hy : (a.put o1.dst (.pointer (some ⟨w.heap.size, 0, none⟩))).eval y = .agg cs.toArray)
    (h : ∀ w', Below w.heap.size w w' → w'.heap[w.heap.size]? = some (.cells cs.toArray 145 (0, 0)) → w'.heap.size = w.heap.size + 1 → wpList Try.prog ops Q rest ((a.put o1.dst (.pointer (some ⟨w.heap.size, 0, none⟩))).put o2.dst undef) w') :
    wpList Try.prog ops Q (o1 :: o2 :: rest) a w := by
  refine ops_val (w' := w.alloc (.cells zeroMg.toArray 145 (0, 0))) (by simp [Region.wanted, hg1]) (alloc_rest a.eval o1 ho1 w) ?_
  have b1 : Below w.heap.size w (w.alloc (.cells zeroMg.toArray 145 (0, 0))) := below_alloc _ _
  have hz1 : (w.alloc (.cells zeroMg.toArray 145 (0, 0))).heap.size = w.heap.size + 1 := by simp
  have k1 : (w.alloc (.cells zeroMg.toArray 145 (0, 0))).heap[w.heap.size]? = some (.cells zeroMg.toArray 145 (0, 0)) := blk_alloc _ _
  generalize w.alloc (.cells zeroMg.toArray 145 (0, 0)) = w1 at b1 hz1 k1 ⊢
  have hz17 : zeroMg.length = 17 := rfl
  have hinfo : (Try.prog.info? 145).map (·.size) = some 17 := by kernel_rfl
  refine wpList_store_mid hg2 145 x y ho2 w.heap.size 0 cs.toArray hx hy (fun j hj => ⟨?_, ?_⟩) (by rw [List.size_toArray, hl]; exact hinfo) h1 ?_
  · have : j < 17 := by simpa [hl] using hj
    rw [blk_cell k1, Option.isSome_iff_exists, Nat.zero_add]
    exact ⟨_, Array.getElem?_eq_getElem (by simpa [hz17] using this)⟩
  · exact blk_frozen k1 _
  · exact h _ (sets_old (Nat.le_refl _) _ b1) (by have := sets_blk cs w1 [] zeroMg k1 (by rw [hz17, hl]); simpa using this) (by rw [sets_len, hz1])
theorem info_mg : (Try.prog.info? 50).map (·.size) = some 17 := by kernel_rfl
theorem info_rest : (Try.prog.info? 145).map (·.size) = some 17 := by kernel_rfl
theorem mg_one (m : Mg) (a1 : Option Addr) (n1 c1 : Nat) (a2 : Option Addr) (n2 c2 : Nat) (a3 : Option Addr) (n3 c3 : Nat) (a4 : Option Addr) (n4 c4 : Nat) : (mgCs m a1 n1 c1 a2 n2 c2 a3 n3 c3 a4 n4 c4).toArray.all (·.oneCell') = true := by simp [mgCs, Value.oneCell']
theorem belowS {B : Nat} {w0 w1 : World} (h : Below B w0 w1) {b : Nat} (hb : B ≤ b) (o : Nat) (v : Value) : Below B w0 (w1.setCell ⟨b, o, none⟩ v) := h.setCell hb v
theorem ops_same {P : Program} {ops : Array Oper} {rest : List Oper} {o : Oper} {a : Act} {w : World} {Q : Exit → Act → World → Prop} {v : Value} (hw : Region.wanted o (yielded ops a.tmps) = true) (hrun : ∀ w, (execOp a.eval o).run P w = .ok (.value v) w) (h : wpList P ops Q rest (a.put o.dst v) w) : wpList P ops Q (o :: rest) a w := ops_val hw (hrun w) h
theorem z64 : i64 0 := ⟨by decide, by decide⟩
theorem zeroRq_ok : zeroRq.Ok := ⟨z64, z64, z64, z64, by decide, by decide⟩
theorem sl_nil {α : Type} {S : Sh α} {w : World} : SlAt S w none 0 0 [] := ⟨rfl, Nat.le_refl _, by decide, by rw [Nat.zero_mul]; decide, fun _ => rfl, fun i y hy => by simp at hy⟩
theorem ok_no {m : Mg} (h : ∀ j : Int, 1 ≤ j → j ≤ 10 → m.k ≠ j) : okM m = false := by
  unfold okM
  rw [if_neg (h 1 (by decide) (by decide)), if_neg (h 2 (by decide) (by decide)), if_neg (h 3 (by decide) (by decide)), if_neg (h 4 (by decide) (by decide)), if_neg (h 5 (by decide) (by decide)), if_neg (h 6 (by decide) (by decide)), if_neg (h 7 (by decide) (by decide)), if_neg (h 8 (by decide) (by decide)), if_neg (h 9 (by decide) (by decide)), if_neg (h 10 (by decide) (by decide))]
set_option maxHeartbeats 8000000 in
theorem fits13_any (m : Mg) (a1 : Option Addr) (n1 c1 : Nat) (a2 : Option Addr) (n2 c2 : Nat) (a3 : Option Addr) (n3 c3 : Nat) (a4 : Option Addr) (n4 c4 : Nat) (w : World) (hm : MsgIn w m a1 n1 c1 a2 n2 c2 a3 n3 c3 a4 n4 c4) :
    Calls Try.prog 54 #[.agg (mgCs m a1 n1 c1 a2 n2 c2 a3 n3 c3 a4 n4 c4).toArray] w fun r w' => r = .returned (.bool (fitsP m)) ∧ Below w.heap.size w w' := by
  obtain ⟨w1, hw1⟩ : ∃ u, u = w.alloc (.cells (mgCs m a1 n1 c1 a2 n2 c2 a3 n3 c3 a4 n4 c4).toArray 50 (0, 0)) := ⟨_, rfl⟩
  have b1 : Below w.heap.size w w1 := by rw [hw1]; exact below_alloc _ _
  have k1 : w1.heap[w.heap.size]? = some (.cells (mgCs m a1 n1 c1 a2 n2 c2 a3 n3 c3 a4 n4 c4).toArray 50 (0, 0)) := by rw [hw1]; exact blk_alloc _ _
  have B1 := Lib.hid b1
  have K1 := Lib.hid k1
  have HM := Lib.hid hm
  have HF := Lib.hid (show fitsP m = (decide (0 ≤ m.e) && decide (m.e ≤ 60) && sigsB m.sg && okM m) from rfl)
  generalize fitsP m = R at HF ⊢
  obtain ⟨CS, hCS⟩ : ∃ CS, CS = (mgCs m a1 n1 c1 a2 n2 c2 a3 n3 c3 a4 n4 c4).toArray := ⟨_, rfl⟩
  rw [← hCS] at hw1 ⊢
  have x1 : w1.cell? ⟨w.heap.size, 1, none⟩ = some (.int .i64 m.e) := mgAt_blk k1 1 _ rfl
  have x14 : w1.cell? ⟨w.heap.size, 14, none⟩ = some (.slice a2 n2 c2) := mgAt_blk k1 14 _ rfl
  have CS1 := Lib.hid (signed_any a2 n2 c2 m.sg w1 (hm.sg.old b1))
  clear k1 b1 hm
  have HCS := Lib.hid hCS
  clear hCS
  go_enter Try.func54, Try.ntmps54
  go_upto_region 1 with (fail)
  rw [← hw1]
  clear hw1
  by_cases g1 : m.e < 0
  · have hr : R = false := by rw [HF.out, show decide (0 ≤ m.e) = false by simpa using g1]; rfl
    have d1 : decide (m.e < 0) = true := by simpa using g1
    clear g1
    go_wp2_with fail
    go_ret
    exact ⟨by first | rfl | (rw [hr]; rfl), B1.out⟩
  have d1 : decide (m.e < 0) = false := by simpa using g1
  by_cases g2 : 60 < m.e
  · have hr : R = false := by rw [HF.out, show decide (m.e ≤ 60) = false by simpa using g2, Bool.and_false]; rfl
    have d2 : decide (60 < m.e) = true := by simpa using g2
    clear g1 g2
    go_wp2_with fail
    go_ret
    exact ⟨by first | rfl | (rw [hr]; rfl), B1.out⟩
  have d2 : decide (60 < m.e) = false := by simpa using g2
  have he : 0 ≤ m.e ∧ m.e ≤ 60 := ⟨by omega, by omega⟩
  clear g1 g2
  go_wp2_with fail
  refine CS1.out.mono ?_
  rintro r w2 ⟨rfl, b2⟩
  have B2 := Lib.hid (bthen B1.out b2)
  have K2 := Lib.hid (blk_below K1.out b2)
  clear b2 x1 x14 CS1 B1 K1
  cases hsg : sigsB m.sg
  · have hr : R = false := by rw [HF.out, hsg, Bool.and_false]; rfl
    clear hsg
    go_wp2_with fail
    go_ret
    exact ⟨by first | rfl | (rw [hr]; rfl), B2.out⟩
  have HR := Lib.hid (show R = okM m by rw [HF.out, hsg, show decide (0 ≤ m.e) = true by simpa using he.1, show decide (m.e ≤ 60) = true by simpa using he.2]; rfl)
  clear hsg HF d1 d2
  go_upto_region 3 with (fail)
  refine wp_region_lit ?_
  refine ops_val rfl (w' := w2) (v := .agg CS) (load_row _ _ (.tmp 1) Try.underlying50 rfl (by rw [HCS.out, List.size_toArray]; exact info_mg) rfl rfl (by rw [HCS.out]; exact K2.out)) ?_
  simp only [Act.put, List.setIfInBounds_toArray, List.set_cons_succ, List.set_cons_zero]
  refine ops_val rfl (w' := w2) (v := .agg CS) (by rw [HCS.out]; kernel_rfl) ?_
  simp only [Act.put, List.setIfInBounds_toArray, List.set_cons_succ, List.set_cons_zero]
  refine ops_box rfl rfl (.tmp 3) (.tmp 20) rfl rfl (mgCs m a1 n1 c1 a2 n2 c2 a3 n3 c3 a4 n4 c4) rfl (mg_one m a1 n1 c1 a2 n2 c2 a3 n3 c3 a4 n4 c4) rfl (by rw [HCS.out]; rfl) fun w3 b3 k3 z3 => ?_
  simp only [Act.put, List.setIfInBounds_toArray, List.set_cons_succ, List.set_cons_zero]
  have B3 := Lib.hid (bthen B2.out b3)
  have KP3 := Lib.hid (blk_below K2.out b3)
  have SZ := Lib.hid (show w.heap.size < w2.heap.size from blk_lt K2.out)
  have K3 := Lib.hid k3
  clear b3 k3 z3 B2 K2
  generalize w2.heap.size = b at *
  have HB := Lib.hid (show w.heap.size ≤ b by have := SZ.out; omega)
  have x0 : w3.cell? ⟨w.heap.size, 0, none⟩ = some (.int .i64 m.k) := mgAt_blk KP3.out 0 _ rfl
  by_cases hk1 : m.k = 1
  · have hok : m.k = 1 := hk1
    have CR0 := right_rq m.q HM.out.q w3
    simp only [Rq.v] at CR0
    have CR := Lib.hid CR0
    clear CR0 x0
    have x0 : w3.cell? ⟨w.heap.size, 0, none⟩ = some (.int .i64 m.k) := mgAt_blk KP3.out 0 _ rfl
    have x1 : w3.cell? ⟨w.heap.size, 1, none⟩ = some (.int .i64 m.e) := mgAt_blk KP3.out 1 _ rfl
    have x2 : w3.cell? ⟨w.heap.size, 2, none⟩ = some (.int .i64 m.v) := mgAt_blk KP3.out 2 _ rfl
    have x3 : w3.cell? ⟨w.heap.size, 3, none⟩ = some (.int .i64 m.s) := mgAt_blk KP3.out 3 _ rfl
    have x4 : w3.cell? ⟨w.heap.size, 4, none⟩ = some (.int .i64 m.q.c) := mgAt_blk KP3.out 4 _ rfl
    have x5 : w3.cell? ⟨w.heap.size, 5, none⟩ = some (.int .i64 m.q.s) := mgAt_blk KP3.out 5 _ rfl
    have x6 : w3.cell? ⟨w.heap.size, 6, none⟩ = some (.int .i64 m.q.kind) := mgAt_blk KP3.out 6 _ rfl
    have x7 : w3.cell? ⟨w.heap.size, 7, none⟩ = some (.string m.q.key) := mgAt_blk KP3.out 7 _ rfl
    have x8 : w3.cell? ⟨w.heap.size, 8, none⟩ = some (.float .f64 m.q.b) := mgAt_blk KP3.out 8 _ rfl
    have x9 : w3.cell? ⟨w.heap.size, 9, none⟩ = some (.int .i64 m.q.id) := mgAt_blk KP3.out 9 _ rfl
    have x10 : w3.cell? ⟨w.heap.size, 10, none⟩ = some (.int .i64 m.c) := mgAt_blk KP3.out 10 _ rfl
    have x11 : w3.cell? ⟨w.heap.size, 11, none⟩ = some (.float .f64 m.r) := mgAt_blk KP3.out 11 _ rfl
    have x12 : w3.cell? ⟨w.heap.size, 12, none⟩ = some (.string m.t) := mgAt_blk KP3.out 12 _ rfl
    have x13 : w3.cell? ⟨w.heap.size, 13, none⟩ = some (.slice a1 n1 c1) := mgAt_blk KP3.out 13 _ rfl
    have x14 : w3.cell? ⟨w.heap.size, 14, none⟩ = some (.slice a2 n2 c2) := mgAt_blk KP3.out 14 _ rfl
    have x15 : w3.cell? ⟨w.heap.size, 15, none⟩ = some (.slice a3 n3 c3) := mgAt_blk KP3.out 15 _ rfl
    have x16 : w3.cell? ⟨w.heap.size, 16, none⟩ = some (.slice a4 n4 c4) := mgAt_blk KP3.out 16 _ rfl
    go_wp2_with fail
    have HOK := Lib.hid hok
    clear hok hk1
    refine CR.out.mono ?_
    rintro r w5 ⟨rfl, b5⟩
    have B5 := Lib.hid (bthen B3.out b5)
    have k5 := blk_below K3.out b5
    have K5 := Lib.hid k5
    have v14 : w5.cell? ⟨w.heap.size, 14, none⟩ = some (.slice a2 n2 c2) := mgAt_blk (blk_below KP3.out b5) 14 _ rfl
    have hln := HM.out.sg.len
    have HLN := Lib.hid (show ((n2 : Int) == 1) = decide (m.sg.length = 1) by rw [beqZ]; exact decide_eq_decide.2 (by omega))
    clear hln CR b5 B3 K3 KP3 x0 x1 x2 x3 x4 x5 x6 x7 x8 x9 x10 x11 x12 x13 x14 x15 x16
    have y4 : w5.cell? ⟨b, 4, none⟩ = some _ := mgAt_blk k5 4 _ rfl
    have y5 : w5.cell? ⟨b, 5, none⟩ = some _ := mgAt_blk k5 5 _ rfl
    have y6 : w5.cell? ⟨b, 6, none⟩ = some _ := mgAt_blk k5 6 _ rfl
    have y7 : w5.cell? ⟨b, 7, none⟩ = some _ := mgAt_blk k5 7 _ rfl
    have y8 : w5.cell? ⟨b, 8, none⟩ = some _ := mgAt_blk k5 8 _ rfl
    have y9 : w5.cell? ⟨b, 9, none⟩ = some _ := mgAt_blk k5 9 _ rfl
    have y14 : w5.cell? ⟨b, 14, none⟩ = some _ := mgAt_blk k5 14 _ rfl
    have z4 : w5.frozen? ⟨b, 4, none⟩ = false := blk_frozen k5 4
    have z5 : w5.frozen? ⟨b, 5, none⟩ = false := blk_frozen k5 5
    have z6 : w5.frozen? ⟨b, 6, none⟩ = false := blk_frozen k5 6
    have z7 : w5.frozen? ⟨b, 7, none⟩ = false := blk_frozen k5 7
    have z8 : w5.frozen? ⟨b, 8, none⟩ = false := blk_frozen k5 8
    have z9 : w5.frozen? ⟨b, 9, none⟩ = false := blk_frozen k5 9
    have z14 : w5.frozen? ⟨b, 14, none⟩ = false := blk_frozen k5 14
    clear k5
    cases hT1 : m.q.right
    · have hr : R = false := by rw [HR.out, ok_1 HOK.out, hT1]; rfl
      go_wp2_with fail
      go_ret
      exact ⟨by first | rfl | (rw [hr]; rfl), (belowS (belowS (belowS (belowS (belowS (belowS (belowS B5.out HB.out 4 (.int .i64 0)) HB.out 5 (.int .i64 0)) HB.out 6 (.int .i64 0)) HB.out 7 (.string ⟨#[]⟩)) HB.out 8 (.float .f64 0)) HB.out 9 (.int .i64 0)) HB.out 14 (.slice none 0 0))⟩
    cases hT2 : ((n2 : Int) == 1)
    · have hr : R = false := by rw [HR.out, ok_1 HOK.out, ← HLN.out, hT2, Bool.and_false]; rfl
      go_wp2_with fail
      go_ret
      exact ⟨by first | rfl | (rw [hr]; rfl), (belowS (belowS (belowS (belowS (belowS (belowS (belowS B5.out HB.out 4 (.int .i64 0)) HB.out 5 (.int .i64 0)) HB.out 6 (.int .i64 0)) HB.out 7 (.string ⟨#[]⟩)) HB.out 8 (.float .f64 0)) HB.out 9 (.int .i64 0)) HB.out 14 (.slice none 0 0))⟩
    go_upto_region 31 with (fail)
    refine wp_region_lit ?_
    refine ops_same rfl (v := .bool true) (fun w => by simp only [execOp]; go_simp) ?_
    simp only [Act.put, List.setIfInBounds_toArray, List.set_cons_succ, List.set_cons_zero]
    refine ops_same rfl (v := .bool true) (fun w => by simp only [execOp]; go_simp) ?_
    simp only [Act.put, List.setIfInBounds_toArray, List.set_cons_succ, List.set_cons_zero]
    refine ops_val rfl (v := .agg (mgCs ({ m with q := zeroRq, sg := [] }) a1 n1 c1 none 0 0 a3 n3 c3 a4 n4 c4).toArray) (load_row _ _ (.tmp 3) Try.underlying145 rfl (by rw [List.size_toArray]; exact info_rest) rfl rfl ((blk_set (blk_set (blk_set (blk_set (blk_set (blk_set (blk_set K5.out 4 (.int .i64 0)) 5 (.int .i64 0)) 6 (.int .i64 0)) 7 (.string ⟨#[]⟩)) 8 (.float .f64 0)) 9 (.int .i64 0)) 14 (.slice none 0 0)).trans (by simp only [mgCs, zeroRq, List.setIfInBounds_toArray, List.set_cons_succ, List.set_cons_zero]; rfl))) ?_
    simp only [Act.put, List.setIfInBounds_toArray, List.set_cons_succ, List.set_cons_zero]
    have BF := Lib.hid (belowS (belowS (belowS (belowS (belowS (belowS (belowS B5.out HB.out 4 (.int .i64 0)) HB.out 5 (.int .i64 0)) HB.out 6 (.int .i64 0)) HB.out 7 (.string ⟨#[]⟩)) HB.out 8 (.float .f64 0)) HB.out 9 (.int .i64 0)) HB.out 14 (.slice none 0 0))
    have HR2 := Lib.hid (show R = emptyB ({ m with q := zeroRq, sg := [] }) by rw [HR.out, ok_1 HOK.out, hT1, ← HLN.out, hT2]; rfl)
    have hmi := HM.out.old BF.out
    have CE := Lib.hid (empty_any ({ m with q := zeroRq, sg := [] }) a1 n1 c1 none 0 0 a3 n3 c3 a4 n4 c4 _ ⟨hmi.k, hmi.e, hmi.v, hmi.s, zeroRq_ok, hmi.c, hmi.r, hmi.t, hmi.nx, sl_nil, hmi.ch, hmi.lk⟩)
    clear hmi
    go_wp2_with fail
    refine CE.out.mono ?_
    rintro r wz ⟨rfl, bz⟩
    have BZ := Lib.hid (bthen BF.out bz)
    clear bz
    go_wp2_with fail
    go_ret
    exact ⟨by rw [HR2.out]; rfl, BZ.out⟩
  have hne : (m.k != 1) = true := by simpa using hk1
  have y1 : w3.cell? ⟨b, 1, none⟩ = some (.int .i64 m.e) := mgAt_blk K3.out 1 _ rfl
  have f1 : w3.frozen? ⟨b, 1, none⟩ = false := blk_frozen K3.out 1
  obtain ⟨w4, hw4⟩ : ∃ u, u = w3.setCell ⟨b, 1, none⟩ (.int .i64 0) := ⟨_, rfl⟩
  have B4 := Lib.hid (show Below w.heap.size w w4 by rw [hw4]; exact Below.setCell B3.out HB.out _)
  have K4 := Lib.hid (show w4.heap[b]? = some (.cells (mgCs { m with e := 0 } a1 n1 c1 a2 n2 c2 a3 n3 c3 a4 n4 c4).toArray 145 (0, 0)) by rw [hw4]; exact (blk_set K3.out 1 _).trans (by first | rfl | (simp only [mgCs, List.setIfInBounds_toArray, List.set_cons_succ, List.set_cons_zero])))
  have KP4 := Lib.hid (show w4.heap[w.heap.size]? = some (.cells (mgCs m a1 n1 c1 a2 n2 c2 a3 n3 c3 a4 n4 c4).toArray 50 (0, 0)) by rw [hw4]; exact blk_set_other KP3.out b 1 _ (by have := SZ.out; omega))
  go_upto_region 6 with (fail)
  rw [← hw4]
  clear hw4 x0 y1 f1 hne B3 K3 KP3
  have x0 : w4.cell? ⟨w.heap.size, 0, none⟩ = some (.int .i64 m.k) := mgAt_blk KP4.out 0 _ rfl
  have x1 : w4.cell? ⟨w.heap.size, 1, none⟩ = some (.int .i64 m.e) := mgAt_blk KP4.out 1 _ rfl
  have x2 : w4.cell? ⟨w.heap.size, 2, none⟩ = some (.int .i64 m.v) := mgAt_blk KP4.out 2 _ rfl
  have x3 : w4.cell? ⟨w.heap.size, 3, none⟩ = some (.int .i64 m.s) := mgAt_blk KP4.out 3 _ rfl
  have x4 : w4.cell? ⟨w.heap.size, 4, none⟩ = some (.int .i64 m.q.c) := mgAt_blk KP4.out 4 _ rfl
  have x5 : w4.cell? ⟨w.heap.size, 5, none⟩ = some (.int .i64 m.q.s) := mgAt_blk KP4.out 5 _ rfl
  have x6 : w4.cell? ⟨w.heap.size, 6, none⟩ = some (.int .i64 m.q.kind) := mgAt_blk KP4.out 6 _ rfl
  have x7 : w4.cell? ⟨w.heap.size, 7, none⟩ = some (.string m.q.key) := mgAt_blk KP4.out 7 _ rfl
  have x8 : w4.cell? ⟨w.heap.size, 8, none⟩ = some (.float .f64 m.q.b) := mgAt_blk KP4.out 8 _ rfl
  have x9 : w4.cell? ⟨w.heap.size, 9, none⟩ = some (.int .i64 m.q.id) := mgAt_blk KP4.out 9 _ rfl
  have x10 : w4.cell? ⟨w.heap.size, 10, none⟩ = some (.int .i64 m.c) := mgAt_blk KP4.out 10 _ rfl
  have x11 : w4.cell? ⟨w.heap.size, 11, none⟩ = some (.float .f64 m.r) := mgAt_blk KP4.out 11 _ rfl
  have x12 : w4.cell? ⟨w.heap.size, 12, none⟩ = some (.string m.t) := mgAt_blk KP4.out 12 _ rfl
  have x13 : w4.cell? ⟨w.heap.size, 13, none⟩ = some (.slice a1 n1 c1) := mgAt_blk KP4.out 13 _ rfl
  have x14 : w4.cell? ⟨w.heap.size, 14, none⟩ = some (.slice a2 n2 c2) := mgAt_blk KP4.out 14 _ rfl
  have x15 : w4.cell? ⟨w.heap.size, 15, none⟩ = some (.slice a3 n3 c3) := mgAt_blk KP4.out 15 _ rfl
  have x16 : w4.cell? ⟨w.heap.size, 16, none⟩ = some (.slice a4 n4 c4) := mgAt_blk KP4.out 16 _ rfl
  by_cases hk9 : m.k = 9
  · have hok : m.k = 9 := hk9
    go_upto_region 31 with (fail)
    have HOK := Lib.hid hok
    clear hok hk9
    refine wp_region_lit ?_
    refine ops_same rfl (v := .bool true) (fun w => by simp only [execOp]; go_simp) ?_
    simp only [Act.put, List.setIfInBounds_toArray, List.set_cons_succ, List.set_cons_zero]
    refine ops_same rfl (v := .bool true) (fun w => by simp only [execOp]; go_simp) ?_
    simp only [Act.put, List.setIfInBounds_toArray, List.set_cons_succ, List.set_cons_zero]
    refine ops_val rfl (v := .agg (mgCs ({ m with e := 0 }) a1 n1 c1 a2 n2 c2 a3 n3 c3 a4 n4 c4).toArray) (load_row _ _ (.tmp 3) Try.underlying145 rfl (by rw [List.size_toArray]; exact info_rest) rfl rfl (K4.out.trans (by simp only [mgCs, zeroRq, List.setIfInBounds_toArray, List.set_cons_succ, List.set_cons_zero]; rfl))) ?_
    simp only [Act.put, List.setIfInBounds_toArray, List.set_cons_succ, List.set_cons_zero]
    have BF := Lib.hid B4.out
    have HR2 := Lib.hid (show R = emptyB ({ m with e := 0 }) by rw [HR.out, ok_9 HOK.out])
    have hmi := HM.out.old BF.out
    have CE := Lib.hid (empty_any ({ m with e := 0 }) a1 n1 c1 a2 n2 c2 a3 n3 c3 a4 n4 c4 _ ⟨hmi.k, z64, hmi.v, hmi.s, hmi.q, hmi.c, hmi.r, hmi.t, hmi.nx, hmi.sg, hmi.ch, hmi.lk⟩)
    clear hmi
    go_wp2_with fail
    refine CE.out.mono ?_
    rintro r wz ⟨rfl, bz⟩
    have BZ := Lib.hid (bthen BF.out bz)
    clear bz
    go_wp2_with fail
    go_ret
    exact ⟨by rw [HR2.out]; rfl, BZ.out⟩
  by_cases hk2 : m.k = 2
  · have hok : m.k = 2 := hk2
    have CP0 := spotted_any m a1 n1 c1 a2 n2 c2 a3 n3 c3 a4 n4 c4 w4 he (HM.out.old B4.out)
    rw [← HCS.out] at CP0
    have CP := Lib.hid CP0
    clear CP0
    go_upto_region 14 with (fail)
    have HOK := Lib.hid hok
    clear hok hk2
    refine wp_region_lit ?_
    refine ops_val rfl (v := .agg CS) (load_row _ _ (.tmp 1) Try.underlying50 rfl (by rw [HCS.out, List.size_toArray]; exact info_mg) rfl rfl (by rw [HCS.out]; exact KP4.out)) ?_
    simp only [Act.put, List.setIfInBounds_toArray, List.set_cons_succ, List.set_cons_zero]
    go_wp2_with fail
    refine CP.out.mono ?_
    rintro r w5 ⟨rfl, b5⟩
    have B5 := Lib.hid (bthen B4.out b5)
    have k5 := blk_below K4.out b5
    have K5 := Lib.hid k5
    clear CP b5 B4 K4 KP4 x0 x1 x2 x3 x4 x5 x6 x7 x8 x9 x10 x11 x12 x13 x14 x15 x16
    have y2 : w5.cell? ⟨b, 2, none⟩ = some _ := mgAt_blk k5 2 _ rfl
    have y3 : w5.cell? ⟨b, 3, none⟩ = some _ := mgAt_blk k5 3 _ rfl
    have y4 : w5.cell? ⟨b, 4, none⟩ = some _ := mgAt_blk k5 4 _ rfl
    have y5 : w5.cell? ⟨b, 5, none⟩ = some _ := mgAt_blk k5 5 _ rfl
    have y6 : w5.cell? ⟨b, 6, none⟩ = some _ := mgAt_blk k5 6 _ rfl
    have y7 : w5.cell? ⟨b, 7, none⟩ = some _ := mgAt_blk k5 7 _ rfl
    have y8 : w5.cell? ⟨b, 8, none⟩ = some _ := mgAt_blk k5 8 _ rfl
    have y9 : w5.cell? ⟨b, 9, none⟩ = some _ := mgAt_blk k5 9 _ rfl
    have y14 : w5.cell? ⟨b, 14, none⟩ = some _ := mgAt_blk k5 14 _ rfl
    have z2 : w5.frozen? ⟨b, 2, none⟩ = false := blk_frozen k5 2
    have z3 : w5.frozen? ⟨b, 3, none⟩ = false := blk_frozen k5 3
    have z4 : w5.frozen? ⟨b, 4, none⟩ = false := blk_frozen k5 4
    have z5 : w5.frozen? ⟨b, 5, none⟩ = false := blk_frozen k5 5
    have z6 : w5.frozen? ⟨b, 6, none⟩ = false := blk_frozen k5 6
    have z7 : w5.frozen? ⟨b, 7, none⟩ = false := blk_frozen k5 7
    have z8 : w5.frozen? ⟨b, 8, none⟩ = false := blk_frozen k5 8
    have z9 : w5.frozen? ⟨b, 9, none⟩ = false := blk_frozen k5 9
    have z14 : w5.frozen? ⟨b, 14, none⟩ = false := blk_frozen k5 14
    clear k5
    cases hT : spotB m
    · have hr : R = false := by rw [HR.out, ok_2 HOK.out, hT]; rfl
      go_wp2_with fail
      go_ret
      exact ⟨by first | rfl | (rw [hr]; rfl), (belowS (belowS (belowS (belowS (belowS (belowS (belowS (belowS (belowS B5.out HB.out 2 (.int .i64 0)) HB.out 3 (.int .i64 0)) HB.out 4 (.int .i64 0)) HB.out 5 (.int .i64 0)) HB.out 6 (.int .i64 0)) HB.out 7 (.string ⟨#[]⟩)) HB.out 8 (.float .f64 0)) HB.out 9 (.int .i64 0)) HB.out 14 (.slice none 0 0))⟩
    go_upto_region 31 with (fail)
    refine wp_region_lit ?_
    refine ops_same rfl (v := .bool true) (fun w => by simp only [execOp]; go_simp) ?_
    simp only [Act.put, List.setIfInBounds_toArray, List.set_cons_succ, List.set_cons_zero]
    refine ops_same rfl (v := .bool true) (fun w => by simp only [execOp]; go_simp) ?_
    simp only [Act.put, List.setIfInBounds_toArray, List.set_cons_succ, List.set_cons_zero]
    refine ops_val rfl (v := .agg (mgCs ({ m with e := 0, v := 0, s := 0, q := zeroRq, sg := [] }) a1 n1 c1 none 0 0 a3 n3 c3 a4 n4 c4).toArray) (load_row _ _ (.tmp 3) Try.underlying145 rfl (by rw [List.size_toArray]; exact info_rest) rfl rfl ((blk_set (blk_set (blk_set (blk_set (blk_set (blk_set (blk_set (blk_set (blk_set K5.out 2 (.int .i64 0)) 3 (.int .i64 0)) 4 (.int .i64 0)) 5 (.int .i64 0)) 6 (.int .i64 0)) 7 (.string ⟨#[]⟩)) 8 (.float .f64 0)) 9 (.int .i64 0)) 14 (.slice none 0 0)).trans (by simp only [mgCs, zeroRq, List.setIfInBounds_toArray, List.set_cons_succ, List.set_cons_zero]; rfl))) ?_
    simp only [Act.put, List.setIfInBounds_toArray, List.set_cons_succ, List.set_cons_zero]
    have BF := Lib.hid (belowS (belowS (belowS (belowS (belowS (belowS (belowS (belowS (belowS B5.out HB.out 2 (.int .i64 0)) HB.out 3 (.int .i64 0)) HB.out 4 (.int .i64 0)) HB.out 5 (.int .i64 0)) HB.out 6 (.int .i64 0)) HB.out 7 (.string ⟨#[]⟩)) HB.out 8 (.float .f64 0)) HB.out 9 (.int .i64 0)) HB.out 14 (.slice none 0 0))
    have HR2 := Lib.hid (show R = emptyB ({ m with e := 0, v := 0, s := 0, q := zeroRq, sg := [] }) by rw [HR.out, ok_2 HOK.out, hT]; rfl)
    have hmi := HM.out.old BF.out
    have CE := Lib.hid (empty_any ({ m with e := 0, v := 0, s := 0, q := zeroRq, sg := [] }) a1 n1 c1 none 0 0 a3 n3 c3 a4 n4 c4 _ ⟨hmi.k, z64, z64, z64, zeroRq_ok, hmi.c, hmi.r, hmi.t, hmi.nx, sl_nil, hmi.ch, hmi.lk⟩)
    clear hmi
    go_wp2_with fail
    refine CE.out.mono ?_
    rintro r wz ⟨rfl, bz⟩
    have BZ := Lib.hid (bthen BF.out bz)
    clear bz
    go_wp2_with fail
    go_ret
    exact ⟨by rw [HR2.out]; rfl, BZ.out⟩
  by_cases hk3 : m.k = 3
  · have hok : m.k = 3 := hk3
    have CP0 := spotted_any m a1 n1 c1 a2 n2 c2 a3 n3 c3 a4 n4 c4 w4 he (HM.out.old B4.out)
    rw [← HCS.out] at CP0
    have CP := Lib.hid CP0
    clear CP0
    go_upto_region 14 with (fail)
    have HOK := Lib.hid hok
    clear hok hk3
    refine wp_region_lit ?_
    refine ops_val rfl (v := .agg CS) (load_row _ _ (.tmp 1) Try.underlying50 rfl (by rw [HCS.out, List.size_toArray]; exact info_mg) rfl rfl (by rw [HCS.out]; exact KP4.out)) ?_
    simp only [Act.put, List.setIfInBounds_toArray, List.set_cons_succ, List.set_cons_zero]
    go_wp2_with fail
    refine CP.out.mono ?_
    rintro r w5 ⟨rfl, b5⟩
    have B5 := Lib.hid (bthen B4.out b5)
    have k5 := blk_below K4.out b5
    have K5 := Lib.hid k5
    clear CP b5 B4 K4 KP4 x0 x1 x2 x3 x4 x5 x6 x7 x8 x9 x10 x11 x12 x13 x14 x15 x16
    have y2 : w5.cell? ⟨b, 2, none⟩ = some _ := mgAt_blk k5 2 _ rfl
    have y3 : w5.cell? ⟨b, 3, none⟩ = some _ := mgAt_blk k5 3 _ rfl
    have y4 : w5.cell? ⟨b, 4, none⟩ = some _ := mgAt_blk k5 4 _ rfl
    have y5 : w5.cell? ⟨b, 5, none⟩ = some _ := mgAt_blk k5 5 _ rfl
    have y6 : w5.cell? ⟨b, 6, none⟩ = some _ := mgAt_blk k5 6 _ rfl
    have y7 : w5.cell? ⟨b, 7, none⟩ = some _ := mgAt_blk k5 7 _ rfl
    have y8 : w5.cell? ⟨b, 8, none⟩ = some _ := mgAt_blk k5 8 _ rfl
    have y9 : w5.cell? ⟨b, 9, none⟩ = some _ := mgAt_blk k5 9 _ rfl
    have y14 : w5.cell? ⟨b, 14, none⟩ = some _ := mgAt_blk k5 14 _ rfl
    have z2 : w5.frozen? ⟨b, 2, none⟩ = false := blk_frozen k5 2
    have z3 : w5.frozen? ⟨b, 3, none⟩ = false := blk_frozen k5 3
    have z4 : w5.frozen? ⟨b, 4, none⟩ = false := blk_frozen k5 4
    have z5 : w5.frozen? ⟨b, 5, none⟩ = false := blk_frozen k5 5
    have z6 : w5.frozen? ⟨b, 6, none⟩ = false := blk_frozen k5 6
    have z7 : w5.frozen? ⟨b, 7, none⟩ = false := blk_frozen k5 7
    have z8 : w5.frozen? ⟨b, 8, none⟩ = false := blk_frozen k5 8
    have z9 : w5.frozen? ⟨b, 9, none⟩ = false := blk_frozen k5 9
    have z14 : w5.frozen? ⟨b, 14, none⟩ = false := blk_frozen k5 14
    clear k5
    cases hT : spotB m
    · have hr : R = false := by rw [HR.out, ok_3 HOK.out, hT]; rfl
      go_wp2_with fail
      go_ret
      exact ⟨by first | rfl | (rw [hr]; rfl), (belowS (belowS (belowS (belowS (belowS (belowS (belowS (belowS (belowS B5.out HB.out 2 (.int .i64 0)) HB.out 3 (.int .i64 0)) HB.out 4 (.int .i64 0)) HB.out 5 (.int .i64 0)) HB.out 6 (.int .i64 0)) HB.out 7 (.string ⟨#[]⟩)) HB.out 8 (.float .f64 0)) HB.out 9 (.int .i64 0)) HB.out 14 (.slice none 0 0))⟩
    go_upto_region 31 with (fail)
    refine wp_region_lit ?_
    refine ops_same rfl (v := .bool true) (fun w => by simp only [execOp]; go_simp) ?_
    simp only [Act.put, List.setIfInBounds_toArray, List.set_cons_succ, List.set_cons_zero]
    refine ops_same rfl (v := .bool true) (fun w => by simp only [execOp]; go_simp) ?_
    simp only [Act.put, List.setIfInBounds_toArray, List.set_cons_succ, List.set_cons_zero]
    refine ops_val rfl (v := .agg (mgCs ({ m with e := 0, v := 0, s := 0, q := zeroRq, sg := [] }) a1 n1 c1 none 0 0 a3 n3 c3 a4 n4 c4).toArray) (load_row _ _ (.tmp 3) Try.underlying145 rfl (by rw [List.size_toArray]; exact info_rest) rfl rfl ((blk_set (blk_set (blk_set (blk_set (blk_set (blk_set (blk_set (blk_set (blk_set K5.out 2 (.int .i64 0)) 3 (.int .i64 0)) 4 (.int .i64 0)) 5 (.int .i64 0)) 6 (.int .i64 0)) 7 (.string ⟨#[]⟩)) 8 (.float .f64 0)) 9 (.int .i64 0)) 14 (.slice none 0 0)).trans (by simp only [mgCs, zeroRq, List.setIfInBounds_toArray, List.set_cons_succ, List.set_cons_zero]; rfl))) ?_
    simp only [Act.put, List.setIfInBounds_toArray, List.set_cons_succ, List.set_cons_zero]
    have BF := Lib.hid (belowS (belowS (belowS (belowS (belowS (belowS (belowS (belowS (belowS B5.out HB.out 2 (.int .i64 0)) HB.out 3 (.int .i64 0)) HB.out 4 (.int .i64 0)) HB.out 5 (.int .i64 0)) HB.out 6 (.int .i64 0)) HB.out 7 (.string ⟨#[]⟩)) HB.out 8 (.float .f64 0)) HB.out 9 (.int .i64 0)) HB.out 14 (.slice none 0 0))
    have HR2 := Lib.hid (show R = emptyB ({ m with e := 0, v := 0, s := 0, q := zeroRq, sg := [] }) by rw [HR.out, ok_3 HOK.out, hT]; rfl)
    have hmi := HM.out.old BF.out
    have CE := Lib.hid (empty_any ({ m with e := 0, v := 0, s := 0, q := zeroRq, sg := [] }) a1 n1 c1 none 0 0 a3 n3 c3 a4 n4 c4 _ ⟨hmi.k, z64, z64, z64, zeroRq_ok, hmi.c, hmi.r, hmi.t, hmi.nx, sl_nil, hmi.ch, hmi.lk⟩)
    clear hmi
    go_wp2_with fail
    refine CE.out.mono ?_
    rintro r wz ⟨rfl, bz⟩
    have BZ := Lib.hid (bthen BF.out bz)
    clear bz
    go_wp2_with fail
    go_ret
    exact ⟨by rw [HR2.out]; rfl, BZ.out⟩
  by_cases hk4 : m.k = 4
  · have hok : m.k = 4 := hk4
    have CP0 := spotted_any m a1 n1 c1 a2 n2 c2 a3 n3 c3 a4 n4 c4 w4 he (HM.out.old B4.out)
    rw [← HCS.out] at CP0
    have CP := Lib.hid CP0
    clear CP0
    go_upto_region 14 with (fail)
    have HOK := Lib.hid hok
    clear hok hk4
    refine wp_region_lit ?_
    refine ops_val rfl (v := .agg CS) (load_row _ _ (.tmp 1) Try.underlying50 rfl (by rw [HCS.out, List.size_toArray]; exact info_mg) rfl rfl (by rw [HCS.out]; exact KP4.out)) ?_
    simp only [Act.put, List.setIfInBounds_toArray, List.set_cons_succ, List.set_cons_zero]
    go_wp2_with fail
    refine CP.out.mono ?_
    rintro r w5 ⟨rfl, b5⟩
    have B5 := Lib.hid (bthen B4.out b5)
    have k5 := blk_below K4.out b5
    have K5 := Lib.hid k5
    clear CP b5 B4 K4 KP4 x0 x1 x2 x3 x4 x5 x6 x7 x8 x9 x10 x11 x12 x13 x14 x15 x16
    have y2 : w5.cell? ⟨b, 2, none⟩ = some _ := mgAt_blk k5 2 _ rfl
    have y3 : w5.cell? ⟨b, 3, none⟩ = some _ := mgAt_blk k5 3 _ rfl
    have y4 : w5.cell? ⟨b, 4, none⟩ = some _ := mgAt_blk k5 4 _ rfl
    have y5 : w5.cell? ⟨b, 5, none⟩ = some _ := mgAt_blk k5 5 _ rfl
    have y6 : w5.cell? ⟨b, 6, none⟩ = some _ := mgAt_blk k5 6 _ rfl
    have y7 : w5.cell? ⟨b, 7, none⟩ = some _ := mgAt_blk k5 7 _ rfl
    have y8 : w5.cell? ⟨b, 8, none⟩ = some _ := mgAt_blk k5 8 _ rfl
    have y9 : w5.cell? ⟨b, 9, none⟩ = some _ := mgAt_blk k5 9 _ rfl
    have y14 : w5.cell? ⟨b, 14, none⟩ = some _ := mgAt_blk k5 14 _ rfl
    have z2 : w5.frozen? ⟨b, 2, none⟩ = false := blk_frozen k5 2
    have z3 : w5.frozen? ⟨b, 3, none⟩ = false := blk_frozen k5 3
    have z4 : w5.frozen? ⟨b, 4, none⟩ = false := blk_frozen k5 4
    have z5 : w5.frozen? ⟨b, 5, none⟩ = false := blk_frozen k5 5
    have z6 : w5.frozen? ⟨b, 6, none⟩ = false := blk_frozen k5 6
    have z7 : w5.frozen? ⟨b, 7, none⟩ = false := blk_frozen k5 7
    have z8 : w5.frozen? ⟨b, 8, none⟩ = false := blk_frozen k5 8
    have z9 : w5.frozen? ⟨b, 9, none⟩ = false := blk_frozen k5 9
    have z14 : w5.frozen? ⟨b, 14, none⟩ = false := blk_frozen k5 14
    clear k5
    cases hT : spotB m
    · have hr : R = false := by rw [HR.out, ok_4 HOK.out, hT]; rfl
      go_wp2_with fail
      go_ret
      exact ⟨by first | rfl | (rw [hr]; rfl), (belowS (belowS (belowS (belowS (belowS (belowS (belowS (belowS (belowS B5.out HB.out 2 (.int .i64 0)) HB.out 3 (.int .i64 0)) HB.out 4 (.int .i64 0)) HB.out 5 (.int .i64 0)) HB.out 6 (.int .i64 0)) HB.out 7 (.string ⟨#[]⟩)) HB.out 8 (.float .f64 0)) HB.out 9 (.int .i64 0)) HB.out 14 (.slice none 0 0))⟩
    go_upto_region 31 with (fail)
    refine wp_region_lit ?_
    refine ops_same rfl (v := .bool true) (fun w => by simp only [execOp]; go_simp) ?_
    simp only [Act.put, List.setIfInBounds_toArray, List.set_cons_succ, List.set_cons_zero]
    refine ops_same rfl (v := .bool true) (fun w => by simp only [execOp]; go_simp) ?_
    simp only [Act.put, List.setIfInBounds_toArray, List.set_cons_succ, List.set_cons_zero]
    refine ops_val rfl (v := .agg (mgCs ({ m with e := 0, v := 0, s := 0, q := zeroRq, sg := [] }) a1 n1 c1 none 0 0 a3 n3 c3 a4 n4 c4).toArray) (load_row _ _ (.tmp 3) Try.underlying145 rfl (by rw [List.size_toArray]; exact info_rest) rfl rfl ((blk_set (blk_set (blk_set (blk_set (blk_set (blk_set (blk_set (blk_set (blk_set K5.out 2 (.int .i64 0)) 3 (.int .i64 0)) 4 (.int .i64 0)) 5 (.int .i64 0)) 6 (.int .i64 0)) 7 (.string ⟨#[]⟩)) 8 (.float .f64 0)) 9 (.int .i64 0)) 14 (.slice none 0 0)).trans (by simp only [mgCs, zeroRq, List.setIfInBounds_toArray, List.set_cons_succ, List.set_cons_zero]; rfl))) ?_
    simp only [Act.put, List.setIfInBounds_toArray, List.set_cons_succ, List.set_cons_zero]
    have BF := Lib.hid (belowS (belowS (belowS (belowS (belowS (belowS (belowS (belowS (belowS B5.out HB.out 2 (.int .i64 0)) HB.out 3 (.int .i64 0)) HB.out 4 (.int .i64 0)) HB.out 5 (.int .i64 0)) HB.out 6 (.int .i64 0)) HB.out 7 (.string ⟨#[]⟩)) HB.out 8 (.float .f64 0)) HB.out 9 (.int .i64 0)) HB.out 14 (.slice none 0 0))
    have HR2 := Lib.hid (show R = emptyB ({ m with e := 0, v := 0, s := 0, q := zeroRq, sg := [] }) by rw [HR.out, ok_4 HOK.out, hT]; rfl)
    have hmi := HM.out.old BF.out
    have CE := Lib.hid (empty_any ({ m with e := 0, v := 0, s := 0, q := zeroRq, sg := [] }) a1 n1 c1 none 0 0 a3 n3 c3 a4 n4 c4 _ ⟨hmi.k, z64, z64, z64, zeroRq_ok, hmi.c, hmi.r, hmi.t, hmi.nx, sl_nil, hmi.ch, hmi.lk⟩)
    clear hmi
    go_wp2_with fail
    refine CE.out.mono ?_
    rintro r wz ⟨rfl, bz⟩
    have BZ := Lib.hid (bthen BF.out bz)
    clear bz
    go_wp2_with fail
    go_ret
    exact ⟨by rw [HR2.out]; rfl, BZ.out⟩
  by_cases hk6 : m.k = 6
  · have hok : m.k = 6 := hk6
    have CP0 := turned_any m a1 n1 c1 a2 n2 c2 a3 n3 c3 a4 n4 c4 w4 he (HM.out.old B4.out)
    rw [← HCS.out] at CP0
    have CP := Lib.hid CP0
    clear CP0
    go_upto_region 21 with (fail)
    have HOK := Lib.hid hok
    clear hok hk6
    refine wp_region_lit ?_
    refine ops_val rfl (v := .agg CS) (load_row _ _ (.tmp 1) Try.underlying50 rfl (by rw [HCS.out, List.size_toArray]; exact info_mg) rfl rfl (by rw [HCS.out]; exact KP4.out)) ?_
    simp only [Act.put, List.setIfInBounds_toArray, List.set_cons_succ, List.set_cons_zero]
    go_wp2_with fail
    refine CP.out.mono ?_
    rintro r w5 ⟨rfl, b5⟩
    have B5 := Lib.hid (bthen B4.out b5)
    have k5 := blk_below K4.out b5
    have K5 := Lib.hid k5
    clear CP b5 B4 K4 KP4 x0 x1 x2 x3 x4 x5 x6 x7 x8 x9 x10 x11 x12 x13 x14 x15 x16
    have y2 : w5.cell? ⟨b, 2, none⟩ = some _ := mgAt_blk k5 2 _ rfl
    have y15 : w5.cell? ⟨b, 15, none⟩ = some _ := mgAt_blk k5 15 _ rfl
    have z2 : w5.frozen? ⟨b, 2, none⟩ = false := blk_frozen k5 2
    have z15 : w5.frozen? ⟨b, 15, none⟩ = false := blk_frozen k5 15
    clear k5
    cases hT : turnB m
    · have hr : R = false := by rw [HR.out, ok_6 HOK.out, hT]; rfl
      go_wp2_with fail
      go_ret
      exact ⟨by first | rfl | (rw [hr]; rfl), (belowS (belowS B5.out HB.out 2 (.int .i64 0)) HB.out 15 (.slice none 0 0))⟩
    go_upto_region 31 with (fail)
    refine wp_region_lit ?_
    refine ops_same rfl (v := .bool true) (fun w => by simp only [execOp]; go_simp) ?_
    simp only [Act.put, List.setIfInBounds_toArray, List.set_cons_succ, List.set_cons_zero]
    refine ops_same rfl (v := .bool true) (fun w => by simp only [execOp]; go_simp) ?_
    simp only [Act.put, List.setIfInBounds_toArray, List.set_cons_succ, List.set_cons_zero]
    refine ops_val rfl (v := .agg (mgCs ({ m with e := 0, v := 0, ch := [] }) a1 n1 c1 a2 n2 c2 none 0 0 a4 n4 c4).toArray) (load_row _ _ (.tmp 3) Try.underlying145 rfl (by rw [List.size_toArray]; exact info_rest) rfl rfl ((blk_set (blk_set K5.out 2 (.int .i64 0)) 15 (.slice none 0 0)).trans (by simp only [mgCs, zeroRq, List.setIfInBounds_toArray, List.set_cons_succ, List.set_cons_zero]; rfl))) ?_
    simp only [Act.put, List.setIfInBounds_toArray, List.set_cons_succ, List.set_cons_zero]
    have BF := Lib.hid (belowS (belowS B5.out HB.out 2 (.int .i64 0)) HB.out 15 (.slice none 0 0))
    have HR2 := Lib.hid (show R = emptyB ({ m with e := 0, v := 0, ch := [] }) by rw [HR.out, ok_6 HOK.out, hT]; rfl)
    have hmi := HM.out.old BF.out
    have CE := Lib.hid (empty_any ({ m with e := 0, v := 0, ch := [] }) a1 n1 c1 a2 n2 c2 none 0 0 a4 n4 c4 _ ⟨hmi.k, z64, z64, hmi.s, hmi.q, hmi.c, hmi.r, hmi.t, hmi.nx, hmi.sg, sl_nil, hmi.lk⟩)
    clear hmi
    go_wp2_with fail
    refine CE.out.mono ?_
    rintro r wz ⟨rfl, bz⟩
    have BZ := Lib.hid (bthen BF.out bz)
    clear bz
    go_wp2_with fail
    go_ret
    exact ⟨by rw [HR2.out]; rfl, BZ.out⟩
  by_cases hk7 : m.k = 7
  · have hok : m.k = 7 := hk7
    have CP0 := turned_any m a1 n1 c1 a2 n2 c2 a3 n3 c3 a4 n4 c4 w4 he (HM.out.old B4.out)
    rw [← HCS.out] at CP0
    have CP := Lib.hid CP0
    clear CP0
    go_upto_region 21 with (fail)
    have HOK := Lib.hid hok
    clear hok hk7
    refine wp_region_lit ?_
    refine ops_val rfl (v := .agg CS) (load_row _ _ (.tmp 1) Try.underlying50 rfl (by rw [HCS.out, List.size_toArray]; exact info_mg) rfl rfl (by rw [HCS.out]; exact KP4.out)) ?_
    simp only [Act.put, List.setIfInBounds_toArray, List.set_cons_succ, List.set_cons_zero]
    go_wp2_with fail
    refine CP.out.mono ?_
    rintro r w5 ⟨rfl, b5⟩
    have B5 := Lib.hid (bthen B4.out b5)
    have k5 := blk_below K4.out b5
    have K5 := Lib.hid k5
    clear CP b5 B4 K4 KP4 x0 x1 x2 x3 x4 x5 x6 x7 x8 x9 x10 x11 x12 x13 x14 x15 x16
    have y2 : w5.cell? ⟨b, 2, none⟩ = some _ := mgAt_blk k5 2 _ rfl
    have y15 : w5.cell? ⟨b, 15, none⟩ = some _ := mgAt_blk k5 15 _ rfl
    have z2 : w5.frozen? ⟨b, 2, none⟩ = false := blk_frozen k5 2
    have z15 : w5.frozen? ⟨b, 15, none⟩ = false := blk_frozen k5 15
    clear k5
    cases hT : turnB m
    · have hr : R = false := by rw [HR.out, ok_7 HOK.out, hT]; rfl
      go_wp2_with fail
      go_ret
      exact ⟨by first | rfl | (rw [hr]; rfl), (belowS (belowS B5.out HB.out 2 (.int .i64 0)) HB.out 15 (.slice none 0 0))⟩
    go_upto_region 31 with (fail)
    refine wp_region_lit ?_
    refine ops_same rfl (v := .bool true) (fun w => by simp only [execOp]; go_simp) ?_
    simp only [Act.put, List.setIfInBounds_toArray, List.set_cons_succ, List.set_cons_zero]
    refine ops_same rfl (v := .bool true) (fun w => by simp only [execOp]; go_simp) ?_
    simp only [Act.put, List.setIfInBounds_toArray, List.set_cons_succ, List.set_cons_zero]
    refine ops_val rfl (v := .agg (mgCs ({ m with e := 0, v := 0, ch := [] }) a1 n1 c1 a2 n2 c2 none 0 0 a4 n4 c4).toArray) (load_row _ _ (.tmp 3) Try.underlying145 rfl (by rw [List.size_toArray]; exact info_rest) rfl rfl ((blk_set (blk_set K5.out 2 (.int .i64 0)) 15 (.slice none 0 0)).trans (by simp only [mgCs, zeroRq, List.setIfInBounds_toArray, List.set_cons_succ, List.set_cons_zero]; rfl))) ?_
    simp only [Act.put, List.setIfInBounds_toArray, List.set_cons_succ, List.set_cons_zero]
    have BF := Lib.hid (belowS (belowS B5.out HB.out 2 (.int .i64 0)) HB.out 15 (.slice none 0 0))
    have HR2 := Lib.hid (show R = emptyB ({ m with e := 0, v := 0, ch := [] }) by rw [HR.out, ok_7 HOK.out, hT]; rfl)
    have hmi := HM.out.old BF.out
    have CE := Lib.hid (empty_any ({ m with e := 0, v := 0, ch := [] }) a1 n1 c1 a2 n2 c2 none 0 0 a4 n4 c4 _ ⟨hmi.k, z64, z64, hmi.s, hmi.q, hmi.c, hmi.r, hmi.t, hmi.nx, hmi.sg, sl_nil, hmi.lk⟩)
    clear hmi
    go_wp2_with fail
    refine CE.out.mono ?_
    rintro r wz ⟨rfl, bz⟩
    have BZ := Lib.hid (bthen BF.out bz)
    clear bz
    go_wp2_with fail
    go_ret
    exact ⟨by rw [HR2.out]; rfl, BZ.out⟩
  by_cases hk8 : m.k = 8
  · have hok : m.k = 8 := hk8
    have CR0 := right_rq m.q HM.out.q w4
    simp only [Rq.v] at CR0
    have CR := Lib.hid CR0
    clear CR0
    go_wp2_with fail
    have HOK := Lib.hid hok
    clear hok hk8
    refine CR.out.mono ?_
    rintro r w5 ⟨rfl, b5⟩
    have B5 := Lib.hid (bthen B4.out b5)
    have k5 := blk_below K4.out b5
    have K5 := Lib.hid k5
    have v10 : w5.cell? ⟨w.heap.size, 10, none⟩ = some (.int .i64 m.c) := mgAt_blk (blk_below KP4.out b5) 10 _ rfl
    clear CR b5 B4 K4 KP4 x0 x1 x2 x3 x4 x5 x6 x7 x8 x9 x10 x11 x12 x13 x14 x15 x16
    have y4 : w5.cell? ⟨b, 4, none⟩ = some _ := mgAt_blk k5 4 _ rfl
    have y5 : w5.cell? ⟨b, 5, none⟩ = some _ := mgAt_blk k5 5 _ rfl
    have y6 : w5.cell? ⟨b, 6, none⟩ = some _ := mgAt_blk k5 6 _ rfl
    have y7 : w5.cell? ⟨b, 7, none⟩ = some _ := mgAt_blk k5 7 _ rfl
    have y8 : w5.cell? ⟨b, 8, none⟩ = some _ := mgAt_blk k5 8 _ rfl
    have y9 : w5.cell? ⟨b, 9, none⟩ = some _ := mgAt_blk k5 9 _ rfl
    have y10 : w5.cell? ⟨b, 10, none⟩ = some _ := mgAt_blk k5 10 _ rfl
    have y11 : w5.cell? ⟨b, 11, none⟩ = some _ := mgAt_blk k5 11 _ rfl
    have z4 : w5.frozen? ⟨b, 4, none⟩ = false := blk_frozen k5 4
    have z5 : w5.frozen? ⟨b, 5, none⟩ = false := blk_frozen k5 5
    have z6 : w5.frozen? ⟨b, 6, none⟩ = false := blk_frozen k5 6
    have z7 : w5.frozen? ⟨b, 7, none⟩ = false := blk_frozen k5 7
    have z8 : w5.frozen? ⟨b, 8, none⟩ = false := blk_frozen k5 8
    have z9 : w5.frozen? ⟨b, 9, none⟩ = false := blk_frozen k5 9
    have z10 : w5.frozen? ⟨b, 10, none⟩ = false := blk_frozen k5 10
    have z11 : w5.frozen? ⟨b, 11, none⟩ = false := blk_frozen k5 11
    clear k5
    cases hT1 : m.q.right
    · have hr : R = false := by rw [HR.out, ok_8 HOK.out, hT1]; rfl
      go_wp2_with fail
      go_ret
      exact ⟨by first | rfl | (rw [hr]; rfl), (belowS (belowS (belowS (belowS (belowS (belowS (belowS (belowS B5.out HB.out 4 (.int .i64 0)) HB.out 5 (.int .i64 0)) HB.out 6 (.int .i64 0)) HB.out 7 (.string ⟨#[]⟩)) HB.out 8 (.float .f64 0)) HB.out 9 (.int .i64 0)) HB.out 10 (.int .i64 0)) HB.out 11 (.float .f64 0))⟩
    cases hT2 : decide (0 ≤ m.c)
    · have hr : R = false := by rw [HR.out, ok_8 HOK.out, hT1, hT2]; rfl
      go_wp2_with fail
      go_ret
      exact ⟨by first | rfl | (rw [hr]; rfl), (belowS (belowS (belowS (belowS (belowS (belowS (belowS (belowS B5.out HB.out 4 (.int .i64 0)) HB.out 5 (.int .i64 0)) HB.out 6 (.int .i64 0)) HB.out 7 (.string ⟨#[]⟩)) HB.out 8 (.float .f64 0)) HB.out 9 (.int .i64 0)) HB.out 10 (.int .i64 0)) HB.out 11 (.float .f64 0))⟩
    cases hT3 : decide (m.c ≤ 8)
    · have hr : R = false := by rw [HR.out, ok_8 HOK.out, hT1, hT2, hT3]; rfl
      go_wp2_with fail
      go_ret
      exact ⟨by first | rfl | (rw [hr]; rfl), (belowS (belowS (belowS (belowS (belowS (belowS (belowS (belowS B5.out HB.out 4 (.int .i64 0)) HB.out 5 (.int .i64 0)) HB.out 6 (.int .i64 0)) HB.out 7 (.string ⟨#[]⟩)) HB.out 8 (.float .f64 0)) HB.out 9 (.int .i64 0)) HB.out 10 (.int .i64 0)) HB.out 11 (.float .f64 0))⟩
    go_upto_region 31 with (fail)
    refine wp_region_lit ?_
    refine ops_same rfl (v := .bool true) (fun w => by simp only [execOp]; go_simp) ?_
    simp only [Act.put, List.setIfInBounds_toArray, List.set_cons_succ, List.set_cons_zero]
    refine ops_same rfl (v := .bool true) (fun w => by simp only [execOp]; go_simp) ?_
    simp only [Act.put, List.setIfInBounds_toArray, List.set_cons_succ, List.set_cons_zero]
    refine ops_val rfl (v := .agg (mgCs ({ m with e := 0, q := zeroRq, c := 0, r := 0 }) a1 n1 c1 a2 n2 c2 a3 n3 c3 a4 n4 c4).toArray) (load_row _ _ (.tmp 3) Try.underlying145 rfl (by rw [List.size_toArray]; exact info_rest) rfl rfl ((blk_set (blk_set (blk_set (blk_set (blk_set (blk_set (blk_set (blk_set K5.out 4 (.int .i64 0)) 5 (.int .i64 0)) 6 (.int .i64 0)) 7 (.string ⟨#[]⟩)) 8 (.float .f64 0)) 9 (.int .i64 0)) 10 (.int .i64 0)) 11 (.float .f64 0)).trans (by simp only [mgCs, zeroRq, List.setIfInBounds_toArray, List.set_cons_succ, List.set_cons_zero]; rfl))) ?_
    simp only [Act.put, List.setIfInBounds_toArray, List.set_cons_succ, List.set_cons_zero]
    have BF := Lib.hid (belowS (belowS (belowS (belowS (belowS (belowS (belowS (belowS B5.out HB.out 4 (.int .i64 0)) HB.out 5 (.int .i64 0)) HB.out 6 (.int .i64 0)) HB.out 7 (.string ⟨#[]⟩)) HB.out 8 (.float .f64 0)) HB.out 9 (.int .i64 0)) HB.out 10 (.int .i64 0)) HB.out 11 (.float .f64 0))
    have HR2 := Lib.hid (show R = emptyB ({ m with e := 0, q := zeroRq, c := 0, r := 0 }) by rw [HR.out, ok_8 HOK.out, hT1, hT2, hT3]; rfl)
    have hmi := HM.out.old BF.out
    have CE := Lib.hid (empty_any ({ m with e := 0, q := zeroRq, c := 0, r := 0 }) a1 n1 c1 a2 n2 c2 a3 n3 c3 a4 n4 c4 _ ⟨hmi.k, z64, hmi.v, hmi.s, zeroRq_ok, z64, (show (0 : Nat) < 18446744073709551616 by decide), hmi.t, hmi.nx, hmi.sg, hmi.ch, hmi.lk⟩)
    clear hmi
    go_wp2_with fail
    refine CE.out.mono ?_
    rintro r wz ⟨rfl, bz⟩
    have BZ := Lib.hid (bthen BF.out bz)
    clear bz
    go_wp2_with fail
    go_ret
    exact ⟨by rw [HR2.out]; rfl, BZ.out⟩
  by_cases hk5 : m.k = 5
  · have hok : m.k = 5 := hk5
    have hw1 : IntKind.i64.wrap (m.e + 1) = m.e + 1 := IntWalk.i64_in _ (by omega)
    have hw2 : IntKind.i64.wrap ((m.e + 1) * 4) = (m.e + 1) * 4 := IntWalk.i64_in _ (by omega)
    have HS := Lib.hid (show (m.s == (m.e + 1) * 4) = decide (m.s = 4 * m.e + 4) by rw [beqZ]; exact decide_eq_decide.2 (by omega))
    have HT := Lib.hid (show (!m.t.toList.isEmpty) = decide (m.t.size ≠ 0) by rw [str_empty, decide_not])
    have CR0 := right_any 0 a1 n1 c1 m.nx w4 (ints_of_sl (HM.out.nx.old B4.out))
    rw [show rightB 0 m.nx = risingB m.nx from rfl] at CR0
    have CR := Lib.hid CR0
    have hln := HM.out.sg.len
    have HLN := Lib.hid (show ((n2 : Int) == 2) = decide (m.sg.length = 2) by rw [beqZ]; exact decide_eq_decide.2 (by omega))
    clear hln CR0
    have y3 : w4.cell? ⟨b, 3, none⟩ = some _ := mgAt_blk K4.out 3 _ rfl
    have y12 : w4.cell? ⟨b, 12, none⟩ = some _ := mgAt_blk K4.out 12 _ rfl
    have y13 : w4.cell? ⟨b, 13, none⟩ = some _ := mgAt_blk K4.out 13 _ rfl
    have y14 : w4.cell? ⟨b, 14, none⟩ = some _ := mgAt_blk K4.out 14 _ rfl
    have z3 : w4.frozen? ⟨b, 3, none⟩ = false := blk_frozen K4.out 3
    have z12 : w4.frozen? ⟨b, 12, none⟩ = false := blk_frozen K4.out 12
    have z13 : w4.frozen? ⟨b, 13, none⟩ = false := blk_frozen K4.out 13
    have z14 : w4.frozen? ⟨b, 14, none⟩ = false := blk_frozen K4.out 14
    go_upto_region 17 with (fail)
    have HOK := Lib.hid hok
    clear hok hk5
    cases hT1 : (m.s == (m.e + 1) * 4)
    · have hr : R = false := by rw [HR.out, ok_5 HOK.out, ← HS.out, hT1]; rfl
      go_wp2_with fail
      go_ret
      exact ⟨by first | rfl | (rw [hr]; rfl), (belowS (belowS (belowS (belowS B4.out HB.out 3 (.int .i64 0)) HB.out 12 (.string ⟨#[]⟩)) HB.out 13 (.slice none 0 0)) HB.out 14 (.slice none 0 0))⟩
    cases hT2 : m.t.toList.isEmpty with
    | true =>
      have hr : R = false := by rw [HR.out, ok_5 HOK.out, ← HS.out, ← HT.out, hT1, hT2]; rfl
      go_wp2_with fail
      go_ret
      exact ⟨by first | rfl | (rw [hr]; rfl), (belowS (belowS (belowS (belowS B4.out HB.out 3 (.int .i64 0)) HB.out 12 (.string ⟨#[]⟩)) HB.out 13 (.slice none 0 0)) HB.out 14 (.slice none 0 0))⟩
    | false =>
    go_wp2_with fail
    refine CR.out.mono ?_
    rintro r w5 ⟨rfl, b5⟩
    have B5 := Lib.hid (bthen B4.out b5)
    have k5 := blk_below K4.out b5
    have K5 := Lib.hid k5
    have v14 : w5.cell? ⟨w.heap.size, 14, none⟩ = some (.slice a2 n2 c2) := mgAt_blk (blk_below KP4.out b5) 14 _ rfl
    clear CR b5 B4 K4 KP4 y3 y12 y13 y14 z3 z12 z13 z14 x0 x1 x2 x3 x4 x5 x6 x7 x8 x9 x10 x11 x12 x13 x14 x15 x16
    have y3 : w5.cell? ⟨b, 3, none⟩ = some _ := mgAt_blk k5 3 _ rfl
    have y12 : w5.cell? ⟨b, 12, none⟩ = some _ := mgAt_blk k5 12 _ rfl
    have y13 : w5.cell? ⟨b, 13, none⟩ = some _ := mgAt_blk k5 13 _ rfl
    have y14 : w5.cell? ⟨b, 14, none⟩ = some _ := mgAt_blk k5 14 _ rfl
    have z3 : w5.frozen? ⟨b, 3, none⟩ = false := blk_frozen k5 3
    have z12 : w5.frozen? ⟨b, 12, none⟩ = false := blk_frozen k5 12
    have z13 : w5.frozen? ⟨b, 13, none⟩ = false := blk_frozen k5 13
    have z14 : w5.frozen? ⟨b, 14, none⟩ = false := blk_frozen k5 14
    clear k5
    cases hT3 : risingB m.nx
    · have hr : R = false := by rw [HR.out, ok_5 HOK.out, ← HS.out, ← HT.out, hT1, hT2, hT3]; rfl
      go_wp2_with fail
      go_ret
      exact ⟨by first | rfl | (rw [hr]; rfl), (belowS (belowS (belowS (belowS B5.out HB.out 3 (.int .i64 0)) HB.out 12 (.string ⟨#[]⟩)) HB.out 13 (.slice none 0 0)) HB.out 14 (.slice none 0 0))⟩
    cases hT4 : ((n2 : Int) == 2)
    · have hr : R = false := by rw [HR.out, ok_5 HOK.out, ← HS.out, ← HT.out, ← HLN.out, hT1, hT2, hT3, hT4]; rfl
      go_wp2_with fail
      go_ret
      exact ⟨by first | rfl | (rw [hr]; rfl), (belowS (belowS (belowS (belowS B5.out HB.out 3 (.int .i64 0)) HB.out 12 (.string ⟨#[]⟩)) HB.out 13 (.slice none 0 0)) HB.out 14 (.slice none 0 0))⟩
    go_upto_region 31 with (fail)
    refine wp_region_lit ?_
    refine ops_same rfl (v := .bool true) (fun w => by simp only [execOp]; go_simp) ?_
    simp only [Act.put, List.setIfInBounds_toArray, List.set_cons_succ, List.set_cons_zero]
    refine ops_same rfl (v := .bool true) (fun w => by simp only [execOp]; go_simp) ?_
    simp only [Act.put, List.setIfInBounds_toArray, List.set_cons_succ, List.set_cons_zero]
    refine ops_val rfl (v := .agg (mgCs ({ m with e := 0, s := 0, t := ⟨#[]⟩, nx := [], sg := [] }) none 0 0 none 0 0 a3 n3 c3 a4 n4 c4).toArray) (load_row _ _ (.tmp 3) Try.underlying145 rfl (by rw [List.size_toArray]; exact info_rest) rfl rfl ((blk_set (blk_set (blk_set (blk_set K5.out 3 (.int .i64 0)) 12 (.string ⟨#[]⟩)) 13 (.slice none 0 0)) 14 (.slice none 0 0)).trans (by simp only [mgCs, zeroRq, List.setIfInBounds_toArray, List.set_cons_succ, List.set_cons_zero]; rfl))) ?_
    simp only [Act.put, List.setIfInBounds_toArray, List.set_cons_succ, List.set_cons_zero]
    have BF := Lib.hid (belowS (belowS (belowS (belowS B5.out HB.out 3 (.int .i64 0)) HB.out 12 (.string ⟨#[]⟩)) HB.out 13 (.slice none 0 0)) HB.out 14 (.slice none 0 0))
    have HR2 := Lib.hid (show R = emptyB ({ m with e := 0, s := 0, t := ⟨#[]⟩, nx := [], sg := [] }) by rw [HR.out, ok_5 HOK.out, ← HS.out, ← HT.out, ← HLN.out, hT1, hT2, hT3, hT4]; rfl)
    have hmi := HM.out.old BF.out
    have CE := Lib.hid (empty_any ({ m with e := 0, s := 0, t := ⟨#[]⟩, nx := [], sg := [] }) none 0 0 none 0 0 a3 n3 c3 a4 n4 c4 _ ⟨hmi.k, z64, hmi.v, z64, hmi.q, hmi.c, hmi.r, (show (⟨#[]⟩ : ByteArray).size ≤ 140737488351232 by decide), sl_nil, sl_nil, hmi.ch, hmi.lk⟩)
    clear hmi
    go_wp2_with fail
    refine CE.out.mono ?_
    rintro r wz ⟨rfl, bz⟩
    have BZ := Lib.hid (bthen BF.out bz)
    clear bz
    go_wp2_with fail
    go_ret
    exact ⟨by rw [HR2.out]; rfl, BZ.out⟩
  by_cases hk10 : m.k = 10
  · have hok : m.k = 10 := hk10
    have hw2 : IntKind.i64.wrap (m.e * 4) = m.e * 4 := IntWalk.i64_in _ (by omega)
    have HS := Lib.hid (show (m.s == m.e * 4) = decide (m.s = 4 * m.e) by rw [beqZ]; exact decide_eq_decide.2 (by omega))
    have HT := Lib.hid (show (!m.t.toList.isEmpty) = decide (m.t.size ≠ 0) by rw [str_empty, decide_not])
    have CP0 := linked_any m a1 n1 c1 a2 n2 c2 a3 n3 c3 a4 n4 c4 w4 (HM.out.old B4.out)
    rw [← HCS.out] at CP0
    have CP := Lib.hid CP0
    clear CP0
    have y3 : w4.cell? ⟨b, 3, none⟩ = some _ := mgAt_blk K4.out 3 _ rfl
    have y12 : w4.cell? ⟨b, 12, none⟩ = some _ := mgAt_blk K4.out 12 _ rfl
    have y16 : w4.cell? ⟨b, 16, none⟩ = some _ := mgAt_blk K4.out 16 _ rfl
    have y14 : w4.cell? ⟨b, 14, none⟩ = some _ := mgAt_blk K4.out 14 _ rfl
    have z3 : w4.frozen? ⟨b, 3, none⟩ = false := blk_frozen K4.out 3
    have z12 : w4.frozen? ⟨b, 12, none⟩ = false := blk_frozen K4.out 12
    have z16 : w4.frozen? ⟨b, 16, none⟩ = false := blk_frozen K4.out 16
    have z14 : w4.frozen? ⟨b, 14, none⟩ = false := blk_frozen K4.out 14
    go_upto_region 29 with (fail)
    have HOK := Lib.hid hok
    clear hok hk10
    cases hT1 : decide (0 < m.e)
    · have hr : R = false := by rw [HR.out, ok_10 HOK.out, hT1]; rfl
      go_wp2_with fail
      go_ret
      exact ⟨by first | rfl | (rw [hr]; rfl), (belowS (belowS (belowS (belowS B4.out HB.out 3 (.int .i64 0)) HB.out 12 (.string ⟨#[]⟩)) HB.out 16 (.slice none 0 0)) HB.out 14 (.slice none 0 0))⟩
    cases hT2 : (m.s == m.e * 4)
    · have hr : R = false := by rw [HR.out, ok_10 HOK.out, ← HS.out, hT1, hT2]; rfl
      go_wp2_with fail
      go_ret
      exact ⟨by first | rfl | (rw [hr]; rfl), (belowS (belowS (belowS (belowS B4.out HB.out 3 (.int .i64 0)) HB.out 12 (.string ⟨#[]⟩)) HB.out 16 (.slice none 0 0)) HB.out 14 (.slice none 0 0))⟩
    cases hT3 : m.t.toList.isEmpty with
    | true =>
      have hr : R = false := by rw [HR.out, ok_10 HOK.out, ← HS.out, ← HT.out, hT1, hT2, hT3]; rfl
      go_wp2_with fail
      go_ret
      exact ⟨by first | rfl | (rw [hr]; rfl), (belowS (belowS (belowS (belowS B4.out HB.out 3 (.int .i64 0)) HB.out 12 (.string ⟨#[]⟩)) HB.out 16 (.slice none 0 0)) HB.out 14 (.slice none 0 0))⟩
    | false =>
    refine wp_region_lit ?_
    refine ops_val (w' := w4) rfl (v := .pointer (some ⟨w.heap.size, 1, none⟩)) (by simp only [execOp]; go_simp) ?_
    simp only [Act.put, List.setIfInBounds_toArray, List.set_cons_succ, List.set_cons_zero]
    refine ops_val (w' := w4) rfl (v := .int .i64 m.e) (by simp only [execOp]; go_simp) ?_
    simp only [Act.put, List.setIfInBounds_toArray, List.set_cons_succ, List.set_cons_zero]
    refine ops_val (w' := w4) rfl (v := .bool true) (by simp only [execOp]; go_simp) ?_
    simp only [Act.put, List.setIfInBounds_toArray, List.set_cons_succ, List.set_cons_zero]
    refine ops_val (w' := w4) rfl (v := .bool true) (by simp only [execOp]; go_simp) ?_
    simp only [Act.put, List.setIfInBounds_toArray, List.set_cons_succ, List.set_cons_zero]
    refine ops_val (w' := w4) rfl (v := .pointer (some ⟨w.heap.size, 3, none⟩)) (by simp only [execOp]; go_simp) ?_
    simp only [Act.put, List.setIfInBounds_toArray, List.set_cons_succ, List.set_cons_zero]
    refine ops_val (w' := w4) rfl (v := .int .i64 m.s) (by simp only [execOp]; go_simp) ?_
    simp only [Act.put, List.setIfInBounds_toArray, List.set_cons_succ, List.set_cons_zero]
    refine ops_val (w' := w4) rfl (v := .pointer (some ⟨w.heap.size, 1, none⟩)) (by simp only [execOp]; go_simp) ?_
    simp only [Act.put, List.setIfInBounds_toArray, List.set_cons_succ, List.set_cons_zero]
    refine ops_val (w' := w4) rfl (v := .int .i64 m.e) (by simp only [execOp]; go_simp) ?_
    simp only [Act.put, List.setIfInBounds_toArray, List.set_cons_succ, List.set_cons_zero]
    refine ops_val (w' := w4) rfl (v := .int .i64 (m.e * 4)) (by simp only [execOp]; go_simp) ?_
    simp only [Act.put, List.setIfInBounds_toArray, List.set_cons_succ, List.set_cons_zero]
    refine ops_val (w' := w4) rfl (v := .bool true) (by simp only [execOp]; go_simp) ?_
    simp only [Act.put, List.setIfInBounds_toArray, List.set_cons_succ, List.set_cons_zero]
    refine ops_val (w' := w4) rfl (v := .bool true) (by simp only [execOp]; go_simp) ?_
    simp only [Act.put, List.setIfInBounds_toArray, List.set_cons_succ, List.set_cons_zero]
    refine ops_val (w' := w4) rfl (v := .bool true) (by simp only [execOp]; go_simp) ?_
    simp only [Act.put, List.setIfInBounds_toArray, List.set_cons_succ, List.set_cons_zero]
    refine ops_val (w' := w4) rfl (v := .pointer (some ⟨w.heap.size, 12, none⟩)) (by simp only [execOp]; go_simp) ?_
    simp only [Act.put, List.setIfInBounds_toArray, List.set_cons_succ, List.set_cons_zero]
    refine ops_val (w' := w4) rfl (v := .string m.t) (by simp only [execOp]; go_simp) ?_
    simp only [Act.put, List.setIfInBounds_toArray, List.set_cons_succ, List.set_cons_zero]
    refine ops_val (w' := w4) rfl (v := .bool true) (by simp only [execOp]; go_simp) ?_
    simp only [Act.put, List.setIfInBounds_toArray, List.set_cons_succ, List.set_cons_zero]
    refine ops_val (w' := w4) rfl (v := .bool true) (by simp only [execOp]; go_simp) ?_
    simp only [Act.put, List.setIfInBounds_toArray, List.set_cons_succ, List.set_cons_zero]
    refine ops_val (w' := w4) rfl (v := .bool true) (by simp only [execOp]; go_simp) ?_
    simp only [Act.put, List.setIfInBounds_toArray, List.set_cons_succ, List.set_cons_zero]
    refine ops_val rfl (v := .agg CS) (load_row _ _ (.tmp 1) Try.underlying50 rfl (by rw [HCS.out, List.size_toArray]; exact info_mg) rfl rfl (by rw [HCS.out]; exact KP4.out)) ?_
    simp only [Act.put, List.setIfInBounds_toArray, List.set_cons_succ, List.set_cons_zero]
    go_wp2_with fail
    refine CP.out.mono ?_
    rintro r w5 ⟨rfl, b5⟩
    have B5 := Lib.hid (bthen B4.out b5)
    have k5 := blk_below K4.out b5
    have K5 := Lib.hid k5
    clear CP b5 B4 K4 KP4 y3 y12 y16 y14 z3 z12 z16 z14 x0 x1 x2 x3 x4 x5 x6 x7 x8 x9 x10 x11 x12 x13 x14 x15 x16
    have y3 : w5.cell? ⟨b, 3, none⟩ = some _ := mgAt_blk k5 3 _ rfl
    have y12 : w5.cell? ⟨b, 12, none⟩ = some _ := mgAt_blk k5 12 _ rfl
    have y16 : w5.cell? ⟨b, 16, none⟩ = some _ := mgAt_blk k5 16 _ rfl
    have y14 : w5.cell? ⟨b, 14, none⟩ = some _ := mgAt_blk k5 14 _ rfl
    have z3 : w5.frozen? ⟨b, 3, none⟩ = false := blk_frozen k5 3
    have z12 : w5.frozen? ⟨b, 12, none⟩ = false := blk_frozen k5 12
    have z16 : w5.frozen? ⟨b, 16, none⟩ = false := blk_frozen k5 16
    have z14 : w5.frozen? ⟨b, 14, none⟩ = false := blk_frozen k5 14
    clear k5
    cases hT4 : (linksB 0 m.lk && decide ((m.lk.length : Int) = m.e))
    · have hr : R = false := by rw [HR.out, ok_10 HOK.out, ← HS.out, ← HT.out, Bool.and_comm (decide _) (linksB _ _), hT1, hT2, hT3, hT4]; rfl
      go_wp2_with fail
      go_ret
      exact ⟨by first | rfl | (rw [hr]; rfl), (belowS (belowS (belowS (belowS B5.out HB.out 3 (.int .i64 0)) HB.out 12 (.string ⟨#[]⟩)) HB.out 16 (.slice none 0 0)) HB.out 14 (.slice none 0 0))⟩
    go_upto_region 31 with (fail)
    refine wp_region_lit ?_
    refine ops_same rfl (v := .bool true) (fun w => by simp only [execOp]; go_simp) ?_
    simp only [Act.put, List.setIfInBounds_toArray, List.set_cons_succ, List.set_cons_zero]
    refine ops_same rfl (v := .bool true) (fun w => by simp only [execOp]; go_simp) ?_
    simp only [Act.put, List.setIfInBounds_toArray, List.set_cons_succ, List.set_cons_zero]
    refine ops_val rfl (v := .agg (mgCs ({ m with e := 0, s := 0, t := ⟨#[]⟩, lk := [], sg := [] }) a1 n1 c1 none 0 0 a3 n3 c3 none 0 0).toArray) (load_row _ _ (.tmp 3) Try.underlying145 rfl (by rw [List.size_toArray]; exact info_rest) rfl rfl ((blk_set (blk_set (blk_set (blk_set K5.out 3 (.int .i64 0)) 12 (.string ⟨#[]⟩)) 16 (.slice none 0 0)) 14 (.slice none 0 0)).trans (by simp only [mgCs, zeroRq, List.setIfInBounds_toArray, List.set_cons_succ, List.set_cons_zero]; rfl))) ?_
    simp only [Act.put, List.setIfInBounds_toArray, List.set_cons_succ, List.set_cons_zero]
    have BF := Lib.hid (belowS (belowS (belowS (belowS B5.out HB.out 3 (.int .i64 0)) HB.out 12 (.string ⟨#[]⟩)) HB.out 16 (.slice none 0 0)) HB.out 14 (.slice none 0 0))
    have HR2 := Lib.hid (show R = emptyB ({ m with e := 0, s := 0, t := ⟨#[]⟩, lk := [], sg := [] }) by rw [HR.out, ok_10 HOK.out, ← HS.out, ← HT.out, Bool.and_comm (decide _) (linksB _ _), hT1, hT2, hT3, hT4]; rfl)
    have hmi := HM.out.old BF.out
    have CE := Lib.hid (empty_any ({ m with e := 0, s := 0, t := ⟨#[]⟩, lk := [], sg := [] }) a1 n1 c1 none 0 0 a3 n3 c3 none 0 0 _ ⟨hmi.k, z64, hmi.v, z64, hmi.q, hmi.c, hmi.r, (show (⟨#[]⟩ : ByteArray).size ≤ 140737488351232 by decide), hmi.nx, sl_nil, hmi.ch, sl_nil⟩)
    clear hmi
    go_wp2_with fail
    refine CE.out.mono ?_
    rintro r wz ⟨rfl, bz⟩
    have BZ := Lib.hid (bthen BF.out bz)
    clear bz
    go_wp2_with fail
    go_ret
    exact ⟨by rw [HR2.out]; rfl, BZ.out⟩
  by_cases hk : 1 ≤ m.k ∧ m.k ≤ 10
  · exact absurd hk (by omega)
  have hr : R = false := by rw [HR.out]; exact ok_no (fun j h1 h2 hj => hk (by omega))
  have e2 : (m.k == 2) = false := by rw [beqZ]; exact decide_eq_false (by omega)
  have e3 : (m.k == 3) = false := by rw [beqZ]; exact decide_eq_false (by omega)
  have e4 : (m.k == 4) = false := by rw [beqZ]; exact decide_eq_false (by omega)
  have e5 : (m.k == 5) = false := by rw [beqZ]; exact decide_eq_false (by omega)
  have e6 : (m.k == 6) = false := by rw [beqZ]; exact decide_eq_false (by omega)
  have e7 : (m.k == 7) = false := by rw [beqZ]; exact decide_eq_false (by omega)
  have e8 : (m.k == 8) = false := by rw [beqZ]; exact decide_eq_false (by omega)
  have e9 : (m.k == 9) = false := by rw [beqZ]; exact decide_eq_false (by omega)
  have e10 : (m.k == 10) = false := by rw [beqZ]; exact decide_eq_false (by omega)
  have e1 : (m.k == 1) = false := by rw [beqZ]; exact decide_eq_false (by omega)
  clear hk hk1 hk9 hk2 hk3 hk4 hk5 hk6 hk7 hk8 hk10
  go_wp2_with fail
  go_ret
  exact ⟨by first | rfl | (rw [hr]; rfl), B4.out⟩
end Go.Proofs.Ytijeieamodjgbab
