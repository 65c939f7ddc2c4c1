
/- Wire: walk of Read, with its deferred closure. -/
import Derived.Test.YtijeieamodjgbaaGreatWv
import Derived.Test.YtijeieamodjgbaaGreatSca

namespace Go.Proofs.YtijeieamodjgbaaGreat
set_option maxRecDepth 100000
open Go.RowKit Go.Deep
set_option linter.unusedVariables false
set_option linter.unusedSimpArgs false
attribute [local go_sem] run_store_float

theorem st_var13 {P : Program} {T t : TypeId} {n : Nat} (hs : ∀ w, (sizeOf T).run P w = .ok n w) {w : World} {b : Nat} {cur : Array Value} (vs : List Value) (h : w.heap[b]? = some (.cells cur t (0, 0))) (hl : cur.size = n) (hv : vs.length = n) (h1 : ∀ u ∈ vs, u.oneCell' = true) :
    (storeVar T ⟨b, 0, none⟩ (.agg vs.toArray)).run P w = .ok () (w.setCells b 0 vs) := by
  have hst := run_storeCells_cells (P := P) b 0 vs 0 w (fun j hj => by rw [blk_cell h, Option.isSome_iff_exists]; exact ⟨_, Array.getElem?_eq_getElem (by omega)⟩) (fun j hj => blk_frozen h _) h1
  simp only [Nat.add_zero] at hst
  have hc : (Value.agg vs.toArray).cells = vs.toArray := rfl
  have hn : ¬ (Value.agg vs.toArray).cells.size ≠ n := by rw [hc]; simp [hv]
  simp only [storeVar, Sem.run_bind, hs, Result.andThen_ok, hc, List.size_toArray, hv, ne_eq, not_true_eq_false, if_false, Sem.run_pure]
  exact hst
theorem assert_none13 (w : World) : (Instr.typeAssert Value.nilIface 20 66 true).run Tryz.prog w = .ok (.tuple #[.agg #[], .bool false]) w := by kernel_rfl
theorem assert_some13 (w : World) : (Instr.typeAssert (.iface 66 (.agg #[])) 20 66 true).run Tryz.prog w = .ok (.tuple #[.agg #[], .bool true]) w := by kernel_rfl
theorem catch13_idle (p q : Addr) (w : World) :
    CallsD Tryz.prog 27 #[.pointer (some p), .pointer (some q)] .returning w fun e u' w' => e = .returned (.tuple #[]) ∧ u' = .returning ∧ Below w.heap.size w w' := by
  refine callsD_of_wpS Tryz.func27 rfl fun c₀ cs hu => ?_
  apply wpS_seq
  apply wpS_region
  simp [wpOpsS, go_sem, recoverD, hu, Tryz.ntmps27, Exit.thenS, assert_none13]
  have hb := below_alloc w (.cells #[] 66)
  generalize w.alloc (.cells #[] 66) = w1 at *
  apply wpS_seq
  apply wpS_region
  simp [wpOpsS, go_sem, Exit.thenS]
  refine wpS_cond (t := false) (by simp [Act.eval, Array.replicate]) ?_
  simp only [Bool.false_eq_true, if_false]
  refine wpS_of_wp (wp_skip ?_)
  cases c₀
  simp_all [bodyPostS, results, Tryz.results27]
theorem catch13_pan (P Q : Nat) (cur : List Value) (u : Value) (older : List PanicEntry) (w : World) (hp : w.heap[P]? = some (.cells cur.toArray 35 (0, 0))) (hl : cur.length = 17) (hq : w.heap[Q]? = some (.cells #[u] 36 (0, 0))) (hne : ¬ P = Q) :
    CallsD Tryz.prog 27 #[.pointer (some ⟨P, 0, none⟩), .pointer (some ⟨Q, 0, none⟩)] (.panicking ({ v := .iface 66 (.agg #[]), recovered := false } :: older)) w fun e u' w' =>
      e = .returned (.tuple #[]) ∧ u' = .panicking ({ v := .iface 66 (.agg #[]), recovered := true } :: older) ∧ w'.heap[P]? = some (.cells zeroMg.toArray 35 (0, 0)) ∧ w'.heap[Q]? = some (.cells #[.int .i64 5] 36 (0, 0)) ∧ Keep (fun k => k = P ∨ k = Q) w w' := by
  refine callsD_of_wpS Tryz.func27 rfl fun c₀ cs hu => ?_
  apply wpS_seq
  apply wpS_region
  simp [wpOpsS, go_sem, recoverD, hu, Tryz.ntmps27, Exit.thenS, assert_some13]
  have hb := below_alloc w (.cells #[] 66)
  generalize w.alloc (.cells #[] 66) = w1 at *
  have hp1 := blk_below hp hb
  have hq1 := blk_below hq hb
  obtain ⟨w2, hw2⟩ : ∃ w2, w2 = w1.setCells P 0 zeroMg := ⟨_, rfl⟩
  have hp2 : w2.heap[P]? = some (.cells zeroMg.toArray 35 (0, 0)) := by rw [hw2]; have := sets_blk zeroMg w1 [] cur hp1 hl; simpa using this
  have hk2 : Keep (fun k => k = P ∨ k = Q) w1 w2 := by rw [hw2]; exact keep_sets (X := fun k => k = P ∨ k = Q) (.inr (.inl rfl)) _ (Keep.refl _ _)
  have hk2' : Keep (fun k => k = P) w1 w2 := by rw [hw2]; exact keep_sets (X := fun k => k = P) (.inr rfl) _ (Keep.refl _ _)
  have hq2 := (hk2'.block Q (blk_lt hq1) (fun h => hne h.symm)).trans hq1
  have hst : (storeVar 35 ⟨P, 0, none⟩ (.agg zeroMg.toArray)).run Tryz.prog w1 = .ok () w2 := by rw [hw2]; exact st_var13 (n := 17) (fun w => by kernel_rfl) zeroMg hp1 (by simpa using hl) rfl (by decide)
  rw [zeroMg_row] at hst
  have c1 : w2.cell? ⟨Q, 0, none⟩ = some u := by rw [blk_cell hq2]; rfl
  have c2 : w2.frozen? ⟨Q, 0, none⟩ = false := blk_frozen hq2 0
  apply wpS_seq
  apply wpS_region
  simp [wpOpsS, go_sem, Exit.thenS]
  refine wpS_cond (t := true) (by simp [Act.eval, Array.replicate]) ?_
  simp only [if_true]
  apply wpS_region
  have hbd : ∀ w, (Instr.build 35 #[]).run Tryz.prog w = Result.ok (.agg zeroMg.toArray) w := fun w => by kernel_rfl
  rw [zeroMg_row] at hbd
  have hst' := hst
  simp [go_sem] at hst'
  clear hst
  simp [wpOpsS, go_sem, Exit.thenS, hbd]
  simp only [hst', Result.andThen_ok]
  simp [go_sem, c1, c2]
  simp [bodyPostS, results, Tryz.results27]
  exact ⟨blk_set_other hp2 Q 0 _ hne, by rw [blk_set hq2 0 _]; rfl, Keep.set ((Keep.of_below (X := fun k => k = P ∨ k = Q) hb).trans hk2 (fun _ _ h => h)) (.inr (.inr rfl)) 0 _⟩

/-- The message that a text is read as, and the error. -/
def zeroM : Mg := ⟨0, 0, 0, 0, zeroRq, 0, 0, ⟨#[]⟩, [], [], [], []⟩
def rdErr13 (t : ByteArray) : Int := if 65536 < t.size then 3 else if (readMg t.data.toList).isSome = true then 0 else 5
def rdMsg13 (t : ByteArray) : Mg := if 65536 < t.size then zeroM else (readMg t.data.toList).getD zeroM
theorem zeroM_at (w : World) : shMsg.E w zeroM zeroMg := msg_make ⟨z64, z64, z64, z64, zeroRq_ok, z64, (show (0 : Nat) < 18446744073709551616 by decide), (show (⟨#[]⟩ : ByteArray).size ≤ 140737488351232 by decide), sl_nil, sl_nil, sl_nil, sl_nil⟩
/-- What Read answers. -/
def ReadP13 (w : World) (t : ByteArray) (e : Ending) (w' : World) : Prop :=
  Below w.heap.size w w' ∧ ∃ cs, e = .returned (.tuple #[.agg cs.toArray, .int .i64 (rdErr13 t)]) ∧ Rob (fun k => k < w.heap.size) (fun u => shMsg.E u (rdMsg13 t) cs) w'
theorem read_res (tmps : Array Value) (P Q : Nat) (cs : List Value) (n : Int) (w : World) (h2 : tmps[2]?.getD undef = .pointer (some ⟨P, 0, none⟩)) (h3 : tmps[3]?.getD undef = .pointer (some ⟨Q, 0, none⟩)) (hp : w.heap[P]? = some (.cells cs.toArray 35 (0, 0))) (hl : cs.length = 17) (hq : w.heap[Q]? = some (.cells #[.int .i64 n] 36 (0, 0))) :
    (results Tryz.f6 tmps).run Tryz.prog w = .ok (.tuple #[.agg cs.toArray, .int .i64 n]) w := by
  have hld := run_loadVar_row (P := Tryz.prog) w P 35 35 cs.toArray (0, 0) _ hp Tryz.underlying35 rfl (by rw [List.size_toArray, hl]; kernel_rfl)
  have hc : w.cell? ⟨Q, 0, none⟩ = some (.int .i64 n) := by rw [blk_cell hq]; rfl
  have hlq : (loadVar 36 ⟨Q, 0, none⟩).run Tryz.prog w = .ok (.int .i64 n) w := by simp [go_sem, hc]
  generalize (Value.agg cs.toArray) = V at *
  simp [results, Tryz.results6, asAddr, h2, h3, hld, hlq]
set_option maxHeartbeats 4000000 in
theorem read13_any (text : ByteArray) (w : World) (hts : text.size ≤ 1125899906842624) :
    Calls Tryz.prog 6 #[.string text] w (ReadP13 w text) := by
  have hmf : ∀ (fn : Fn) (first cap : Array Value) (w : World), (Instr.makeFunc fn first cap).run Tryz.prog w = .ok (.func fn first cap) w := fun _ _ _ _ => rfl
  obtain ⟨w1, hw1⟩ : ∃ u, u = w.alloc (.cells zeroMg.toArray 35 (0, 0)) := ⟨_, rfl⟩
  obtain ⟨w2, hw2⟩ : ∃ u, u = w1.alloc (.cells #[.int .i64 0] 36 (0, 0)) := ⟨_, rfl⟩
  have b1 : Below w.heap.size w w1 := by rw [hw1]; exact below_alloc _ _
  have hz1 : w1.heap.size = w.heap.size + 1 := by rw [hw1]; simp
  have b2 : Below w1.heap.size w1 w2 := by rw [hw2]; exact below_alloc _ _
  have K1 := Lib.hid (show w2.heap[w.heap.size]? = some (.cells zeroMg.toArray 35 (0, 0)) from blk_below (by rw [hw1]; exact blk_alloc _ _) b2)
  have K2 := Lib.hid (show w2.heap[w.heap.size + 1]? = some (.cells #[.int .i64 0] 36 (0, 0)) by rw [← hz1, hw2]; exact blk_alloc _ _)
  have B2 := Lib.hid (bthen b1 b2)
  rw [zeroMg_row] at hw1
  clear b1 b2 hz1
  by_cases hlong : 65536 < text.size
  · have hd : decide ((65536 : Int) < (text.size : Int)) = true := by simp; omega
    have HE := Lib.hid (show rdErr13 text = 3 ∧ rdMsg13 text = zeroM by unfold rdErr13 rdMsg13; rw [if_pos hlong, if_pos hlong]; exact ⟨rfl, rfl⟩)
    clear hlong
    go_enter_defers Tryz.func6, Tryz.ntmps6
    go_upto_region 1 with (fail)
    rw [← hw1, ← hw2]
    clear hw1 hw2
    go_upto_region 2 with (fail)
    refine wp_region_lit ?_
    refine ops_val rfl (w' := w2) (v := .agg zeroMg.toArray) (load_row _ _ (.tmp 2) Tryz.underlying35 rfl (by rw [List.size_toArray]; exact info_mg) rfl rfl K1.out) ?_
    simp only [Act.put, List.setIfInBounds_toArray, List.set_cons_succ, List.set_cons_zero]
    refine wpList_store_mid rfl 35 (.tmp 2) (.tmp 7) rfl w.heap.size 0 zeroMg.toArray rfl rfl (fun j hj => ⟨by rw [blk_cell K1.out, Option.isSome_iff_exists]; exact ⟨_, Array.getElem?_eq_getElem (by simpa using hj)⟩, blk_frozen K1.out _⟩) (by rw [List.size_toArray]; exact info_mg) (by simp [zeroMg, Value.oneCell']) ?_
    obtain ⟨w3, hw3⟩ : ∃ u, u = World.setCells w2 w.heap.size 0 zeroMg.toArray.toList := ⟨_, rfl⟩
    have k3 : w3.heap[w.heap.size]? = some (.cells zeroMg.toArray 35 (0, 0)) := by rw [hw3]; have := sets_blk zeroMg w2 [] zeroMg K1.out rfl; simpa using this
    have KW : Keep (fun k => k = w.heap.size) w2 w3 := by rw [hw3]; exact keep_sets (X := fun k => k = w.heap.size) (.inr rfl) _ (Keep.refl _ _)
    have kq3 := (KW.block _ (blk_lt K2.out) (by omega)).trans K2.out
    have B3 := Lib.hid (Keep.below B2.out KW (fun k hk => by omega))
    rw [← hw3]
    clear hw3 KW
    have q0 : w3.cell? ⟨w.heap.size + 1, 0, none⟩ = some (.int .i64 0) := by rw [blk_cell kq3]; rfl
    have q1 : w3.frozen? ⟨w.heap.size + 1, 0, none⟩ = false := blk_frozen kq3 0
    have K4 := Lib.hid (blk_set_other k3 (w.heap.size + 1) 0 (.int .i64 3) (by omega))
    have K5 := Lib.hid (blk_set kq3 0 (.int .i64 3))
    have B4 := Lib.hid (show Below w.heap.size w (w3.setCell ⟨w.heap.size + 1, 0, none⟩ (.int .i64 3)) from B3.out.setCell (by show w.heap.size ≤ w.heap.size + 1; omega) _)
    simp only [Act.put, List.setIfInBounds_toArray, List.set_cons_succ, List.set_cons_zero]
    clear k3 kq3
    go_wp2_with fail
    refine ⟨_, read_res _ w.heap.size (w.heap.size + 1) zeroMg 3 _ rfl rfl K4.out rfl K5.out, B4.out, zeroMg, by rw [HE.out.1], fun u hu => by rw [HE.out.2]; exact zeroM_at u⟩
  · have hd : decide ((65536 : Int) < (text.size : Int)) = false := by simp; omega
    have HE := Lib.hid (show rdErr13 text = (if (readMg text.data.toList).isSome = true then 0 else 5) ∧ rdMsg13 text = (readMg text.data.toList).getD zeroM by unfold rdErr13 rdMsg13; rw [if_neg hlong, if_neg hlong]; exact ⟨rfl, rfl⟩)
    have hts2 : text.size ≤ 140737488351232 := by omega
    clear hlong
    go_enter_defers Tryz.func6, Tryz.ntmps6
    go_upto_region 1 with (fail)
    rw [← hw1, ← hw2]
    clear hw1 hw2
    go_wp2_with fail
    refine (read_any text w2 hts2).mono ?_
    rintro e w3 ⟨rfl, hr3, b3⟩
    have hsz2 := blk_lt K2.out
    have R3 := Lib.hid hr3
    have K13 := Lib.hid (blk_below K1.out b3)
    have K23 := Lib.hid (blk_below K2.out b3)
    have B3 := Lib.hid (bthen B2.out b3)
    generalize w2.heap.size = p at *
    have CMs := Lib.hid (rmsg_any p text text.data.toList w3 R3.out)
    clear hr3 b3
    go_wp2_with fail
    refine CMs.out.mono ?_
    rintro e w4 ⟨ho4, h4⟩
    have hp3 := prd_lt R3.out
    have K14 := (ho4.block _ (blk_lt K13.out) (by omega)).trans K13.out
    have K24 := (ho4.block _ (blk_lt K23.out) (by omega)).trans K23.out
    have B4 := Keep.below B3.out ho4 (fun k hk => by omega)
    rcases h4 with ⟨rfl, hnone⟩ | ⟨m, cs, rfl, hsome, hE⟩
    · refine leaves_cons (f := 27) (args := #[.pointer (some ⟨w.heap.size, 0, none⟩), .pointer (some ⟨w.heap.size + 1, 0, none⟩)]) (by simp) (by simp [go_sem]) ?_
      refine (catch13_pan w.heap.size (w.heap.size + 1) zeroMg (.int .i64 0) [] w4 K14 rfl K24 (by omega)).mono ?_
      rintro e u' w5 ⟨rfl, rfl, h1, h2, h3⟩
      exact ⟨_, read_res _ w.heap.size (w.heap.size + 1) zeroMg 5 _ rfl rfl h1 rfl h2, Keep.below B4 h3 (fun k hk => by omega), zeroMg, by rw [HE.out.1, hnone]; rfl, fun u hu => by rw [HE.out.2, hnone]; exact zeroM_at u⟩
    · obtain ⟨a1, n1, c1, a2, n2, c2, a3, n3, c3, a4, n4, c4, rfl, hmi⟩ := msg_open hE.self
      have HEE := Lib.hid hE
      have HEM := Lib.hid (show rdErr13 text = 0 ∧ rdMsg13 text = m by rw [HE.out.1, HE.out.2, hsome]; exact ⟨rfl, rfl⟩)
      clear hE hmi hsome
      rename_i hK
      refine hK _ _ ?_
      clear hK
      refine wpList_store_mid rfl 35 (.tmp 2) (.tmp 12) rfl w.heap.size 0 (mgCs m a1 n1 c1 a2 n2 c2 a3 n3 c3 a4 n4 c4).toArray rfl rfl (fun j hj => ⟨by rw [blk_cell K14, Option.isSome_iff_exists]; exact ⟨_, Array.getElem?_eq_getElem (by simp only [Nat.zero_add]; exact hj)⟩, blk_frozen K14 _⟩) (by rw [List.size_toArray]; exact info_mg) (mg_one m a1 n1 c1 a2 n2 c2 a3 n3 c3 a4 n4 c4) ?_
      obtain ⟨w5, hw5⟩ : ∃ u, u = World.setCells w4 w.heap.size 0 (mgCs m a1 n1 c1 a2 n2 c2 a3 n3 c3 a4 n4 c4).toArray.toList := ⟨_, rfl⟩
      have k5 : w5.heap[w.heap.size]? = some (.cells (mgCs m a1 n1 c1 a2 n2 c2 a3 n3 c3 a4 n4 c4).toArray 35 (0, 0)) := by rw [hw5]; have := sets_blk (mgCs m a1 n1 c1 a2 n2 c2 a3 n3 c3 a4 n4 c4) w4 [] zeroMg K14 rfl; simpa using this
      have KW : Keep (fun k => k = w.heap.size) w4 w5 := by rw [hw5]; exact keep_sets (X := fun k => k = w.heap.size) (.inr rfl) _ (Keep.refl _ _)
      have kq5 := (KW.block _ (blk_lt K24) (by omega)).trans K24
      have B5 := Keep.below B4 KW (fun k hk => by omega)
      rw [← hw5]
      clear hw5
      have q0 : w5.cell? ⟨w.heap.size + 1, 0, none⟩ = some (.int .i64 0) := by rw [blk_cell kq5]; rfl
      have q1 : w5.frozen? ⟨w.heap.size + 1, 0, none⟩ = false := blk_frozen kq5 0
      have K6 := Lib.hid (blk_set_other k5 (w.heap.size + 1) 0 (.int .i64 0) (by omega))
      have K7 := Lib.hid (blk_set kq5 0 (.int .i64 0))
      have B6 := Lib.hid (show Below w.heap.size w (w5.setCell ⟨w.heap.size + 1, 0, none⟩ (.int .i64 0)) from B5.setCell (by show w.heap.size ≤ w.heap.size + 1; omega) _)
      have E6 := Lib.hid (HEE.out.step (X' := fun k => k < w.heap.size) (Keep.set (keep_mono14 (Y := fun k => k = w.heap.size ∨ k = w.heap.size + 1) KW (fun k h => .inl h)) (.inr (.inr rfl)) 0 (.int .i64 0)) (fun k _ hk => by show k < w3.heap.size; omega) (fun k _ hk => by show k < w3.heap.size; omega))
      simp only [Act.put, List.setIfInBounds_toArray, List.set_cons_succ, List.set_cons_zero]
      clear k5 kq5 KW B5 K14 K24 B4 ho4
      go_wp2_with fail
      refine leaves_cons (f := 27) (args := #[.pointer (some ⟨w.heap.size, 0, none⟩), .pointer (some ⟨w.heap.size + 1, 0, none⟩)]) (by simp) (by simp [go_sem]) ?_
      refine (catch13_idle _ _ _).mono ?_
      rintro e u' w7 ⟨rfl, rfl, b7⟩
      exact ⟨_, read_res _ w.heap.size (w.heap.size + 1) (mgCs m a1 n1 c1 a2 n2 c2 a3 n3 c3 a4 n4 c4) 0 _ rfl rfl (blk_below K6.out b7) rfl (blk_below K7.out b7), bthen B6.out b7, _, by rw [HEM.out.1], by rw [HEM.out.2]; exact E6.out.step (X' := fun k => k < w.heap.size) (Keep.of_below (X := fun _ => False) b7) (fun _ _ h => h.elim) (fun _ _ h => h)⟩
end Go.Proofs.YtijeieamodjgbaaGreat
