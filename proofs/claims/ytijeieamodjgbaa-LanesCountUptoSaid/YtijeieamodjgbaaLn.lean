
/- Lanes: a lane that isn't there; a packet of who isn't bad; lives of witanlaw20; readings. -/
import Derived.Test.YtijeieamodjgbaaLc
import Derived.Great.Walk
namespace Go.Proofs.Ytijeieamodjgbaa
set_option maxRecDepth 100000
open Go.RowKit Go.Deep
attribute [local irreducible] wpQuiet
set_option linter.unusedVariables false
set_option linter.unusedSimpArgs false
attribute [local go_sem] run_store_float

set_option maxHeartbeats 400000 in
theorem send_nil20 (a : Option Addr) (n c : Nat) (w : World) : Calls Try.prog 23 #[.pointer none, .slice a n c] w fun r w' => r = .returned (.tuple #[]) ∧ w = w' := by
  go_enter Try.func23, Try.ntmps23
  go_wp2_with fail
  refine bodyPost_ret (results_none rfl _ _ _) rfl ?_
  exact ⟨rfl, rfl⟩
set_option maxHeartbeats 400000 in
theorem len_nil20 (w : World) : Calls Try.prog 27 #[.pointer none] w fun r w' => r = .returned (.int .i64 0) ∧ w = w' := by
  go_enter Try.func27, Try.ntmps27
  go_wp2_with fail
  go_ret
  exact ⟨rfl, rfl⟩
set_option maxHeartbeats 400000 in
theorem copy_nil20 (n : Int) (w : World) : Calls Try.prog 24 #[.pointer none, .int .i64 n] w fun r w' => r = .returned (.bool false) ∧ w = w' := by
  go_enter Try.func24, Try.ntmps24
  go_wp2_with fail
  refine (laneat_nil n w).mono ?_
  rintro r w' ⟨rfl, rfl⟩
  go_wp2_with fail
  go_ret
  exact ⟨rfl, rfl⟩
theorem zeroPk_row : zeroPk.toArray = #[.int .i64 0, .int .i64 0, .int .i64 0, .int .i64 0, .int .i64 0, .int .i64 0, .int .i64 0, .int .i64 0, .int .i64 0, .string ⟨#[]⟩, .float .f64 0, .int .i64 0, .int .i64 0, .float .f64 0, .string ⟨#[]⟩, .slice none 0 0, .slice none 0 0, .slice none 0 0, .slice none 0 0] := rfl
set_option maxHeartbeats 1000000 in
theorem take_nil20 (n : Int) (w : World) : Calls Try.prog 25 #[.pointer none, .int .i64 n] w fun r w' => r = .returned (.tuple #[.agg zeroPk.toArray, .bool false]) ∧ Below w.heap.size w w' := by
  obtain ⟨w1, hw1⟩ : ∃ w1, w1 = w.alloc (.cells zeroPk.toArray 56 (0, 0)) := ⟨_, rfl⟩
  have b1 : Below w.heap.size w w1 := by rw [hw1]; exact below_alloc _ _
  have kz : w1.heap[w.heap.size]? = some (.cells zeroPk.toArray 56 (0, 0)) := by rw [hw1]; exact blk_alloc _ _
  have hth : w1.there w.heap.size 0 zeroPk.toArray.size := fun j hj => ⟨by rw [blk_cell kz, Option.isSome_iff_exists]; exact ⟨_, Array.getElem?_eq_getElem (by simpa using hj)⟩, blk_frozen kz _⟩
  obtain ⟨w9, hw9⟩ : ∃ u, u = w1.setCells w.heap.size 0 zeroPk.toArray.toList := ⟨_, rfl⟩
  have K9 : w9.heap[w.heap.size]? = some (.cells zeroPk.toArray 56 (0, 0)) := by rw [hw9]; exact blk_sets zeroPk.toArray.toList w1 [] zeroPk kz rfl
  have B9 : Below w.heap.size w w9 := by rw [hw9]; exact sets_below (Nat.le_refl _) _ b1
  have hinfo2 : (Try.prog.info? 56).map (·.size) = some zeroPk.toArray.size := by kernel_rfl
  have hone2 : zeroPk.toArray.all (·.oneCell') = true := by simp [zeroPk, Value.oneCell']
  go_enter Try.func25, Try.ntmps25
  go_upto_region 1 with (fail)
  rw [← zeroPk_row, ← hw1]
  clear hw1
  go_wp2_with fail
  refine (laneat_nil n w1).mono ?_
  rintro r w' ⟨rfl, rfl⟩
  go_upto_region 3 with (fail)
  refine wp_region_lit ?_
  refine wpList_val (w' := w1) rfl (v := .agg zeroPk.toArray) (by simp only [execOp, zeroPk_row]; go_simp) ?_
  refine wpList_store_mid rfl 56 (.tmp 4) (.tmp 17) rfl w.heap.size 0 zeroPk.toArray rfl rfl hth hinfo2 hone2 ?_
  rw [← hw9]
  simp only [Act.put, List.setIfInBounds_toArray, List.set_cons_succ, List.set_cons_zero]
  clear hw9 hth kz
  go_wp2_with fail
  have hld := run_loadVar_row (P := Try.prog) w9 w.heap.size 56 56 zeroPk.toArray (0, 0) _ K9 Try.underlying56 rfl hinfo2
  exact bodyPost_ret (v := .tuple #[.agg zeroPk.toArray, .bool false]) (by simp [results, Try.results25, asAddr, hld]) rfl ⟨rfl, B9⟩
theorem wpList_gval {P : Program} {ops : Array Oper} {rest : List Oper} {o : Oper} {a : Act} {w w' : World} {Q : Exit → Act → World → Prop} {v : Value} (hw : Region.wanted o (yielded ops a.tmps) = true) (hrun : (execOp a.eval o).run P w = .ok (.value v) w') (h : wpList P ops Q rest (a.put o.dst v) w') : wpList P ops Q (o :: rest) a w :=
  wpList_step fun K hK => by
    rw [if_pos hw]
    unfold Oper.wp
    rw [hrun]
    exact hK _ _ h
theorem load_pk (ρ : Operand → Value) (o : Oper) (x : Operand) {b : Nat} {cs : Array Value} {w : World} (ho : o.op = .load 56 x) (hx : ρ x = .pointer (some ⟨b, 0, none⟩)) (hk : w.heap[b]? = some (.cells cs 56 (0, 0))) (hs : cs.size = 19) : (execOp ρ o).run Try.prog w = .ok (.value (.agg cs)) w := by
  have hinfo : (Try.prog.info? 56).map (·.size) = some cs.size := by rw [hs]; kernel_rfl
  have hld := run_loadVar_row (P := Try.prog) w b 56 56 cs (0, 0) _ hk Try.underlying56 rfl hinfo
  unfold execOp
  simp only [ho, hx, Instr.loadAt, Instr.sureAddr, Sem.run_bind, Sem.run_pure, Result.andThen_ok, hld]
theorem alloc_pk (ρ : Operand → Value) (o : Oper) (ho : o.op = .alloc 56) (w : World) : (execOp ρ o).run Try.prog w = .ok (.value (.pointer (some ⟨w.heap.size, 0, none⟩))) (w.alloc (.cells zeroPk.toArray 56 (0, 0))) := by
  rw [zeroPk_row]
  simp only [execOp, ho]
  go_simp
theorem wpList_boxpk {ops : Array Oper} {rest : List Oper} {o1 o2 : Oper} {a : Act} {w : World} {Q : Exit → Act → World → Prop} (hg1 : o1.guard = none) (hg2 : o2.guard = none) (x y : Operand) (ho1 : o1.op = .alloc 56) (ho2 : o2.op = .store 56 x y)
    (cs : List Value) (hl : cs.length = 19) (h1 : cs.toArray.all (·.oneCell') = true)
    (hx : (a.put o1.dst (.pointer (some ⟨w.heap.size, 0, none⟩))).eval x = .pointer (some ⟨w.heap.size, 0, none⟩)) (hy : (a.put o1.dst (.pointer (some ⟨w.heap.size, 0, none⟩))).eval y = .agg cs.toArray)
    (h : ∀ w', Below w.heap.size w w' → w'.heap[w.heap.size]? = some (.cells cs.toArray 56 (0, 0)) → w'.heap.size = w.heap.size + 1 → wpList Try.prog ops Q rest ((a.put o1.dst (.pointer (some ⟨w.heap.size, 0, none⟩))).put o2.dst undef) w') :
    wpList Try.prog ops Q (o1 :: o2 :: rest) a w := by
  refine wpList_val (w' := w.alloc (.cells zeroPk.toArray 56 (0, 0))) hg1 (alloc_pk a.eval o1 ho1 w) ?_
  have b1 : Below w.heap.size w (w.alloc (.cells zeroPk.toArray 56 (0, 0))) := below_alloc _ _
  have hz1 : (w.alloc (.cells zeroPk.toArray 56 (0, 0))).heap.size = w.heap.size + 1 := by simp
  have k1 : (w.alloc (.cells zeroPk.toArray 56 (0, 0))).heap[w.heap.size]? = some (.cells zeroPk.toArray 56 (0, 0)) := blk_alloc _ _
  generalize w.alloc (.cells zeroPk.toArray 56 (0, 0)) = w1 at b1 hz1 k1 ⊢
  have hz19 : zeroPk.length = 19 := rfl
  have hinfo : (Try.prog.info? 56).map (·.size) = some 19 := by kernel_rfl
  refine wpList_store_mid hg2 56 x y ho2 w.heap.size 0 cs.toArray hx hy (fun j hj => ⟨?_, ?_⟩) (by rw [List.size_toArray, hl]; exact hinfo) h1 ?_
  · have : j < 19 := by simpa [hl] using hj
    rw [blk_cell k1, Option.isSome_iff_exists, Nat.zero_add]
    exact ⟨_, Array.getElem?_eq_getElem (by simpa [hz19] using this)⟩
  · exact blk_frozen k1 _
  · exact h _ (sets_below (Nat.le_refl _) _ b1) (by have := blk_sets cs w1 [] zeroPk k1 (by rw [hz19, hl]); simpa using this) (by rw [sets_size, hz1])
set_option maxHeartbeats 1000000 in
theorem drop_nil20 (n : Int) (w : World) : Calls Try.prog 31 #[.pointer none, .int .i64 n] w fun r w' => r = .returned (.bool false) ∧ Below w.heap.size w w' := by
  go_enter Try.func31, Try.ntmps31
  go_wp2_with fail
  refine (take_nil20 n w).mono ?_
  rintro r w1 ⟨rfl, b1⟩
  rename_i hK
  refine hK _ _ ?_
  clear hK
  refine wpList_val (w' := w1) rfl (v := .tuple #[.agg zeroPk.toArray, .bool false]) (by simp only [execOp]; go_simp) ?_
  simp only [Act.put, List.setIfInBounds_toArray, List.set_cons_succ, List.set_cons_zero]
  refine wpList_val (w' := w1) rfl (v := .agg zeroPk.toArray) (by simp only [execOp]; go_simp) ?_
  refine wpList_val (w' := w1) rfl (v := .bool false) (by simp only [execOp]; go_simp) ?_
  simp only [Act.put, List.setIfInBounds_toArray, List.set_cons_succ, List.set_cons_zero]
  refine wpList_boxpk rfl rfl (.tmp 5) (.tmp 11) rfl rfl zeroPk rfl (by simp [zeroPk, Value.oneCell']) rfl rfl fun w2 b2 _ _ => ?_
  have b12 : Below w.heap.size w w2 := bthen b1 b2
  simp only [Act.put, List.setIfInBounds_toArray, List.set_cons_succ, List.set_cons_zero]
  clear b1 b2
  go_wp2_with fail
  go_ret
  exact ⟨rfl, b12⟩
set_option maxHeartbeats 1000000 in
theorem inject_nil20 (cs : Array Value) (w : World) : Calls Try.prog 29 #[.pointer none, .agg cs] w fun r w' => r = .returned (.int .i64 1) ∧ Below w.heap.size w w' := by
  obtain ⟨w1, hw1⟩ : ∃ w1, w1 = w.alloc (.cells cs 56 (0, 0)) := ⟨_, rfl⟩
  have b1 : Below w.heap.size w w1 := by rw [hw1]; exact below_alloc _ _
  go_enter Try.func29, Try.ntmps29
  go_upto_region 1 with (fail)
  rw [← hw1]
  clear hw1
  go_quiet (fail)
  go_wp2_with fail
  go_ret
  exact ⟨rfl, bthen b1 (below_drewN _ _)⟩
set_option maxHeartbeats 1000000 in
theorem inject_no20 (W : Nat) (M : Nat → Prop) (p : Nat) (bad : List Int) (row : List Pk) (book : List Sg) (NB : Nat) (cs : Array Value) (fr : Int) (w : World) (h : Ln W M w p bad row book NB) (hc : cs[0]? = some (.int .i64 fr)) (hb : hasB bad fr = false) :
    Calls Try.prog 29 #[.pointer (some ⟨p, 0, none⟩), .agg cs] w fun r w' => r = .returned (.int .i64 1) ∧ Below w.heap.size w w' := by
  obtain ⟨w1, hw1⟩ : ∃ w1, w1 = w.alloc (.cells cs 56 (0, 0)) := ⟨_, rfl⟩
  have b1 : Below w.heap.size w w1 := by rw [hw1]; exact below_alloc _ _
  have k1 : w1.cell? ⟨w.heap.size, 0, none⟩ = some (.int .i64 fr) := by rw [hw1, blk_cell (blk_alloc _ _)]; exact hc
  have z1 : w.heap.size < w1.heap.size := by rw [hw1]; simp
  obtain ⟨ba, bn, bc, a, c, pb, hp, hbd, hrw⟩ := (h.old b1).view
  have x1 : w1.cell? ⟨p, 0, none⟩ = some (.slice ba bn bc) := by rw [blk_cell hp]; rfl
  have lp := blk_lt hp
  have HD := Lib.hid hbd
  have CC := Lib.hid (show ∀ w', Below w1.heap.size w1 w' → Calls Try.prog 78 #[.slice ba bn bc, .int .i64 fr] w' fun e w'' => e = .returned (.bool false) ∧ w' = w'' from fun w' hw' => by rw [← hb]; exact contains_any ba bn bc bad fr _ ((ints_of_sl hbd).below hw'))
  clear hp h hbd hrw hc hb HD
  go_enter Try.func29, Try.ntmps29
  go_upto_region 1 with (fail)
  rw [← hw1]
  clear hw1
  refine wp_region_below (by kernel_rfl) (by kernel_rfl) ?_
  repeat (refine wpQuiet_step (fun K hK => ?_); go_simp; first | (refine hK _ ?_; clear hK K) | (apply Exists.intro; refine ⟨fun w' hw' => ?_, hK _ ?_⟩; (first | (go_at_call 78; exact Calls.quiet_below_same hw' (CC.out _ hw')) | (with_reducible rfl) | (obtain ⟨cc, dd⟩ := bcell hw'; go_simp; rfl)); clear hK K))
  refine wpQuiet_nil ?_
  intro w2 hb2
  have b2 := bthen b1 hb2
  clear hb2
  go_wp2_with fail
  go_ret
  exact ⟨rfl, b2⟩
def pk0 : Pk := ⟨1, 2, ⟨9, 0, 0, 0, ⟨0, 0, 0, ⟨#[]⟩, 0, 0⟩, 0, 0, ⟨#[]⟩, [], [], [], []⟩⟩
def pk0Cs : List Value := pkCs pk0 none 0 0 none 0 0 none 0 0 none 0 0
theorem pair_E {α β : Type} {A : Sh α} {B : Sh β} {w : World} {x : α} {y : β} {c0 c1 : List Value} (h0 : A.E w x c0) (h1 : B.E w y c1) : (A.pair B).E w (x, y) (c0 ++ c1) := ⟨_, _, rfl, h0, h1⟩
theorem sl_E {α : Type} {S : Sh α} {w : World} : S.slice.E w [] [.slice none 0 0] := ⟨none, 0, 0, rfl, rfl, Nat.le_refl _, by decide, by rw [Nat.zero_mul]; decide, fun _ => rfl, fun i y hy => by simp at hy⟩
theorem pk0_E (w : World) : shPk.E w pk0 pk0Cs := by
  have I : ∀ x, i64 x → Sh.int.E w x [.int .i64 x] := fun x h => ⟨rfl, h⟩
  have z : i64 0 := ⟨by decide, by decide⟩
  have Q : shReq.E w ⟨0, 0, 0, ⟨#[]⟩, 0, 0⟩ [.int .i64 0, .int .i64 0, .int .i64 0, .string ⟨#[]⟩, .float .f64 0, .int .i64 0] := pair_E (I 0 z) (pair_E (I 0 z) (pair_E (I 0 z) (pair_E (c0 := [.string ⟨#[]⟩]) ⟨rfl, by decide⟩ (pair_E (c0 := [.float .f64 0]) ⟨rfl, by decide⟩ (I 0 z)))))
  have R : shRes.E w (0, 0) [.int .i64 0, .float .f64 0] := pair_E (I 0 z) ⟨rfl, by decide⟩
  have T : Sh.str.E w ⟨#[]⟩ [.string ⟨#[]⟩] := ⟨rfl, by decide⟩
  have m0 : shMsg.E w pk0.m (mgCs pk0.m none 0 0 none 0 0 none 0 0 none 0 0) := pair_E (I 9 ⟨by decide, by decide⟩) (pair_E (I 0 z) (pair_E (I 0 z) (pair_E (I 0 z) (pair_E Q (pair_E R (pair_E T (pair_E sl_E (pair_E sl_E (pair_E sl_E sl_E)))))))))
  exact pair_E (I 1 ⟨by decide, by decide⟩) (pair_E (I 2 ⟨by decide, by decide⟩) m0)
theorem pk0_len : pk0Cs.length = 19 := rfl
theorem sl_one3 {w : World} {b : Nat} {x : Int} (hx : i64 x) (k1 : w.heap[b]? = some (.cells #[.int .i64 x] 3 (0, 0))) : SlAt Sh.int w (some ⟨b, 0, none⟩) 1 1 [x] :=
  ⟨rfl, by decide, by decide, by decide, nofun, fun i y hy => by
    cases i with
    | zero =>
      cases hy
      refine ⟨b, 0, [.int .i64 x], rfl, ⟨rfl, hx⟩, fun j v hv => ?_⟩
      rw [blk_cell k1]
      rw [← hv]
      simp
    | succ i => cases hy⟩
set_option maxHeartbeats 2000000 in
theorem lives20_any (w : World) : Calls Try.prog 21 #[] w fun r w' => r = .returned (.bool true) ∧ Below w.heap.size w w' := by
  go_enter Try.func21, Try.ntmps21
  go_wp2_with fail
  obtain ⟨w1, hw1⟩ : ∃ w1, w1 = w.alloc (.cells #[.int .i64 3] 3 (0, 0)) := ⟨_, rfl⟩
  have b1 : Below w.heap.size w w1 := by rw [hw1]; exact below_alloc _ _
  have k1 : w1.heap[w.heap.size]? = some (.cells #[.int .i64 3] 3 (0, 0)) := by rw [hw1]; exact blk_alloc _ _
  rw [← hw1]
  clear hw1
  refine (lanenew_any w.heap.size (some ⟨w.heap.size, 0, none⟩) 1 1 [3] w1 b1.size (sl_one3 ⟨by decide, by decide⟩ k1)).mono ?_
  rintro r w2 ⟨b2, M, p, rfl, hM, hL⟩
  have B2 := Lib.hid (bthen b1 b2)
  have HL := Lib.hid hL
  have S1 := Lib.hid (show w.heap.size < w1.heap.size from blk_lt k1)
  have S2 := Lib.hid b2.size
  clear k1 b1 b2 hL
  go_upto_region 4 with (fail)
  refine wp_region_lit ?_
  refine wpList_val (w' := w2) rfl (v := .pointer (some ⟨p, 0, none⟩)) rfl ?_
  refine wpList_val (w' := w2) rfl (v := .agg (mgCs pk0.m none 0 0 none 0 0 none 0 0 none 0 0).toArray) (by kernel_rfl) ?_
  simp only [Act.put, List.setIfInBounds_toArray, List.set_cons_succ, List.set_cons_zero]
  refine wpList_val (w' := w2) rfl (v := .agg pk0Cs.toArray) (by kernel_rfl) ?_
  simp only [Act.put, List.setIfInBounds_toArray, List.set_cons_succ, List.set_cons_zero]
  obtain ⟨w3, hw3⟩ : ∃ u, u = w2.alloc (.cells pk0Cs.toArray 56 (0, 0)) := ⟨_, rfl⟩
  have b3 : Below w2.heap.size w2 w3 := by rw [hw3]; exact below_alloc _ _
  have k3 : w3.heap[w2.heap.size]? = some (.cells pk0Cs.toArray 56 (0, 0)) := by rw [hw3]; exact blk_alloc _ _
  refine Go.Great.wpList_buildSliceTo rfl 50 56 1 #[(0, .tmp 10)] rfl w2.heap.size rfl (some 11) rfl Try.underlying50 pk0Cs.toArray (by kernel_rfl) ?_
  rw [← hw3]
  clear hw3
  simp only [Act.put, List.setIfInBounds_toArray, List.set_cons_succ, List.set_cons_zero]
  go_wp2_with fail
  have hs1 : sendR [] [pk0] = [pk0] := rfl
  refine (lanesend_any w.heap.size M p [3] [] [] 0 (some ⟨w2.heap.size, 0, none⟩) 1 1 [pk0] w3 (HL.out.old b3) (by have := b3.size; have := S1.out; have := S2.out; omega) ⟨rfl, by decide, fun i y hy => ?_⟩ ?_ ?_).mono ?_
  · cases i with
    | zero =>
      cases hy
      refine ⟨w2.heap.size, 0, pk0Cs, rfl, fun hm => absurd (HL.out.lt _ hm) (Nat.lt_irrefl _), fun w' _ => pk0_E w', fun j v hv => ?_⟩
      rw [blk_cell k3, ← hv]
      simp
    | succ i => cases hy
  · intro y hy
    rw [List.mem_singleton.1 hy]
    decide +kernel
  · decide +kernel
  rintro r w4 ⟨rfl, hk4, M', hM1, hM2, hL4⟩
  rw [hs1] at hL4
  have hB4 : Below w.heap.size w w4 := Keep.below (bthen B2.out b3) hk4 (fun k hk => by have := hM k hk; have := S1.out; omega)
  generalize sendB [] [pk0] = B at hL4
  generalize 0 + sendN [pk0] = N at hL4
  have hpl : plc 5 [pk0].length = 0 := by decide
  have S4 := hB4.size
  have B4 := Lib.hid hB4
  have CT := Lib.hid (lanetake_any w.heap.size M' p [3] [pk0] B N 5 w4 hL4 ⟨by decide, by decide⟩ S4)
  clear k3 b3 hM hM1 hM2 hk4 hB4 hs1 HL S1 S2 B2
  go_wp2_with fail
  refine CT.out.mono ?_
  rintro r w5 ⟨hk5, M2, hM3, hM4, hm⟩
  rw [hpl] at hm
  obtain ⟨⟨cs, rfl, hE⟩, hL5⟩ := hm
  have hcl : cs.length = 19 := shPk.len hE.self
  obtain ⟨a1, n1, c1, a2, n2, c2, a3, n3, c3, a4, n4, c4, hcs, hun⟩ := pk_open hE.self
  have h0 : cs.toArray[0]? = some (.int .i64 1) := by rw [hcs]; rfl
  have h1 : cs.toArray[1]? = some (.int .i64 2) := by rw [hcs]; rfl
  have hone := all_oneCell_toArray (pk_one hE.self)
  have B5 := Lib.hid (Keep.below B4.out hk5 (fun k hk => hL4.ge k hk))
  clear hcs hE hun
  have S5 := B5.out.size
  generalize hCS : cs.toArray = CS at h0 h1 hone
  have hcs19 : CS.size = 19 := by rw [← hCS, List.size_toArray, hcl]
  rename_i hK
  refine hK _ _ ?_
  clear hK
  refine wpList_val (w' := w5) rfl (v := .tuple #[.agg CS, .bool true]) (by simp only [execOp]; go_simp) ?_
  simp only [Act.put, List.setIfInBounds_toArray, List.set_cons_succ, List.set_cons_zero]
  refine wpList_val (w' := w5) rfl (v := .agg CS) (by simp only [execOp]; go_simp) ?_
  refine wpList_val (w' := w5) rfl (v := .bool true) (by simp only [execOp]; go_simp) ?_
  simp only [Act.put, List.setIfInBounds_toArray, List.set_cons_succ, List.set_cons_zero]
  refine wpList_boxpk rfl rfl (.tmp 2) (.tmp 16) rfl rfl cs hcl (by rw [hCS]; exact hone) rfl (by rw [hCS]; rfl) fun w6 b6 k6 z6 => ?_
  rw [hCS] at k6
  simp only [Act.put, List.setIfInBounds_toArray, List.set_cons_succ, List.set_cons_zero]
  have hL6 := hL5.old b6
  have B6 := Lib.hid (bthen B5.out b6)
  have x1 : w6.cell? ⟨w5.heap.size, 1, none⟩ = some (.int .i64 2) := by rw [blk_cell k6]; exact h1
  have l6 : w5.heap.size < w6.heap.size := by omega
  have CL := Lib.hid (show ∀ w', Below w6.heap.size w6 w' → Calls Try.prog 27 #[.pointer (some ⟨p, 0, none⟩)] w' fun r w'' => r = .returned (.int .i64 0) ∧ w' = w'' from fun w' hb => lanelen_any w.heap.size M2 p [3] _ B N w' (hL6.old hb))
  have CI := Lib.hid (show ∀ w', Below w6.heap.size w6 w' → _ from fun w' hb => inject_no20 w.heap.size M2 p [3] _ B N CS 1 w' (hL6.old hb) h0 rfl)
  clear hL6 hL5 hL4 b6 h0 h1 hcl hCS hone hk5 hM3 hM4 S4 S5 CT hpl B4 B5 z6
  go_upto_region 6 with (fail)
  go_wp2_with fail
  refine (CL.out w6 (Below.refl _ _)).mono ?_
  rintro r w7 ⟨rfl, rfl⟩
  rename_i hK
  refine hK _ _ ?_
  clear hK
  refine wpList_gval (w' := w6) rfl (v := .bool true) (by simp only [execOp]; go_simp) ?_
  simp only [Act.put, List.setIfInBounds_toArray, List.set_cons_succ, List.set_cons_zero]
  refine wpList_gval (w' := w6) rfl (v := .bool true) (by simp only [execOp]; go_simp) ?_
  simp only [Act.put, List.setIfInBounds_toArray, List.set_cons_succ, List.set_cons_zero]
  refine wpList_gval (w' := w6) rfl (v := .bool true) (by simp only [execOp]; go_simp) ?_
  simp only [Act.put, List.setIfInBounds_toArray, List.set_cons_succ, List.set_cons_zero]
  refine wpList_gval (w' := w6) rfl (v := .pointer (some ⟨p, 0, none⟩)) (by simp only [execOp]; go_simp) ?_
  simp only [Act.put, List.setIfInBounds_toArray, List.set_cons_succ, List.set_cons_zero]
  refine wpList_gval (w' := w6) rfl (v := .agg CS) (load_pk _ _ (.tmp 2) rfl rfl k6 hcs19) ?_
  simp only [Act.put, List.setIfInBounds_toArray, List.set_cons_succ, List.set_cons_zero]
  go_wp2_with fail
  refine (CI.out w6 (Below.refl _ _)).mono ?_
  rintro r w7 ⟨rfl, b7⟩
  have B7 := bthen B6.out b7
  clear b7 B6 k6 x1 l6 CL CI
  go_wp2_with fail
  go_ret
  exact ⟨rfl, B7⟩
end Go.Proofs.Ytijeieamodjgbaa
