
/- Lanes: a lane that isn't there; a packet of who isn't bad; lives of witanlaw20; readings. -/
import Derived.Test.YtijeieamodjgbaaGreatLd
import Derived.Great.Walk
import Derived.Test.YtijeieamodjgbaaGreatNews3
import Derived.Test.YtijeieamodjgbaaGreatWw
import Derived.Test.YtijeieamodjgbaaGreatWt
namespace Go.Proofs.YtijeieamodjgbaaGreat
set_option maxRecDepth 100000
open Go.RowKit Go.Deep
attribute [local irreducible] wpQuiet
set_option linter.unusedVariables false
set_option linter.unusedSimpArgs false
attribute [local go_sem] run_store_float
theorem zeroPk_row : zeroPk.toArray = #[.int .i64 0, .int .i64 0, .int .i64 0, .int .i64 0, .int .i64 0, .int .i64 0, .int .i64 0, .int .i64 0, .int .i64 0, .string ⟨#[]⟩, .float .f64 0, .int .i64 0, .int .i64 0, .float .f64 0, .string ⟨#[]⟩, .slice none 0 0, .slice none 0 0, .slice none 0 0, .slice none 0 0] := rfl
theorem wpList_gval {P : Program} {ops : Array Oper} {rest : List Oper} {o : Oper} {a : Act} {w w' : World} {Q : Exit → Act → World → Prop} {v : Value} (hw : Region.wanted o (yielded ops a.tmps) = true) (hrun : (execOp a.eval o).run P w = .ok (.value v) w') (h : wpList P ops Q rest (a.put o.dst v) w') : wpList P ops Q (o :: rest) a w :=
  wpList_step fun K hK => by
    rw [if_pos hw]
    unfold Oper.wp
    rw [hrun]
    exact hK _ _ h
theorem load_pk (ρ : Operand → Value) (o : Oper) (x : Operand) {b : Nat} {cs : Array Value} {w : World} (ho : o.op = .load 54 x) (hx : ρ x = .pointer (some ⟨b, 0, none⟩)) (hk : w.heap[b]? = some (.cells cs 54 (0, 0))) (hs : cs.size = 19) : (execOp ρ o).run Tryz.prog w = .ok (.value (.agg cs)) w := by
  have hinfo : (Tryz.prog.info? 54).map (·.size) = some cs.size := by rw [hs]; kernel_rfl
  have hld := run_loadVar_row (P := Tryz.prog) w b 54 54 cs (0, 0) _ hk Tryz.underlying54 rfl hinfo
  unfold execOp
  simp only [ho, hx, Instr.loadAt, Instr.sureAddr, Sem.run_bind, Sem.run_pure, Result.andThen_ok, hld]
theorem alloc_pk (ρ : Operand → Value) (o : Oper) (ho : o.op = .alloc 54) (w : World) : (execOp ρ o).run Tryz.prog w = .ok (.value (.pointer (some ⟨w.heap.size, 0, none⟩))) (w.alloc (.cells zeroPk.toArray 54 (0, 0))) := by
  rw [zeroPk_row]; simp only [execOp, ho]
  go_simp
theorem wpList_boxpk {ops : Array Oper} {rest : List Oper} {o1 o2 : Oper} {a : Act} {w : World} {Q : Exit → Act → World → Prop} (hg1 : o1.guard = none) (hg2 : o2.guard = none) (x y : Operand) (ho1 : o1.op = .alloc 54) (ho2 : o2.op = .store 54 x y)
    (cs : List Value) (hl : cs.length = 19) (h1 : cs.toArray.all (·.oneCell') = true)
    (hx : (a.put o1.dst (.pointer (some ⟨w.heap.size, 0, none⟩))).eval x = .pointer (some ⟨w.heap.size, 0, none⟩)) (hy : (a.put o1.dst (.pointer (some ⟨w.heap.size, 0, none⟩))).eval y = .agg cs.toArray)
    (h : ∀ w', Below w.heap.size w w' → w'.heap[w.heap.size]? = some (.cells cs.toArray 54 (0, 0)) → w'.heap.size = w.heap.size + 1 → wpList Tryz.prog ops Q rest ((a.put o1.dst (.pointer (some ⟨w.heap.size, 0, none⟩))).put o2.dst undef) w') :
    wpList Tryz.prog ops Q (o1 :: o2 :: rest) a w := by
  refine wpList_val (w' := w.alloc (.cells zeroPk.toArray 54 (0, 0))) hg1 (alloc_pk a.eval o1 ho1 w) ?_
  have b1 : Below w.heap.size w (w.alloc (.cells zeroPk.toArray 54 (0, 0))) := below_alloc _ _
  have hz1 : (w.alloc (.cells zeroPk.toArray 54 (0, 0))).heap.size = w.heap.size + 1 := by simp
  have k1 : (w.alloc (.cells zeroPk.toArray 54 (0, 0))).heap[w.heap.size]? = some (.cells zeroPk.toArray 54 (0, 0)) := blk_alloc _ _
  generalize w.alloc (.cells zeroPk.toArray 54 (0, 0)) = w1 at b1 hz1 k1 ⊢
  have hz19 : zeroPk.length = 19 := rfl
  have hinfo : (Tryz.prog.info? 54).map (·.size) = some 19 := by kernel_rfl
  refine wpList_store_mid hg2 54 x y ho2 w.heap.size 0 cs.toArray hx hy (fun j hj => ⟨?_, ?_⟩) (by rw [List.size_toArray, hl]; exact hinfo) h1 ?_
  · have : j < 19 := by simpa [hl] using hj
    rw [blk_cell k1, Option.isSome_iff_exists, Nat.zero_add]
    exact ⟨_, Array.getElem?_eq_getElem (by simpa [hz19] using this)⟩
  · exact blk_frozen k1 _
  · exact h _ (sets_below (Nat.le_refl _) _ b1) (by have := blk_sets cs w1 [] zeroPk k1 (by rw [hz19, hl]); simpa using this) (by rw [sets_size, hz1])
set_option maxHeartbeats 1000000 in
theorem inject_no20 (W : Nat) (M : Nat → Prop) (p : Nat) (bad : List Int) (row : List Pk) (book : List Sg) (NB : Nat) (cs : Array Value) (fr : Int) (w : World) (h : Ln W M w p bad row book NB) (hc : cs[0]? = some (.int .i64 fr)) (hb : hasB bad fr = false) :
    Calls Tryz.prog 15 #[.pointer (some ⟨p, 0, none⟩), .agg cs] w fun r w' => r = .returned (.int .i64 1) ∧ Below w.heap.size w w' := by
  obtain ⟨w1, hw1⟩ : ∃ w1, w1 = w.alloc (.cells cs 54 (0, 0)) := ⟨_, rfl⟩
  have b1 : Below w.heap.size w w1 := by rw [hw1]; exact below_alloc _ _
  have k1 : w1.cell? ⟨w.heap.size, 0, none⟩ = some (.int .i64 fr) := by rw [hw1, blk_cell (blk_alloc _ _)]; exact hc
  have z1 : w.heap.size < w1.heap.size := by rw [hw1]; simp
  obtain ⟨ba, bn, bc, a, c, pb, hp, hbd, hrw⟩ := (h.old b1).view
  have x1 : w1.cell? ⟨p, 0, none⟩ = some (.slice ba bn bc) := by rw [blk_cell hp]; rfl
  have lp := blk_lt hp; have HD := Lib.hid hbd; have CC := Lib.hid (show ∀ w', Below w1.heap.size w1 w' → Calls Tryz.prog 52 #[.slice ba bn bc, .int .i64 fr] w' fun e w'' => e = .returned (.bool false) ∧ w' = w'' from fun w' hw' => by rw [← hb]; exact contains_any ba bn bc bad fr _ ((ints_of_sl hbd).below hw')); clear hp h hbd hrw hc hb HD
  go_enter Tryz.func15, Tryz.ntmps15
  go_upto_region 1 with (fail)
  rw [← hw1]; clear hw1
  refine wp_region_below (by kernel_rfl) (by kernel_rfl) ?_
  repeat (refine wpQuiet_step (fun K hK => ?_); go_simp; first | (refine hK _ ?_; clear hK K) | (apply Exists.intro; refine ⟨fun w' hw' => ?_, hK _ ?_⟩; (first | (go_at_call 52; exact Calls.quiet_below_same hw' (CC.out _ hw')) | (with_reducible rfl) | (obtain ⟨cc, dd⟩ := bcell hw'; go_simp; rfl)); clear hK K))
  refine wpQuiet_nil ?_
  intro w2 hb2; have b2 := bthen b1 hb2; clear hb2
  go_wp2_with fail
  go_ret
  exact ⟨rfl, b2⟩
def pk0 : Pk := ⟨1, 2, ⟨9, 0, 0, 0, ⟨0, 0, 0, ⟨#[]⟩, 0, 0⟩, 0, 0, ⟨#[]⟩, [], [], [], []⟩⟩
def pk0Cs : List Value := pkCs pk0 none 0 0 none 0 0 none 0 0 none 0 0
theorem pair_E {α β : Type} {A : Sh α} {B : Sh β} {w : World} {x : α} {y : β} {c0 c1 : List Value} (h0 : A.E w x c0) (h1 : B.E w y c1) : (A.pair B).E w (x, y) (c0 ++ c1) := ⟨_, _, rfl, h0, h1⟩
theorem sl_E {α : Type} {S : Sh α} {w : World} : S.slice.E w [] [.slice none 0 0] := ⟨none, 0, 0, rfl, rfl, Nat.le_refl _, by decide, by rw [Nat.zero_mul]; decide, fun _ => rfl, fun i y hy => by simp at hy⟩
theorem pk0_E (w : World) : shPk.E w pk0 pk0Cs := by
  have I : ∀ x, i64 x → Sh.int.E w x [.int .i64 x] := fun x h => ⟨rfl, h⟩
  have z : i64 0 := ⟨by decide, by decide⟩; have Q : shReq.E w ⟨0, 0, 0, ⟨#[]⟩, 0, 0⟩ [.int .i64 0, .int .i64 0, .int .i64 0, .string ⟨#[]⟩, .float .f64 0, .int .i64 0] := pair_E (I 0 z) (pair_E (I 0 z) (pair_E (I 0 z) (pair_E (c0 := [.string ⟨#[]⟩]) ⟨rfl, by decide⟩ (pair_E (c0 := [.float .f64 0]) ⟨rfl, by decide⟩ (I 0 z))))); have R : shRes.E w (0, 0) [.int .i64 0, .float .f64 0] := pair_E (I 0 z) ⟨rfl, by decide⟩; have T : Sh.str.E w ⟨#[]⟩ [.string ⟨#[]⟩] := ⟨rfl, by decide⟩; have m0 : shMsg.E w pk0.m (mgCs pk0.m none 0 0 none 0 0 none 0 0 none 0 0) := pair_E (I 9 ⟨by decide, by decide⟩) (pair_E (I 0 z) (pair_E (I 0 z) (pair_E (I 0 z) (pair_E Q (pair_E R (pair_E T (pair_E sl_E (pair_E sl_E (pair_E sl_E sl_E)))))))))
  exact pair_E (I 1 ⟨by decide, by decide⟩) (pair_E (I 2 ⟨by decide, by decide⟩) m0)
theorem sl_one3 {w : World} {b : Nat} {x : Int} (hx : i64 x) (k1 : w.heap[b]? = some (.cells #[.int .i64 x] 3 (0, 0))) : SlAt Sh.int w (some ⟨b, 0, none⟩) 1 1 [x] :=
  ⟨rfl, by decide, by decide, by decide, nofun, fun i y hy => by
    cases i with
    | zero =>
      cases hy
      refine ⟨b, 0, [.int .i64 x], rfl, ⟨rfl, hx⟩, fun j v hv => ?_⟩
      rw [blk_cell k1]; rw [← hv]
      simp
    | succ i => cases hy⟩
set_option maxHeartbeats 2000000 in
theorem lives20_any (w : World) : Calls Tryz.prog 9 #[] w fun r w' => r = .returned (.bool true) ∧ Below w.heap.size w w' := by
  go_enter Tryz.func9, Tryz.ntmps9
  go_wp2_with fail
  obtain ⟨w1, hw1⟩ : ∃ w1, w1 = w.alloc (.cells #[.int .i64 3] 3 (0, 0)) := ⟨_, rfl⟩
  have b1 : Below w.heap.size w w1 := by rw [hw1]; exact below_alloc _ _
  have k1 : w1.heap[w.heap.size]? = some (.cells #[.int .i64 3] 3 (0, 0)) := by rw [hw1]; exact blk_alloc _ _
  rw [← hw1]; clear hw1
  refine (lanenew_any w.heap.size (some ⟨w.heap.size, 0, none⟩) 1 1 [3] w1 b1.size (sl_one3 ⟨by decide, by decide⟩ k1)).mono ?_
  rintro r w2 ⟨b2, M, p, rfl, hM, hL⟩
  have B2 := Lib.hid (bthen b1 b2); have HL := Lib.hid hL; have S1 := Lib.hid (show w.heap.size < w1.heap.size from blk_lt k1); have S2 := Lib.hid b2.size; clear k1 b1 b2 hL
  go_upto_region 4 with (fail)
  refine wp_region_lit ?_
  refine wpList_val (w' := w2) rfl (v := .pointer (some ⟨p, 0, none⟩)) rfl ?_
  refine wpList_val (w' := w2) rfl (v := .agg (mgCs pk0.m none 0 0 none 0 0 none 0 0 none 0 0).toArray) (by kernel_rfl) ?_
  simp only [Act.put, List.setIfInBounds_toArray, List.set_cons_succ, List.set_cons_zero]
  refine wpList_val (w' := w2) rfl (v := .agg pk0Cs.toArray) (by kernel_rfl) ?_
  simp only [Act.put, List.setIfInBounds_toArray, List.set_cons_succ, List.set_cons_zero]
  obtain ⟨w3, hw3⟩ : ∃ u, u = w2.alloc (.cells pk0Cs.toArray 54 (0, 0)) := ⟨_, rfl⟩
  have b3 : Below w2.heap.size w2 w3 := by rw [hw3]; exact below_alloc _ _
  have k3 : w3.heap[w2.heap.size]? = some (.cells pk0Cs.toArray 54 (0, 0)) := by rw [hw3]; exact blk_alloc _ _
  refine Go.Great.wpList_buildSliceTo rfl 46 54 1 #[(0, .tmp 10)] rfl w2.heap.size rfl (some 11) rfl Tryz.underlying46 pk0Cs.toArray (by kernel_rfl) ?_
  rw [← hw3]; clear hw3; simp only [Act.put, List.setIfInBounds_toArray, List.set_cons_succ, List.set_cons_zero]
  go_wp2_with fail
  have hs1 : sendR [] [pk0] = [pk0] := rfl
  refine (lanesend_any w.heap.size M p [3] [] [] 0 (some ⟨w2.heap.size, 0, none⟩) 1 1 [pk0] w3 (HL.out.old b3) (by have := b3.size; have := S1.out; have := S2.out; omega) ⟨rfl, by decide, fun i y hy => ?_⟩ ?_ ?_).mono ?_
  · cases i with
    | zero =>
      cases hy
      refine ⟨w2.heap.size, 0, pk0Cs, rfl, fun hm => absurd (HL.out.lt _ hm) (Nat.lt_irrefl _), fun w' _ => pk0_E w', fun j v hv => ?_⟩
      rw [blk_cell k3, ← hv]
      simp
    | succ i => cases hy
  · intro y hy
    rw [List.mem_singleton.1 hy]
    decide +kernel
  · decide +kernel
  rintro r w4 ⟨rfl, hk4, M', hM1, hM2, hL4⟩
  rw [hs1] at hL4
  have hB4 : Below w.heap.size w w4 := Keep.below (bthen B2.out b3) hk4 (fun k hk => by have := hM k hk; have := S1.out; omega)
  generalize sendB [] [pk0] = B at hL4
  generalize 0 + sendN [pk0] = N at hL4
  have hpl : plc 5 [pk0].length = 0 := by decide
  have S4 := hB4.size; have B4 := Lib.hid hB4; have CT := Lib.hid (lanetake_any w.heap.size M' p [3] [pk0] B N 5 w4 hL4 ⟨by decide, by decide⟩ S4); clear k3 b3 hM hM1 hM2 hk4 hB4 hs1 HL S1 S2 B2
  go_wp2_with fail
  refine CT.out.mono ?_
  rintro r w5 ⟨hk5, M2, hM3, hM4, hm⟩
  rw [hpl] at hm
  obtain ⟨⟨cs, rfl, hE⟩, hL5⟩ := hm; have hcl : cs.length = 19 := shPk.len hE.self; obtain ⟨a1, n1, c1, a2, n2, c2, a3, n3, c3, a4, n4, c4, hcs, hun⟩ := pk_open hE.self
  have h0 : cs.toArray[0]? = some (.int .i64 1) := by rw [hcs]; rfl
  have h1 : cs.toArray[1]? = some (.int .i64 2) := by rw [hcs]; rfl
  have hone := all_oneCell_toArray (pk_one hE.self); have B5 := Lib.hid (Keep.below B4.out hk5 (fun k hk => hL4.ge k hk)); clear hcs hE hun; have S5 := B5.out.size
  generalize hCS : cs.toArray = CS at h0 h1 hone
  have hcs19 : CS.size = 19 := by rw [← hCS, List.size_toArray, hcl]
  rename_i hK
  refine hK _ _ ?_
  clear hK
  refine wpList_val (w' := w5) rfl (v := .tuple #[.agg CS, .bool true]) (by simp only [execOp]; go_simp) ?_
  simp only [Act.put, List.setIfInBounds_toArray, List.set_cons_succ, List.set_cons_zero]
  refine wpList_val (w' := w5) rfl (v := .agg CS) (by simp only [execOp]; go_simp) ?_
  refine wpList_val (w' := w5) rfl (v := .bool true) (by simp only [execOp]; go_simp) ?_
  simp only [Act.put, List.setIfInBounds_toArray, List.set_cons_succ, List.set_cons_zero]
  refine wpList_boxpk rfl rfl (.tmp 2) (.tmp 16) rfl rfl cs hcl (by rw [hCS]; exact hone) rfl (by rw [hCS]; rfl) fun w6 b6 k6 z6 => ?_
  rw [hCS] at k6
  simp only [Act.put, List.setIfInBounds_toArray, List.set_cons_succ, List.set_cons_zero]; have hL6 := hL5.old b6; have B6 := Lib.hid (bthen B5.out b6)
  have x1 : w6.cell? ⟨w5.heap.size, 1, none⟩ = some (.int .i64 2) := by rw [blk_cell k6]; exact h1
  have l6 : w5.heap.size < w6.heap.size := by omega
  have CL := Lib.hid (show ∀ w', Below w6.heap.size w6 w' → Calls Tryz.prog 25 #[.pointer (some ⟨p, 0, none⟩)] w' fun r w'' => r = .returned (.int .i64 0) ∧ w' = w'' from fun w' hb => lanelen_any w.heap.size M2 p [3] _ B N w' (hL6.old hb)); have CI := Lib.hid (show ∀ w', Below w6.heap.size w6 w' → _ from fun w' hb => inject_no20 w.heap.size M2 p [3] _ B N CS 1 w' (hL6.old hb) h0 rfl); clear hL6 hL5 hL4 b6 h0 h1 hcl hCS hone hk5 hM3 hM4 S4 S5 CT hpl B4 B5 z6
  go_upto_region 6 with (fail)
  go_wp2_with fail
  refine (CL.out w6 (Below.refl _ _)).mono ?_
  rintro r w7 ⟨rfl, rfl⟩
  rename_i hK
  refine hK _ _ ?_
  clear hK
  refine wpList_gval (w' := w6) rfl (v := .bool true) (by simp only [execOp]; go_simp) ?_
  simp only [Act.put, List.setIfInBounds_toArray, List.set_cons_succ, List.set_cons_zero]
  refine wpList_gval (w' := w6) rfl (v := .bool true) (by simp only [execOp]; go_simp) ?_
  simp only [Act.put, List.setIfInBounds_toArray, List.set_cons_succ, List.set_cons_zero]
  refine wpList_gval (w' := w6) rfl (v := .bool true) (by simp only [execOp]; go_simp) ?_
  simp only [Act.put, List.setIfInBounds_toArray, List.set_cons_succ, List.set_cons_zero]
  refine wpList_gval (w' := w6) rfl (v := .pointer (some ⟨p, 0, none⟩)) (by simp only [execOp]; go_simp) ?_
  simp only [Act.put, List.setIfInBounds_toArray, List.set_cons_succ, List.set_cons_zero]
  refine wpList_gval (w' := w6) rfl (v := .agg CS) (load_pk _ _ (.tmp 2) rfl rfl k6 hcs19) ?_
  simp only [Act.put, List.setIfInBounds_toArray, List.set_cons_succ, List.set_cons_zero]
  go_wp2_with fail
  refine (CI.out w6 (Below.refl _ _)).mono ?_
  rintro r w7 ⟨rfl, b7⟩
  have B7 := bthen B6.out b7; clear b7 B6 k6 x1 l6 CL CI
  go_wp2_with fail
  go_ret
  exact ⟨rfl, B7⟩
end Go.Proofs.YtijeieamodjgbaaGreat
/- Lanes: steps of witanlaw20; Drop, Copy, Inject of a lane that is there. (printed by mkLo.py) -/
namespace Go.Proofs.YtijeieamodjgbaaGreat
set_option maxRecDepth 100000
open Go.RowKit Go.Deep
attribute [local irreducible] wpQuiet
set_option linter.unusedVariables false
set_option linter.unusedSimpArgs false
attribute [local go_sem] run_store_float
structure Stp where
  k : Int
  n : Int
  l : List Pk
def shStep : Sh Stp := ((Sh.int.pair (Sh.int.pair shPk.slice)).bytes 40).map fun s => (s.k, s.n, s.l)
theorem vwStep : Vw Tryz.prog 48 shStep := vw_map _ (fun y => ⟨y.1, y.2.1, y.2.2⟩) (fun _ => rfl) (vw_struct Tryz.underlying48 (fsv_cons vwInt (fsv_cons vwInt (fsv_one vwPks) rfl) rfl) (by kernel_rfl) (by kernel_rfl))
theorem vwSteps : Vw Tryz.prog 41 shStep.slice := vw_slice Tryz.underlying41 (by kernel_rfl) (by kernel_rfl) vwStep (by decide) (by decide)
theorem step_cells {w : World} {a : Option Addr} {n c : Nat} {l : List Stp} (h : SlAt shStep w a n c l) {i : Nat} {y : Stp} (hi : l[i]? = some y) :
    ∃ b o a1 n1 c1, a = some ⟨b, o, none⟩ ∧ w.cell? ⟨b, o + i * 3, none⟩ = some (.int .i64 y.k) ∧ w.cell? ⟨b, o + i * 3 + 1, none⟩ = some (.int .i64 y.n) ∧ w.cell? ⟨b, o + i * 3 + 2, none⟩ = some (.slice a1 n1 c1) ∧ i64 y.k ∧ i64 y.n ∧ SlAt shPk w a1 n1 c1 y.l := by
  obtain ⟨b, o, xs, ha, hE, hc⟩ := h.cell i _ hi; obtain ⟨x1, x2, rfl, ⟨rfl, h1⟩, x3, x4, rfl, ⟨rfl, h2⟩, a1, n1, c1, rfl, hs⟩ := hE
  exact ⟨b, o, a1, n1, c1, ha, hc 0 _ rfl, hc 1 _ rfl, hc 2 _ rfl, h1, h2, hs⟩
def kind20 (k : Int) : Int := wrap64 ((IntKind.u64.wrap k).tmod 5)
theorem kind20_in (k : Int) : 0 ≤ kind20 k ∧ kind20 k ≤ 4 := by
  have h : IntKind.u64.wrap k = k % 18446744073709551616 := by simp [IntKind.wrap, IntKind.bits, IntKind.signed]
  have h3 : (IntKind.u64.wrap k).tmod 5 = (IntKind.u64.wrap k) % 5 := Int.tmod_eq_emod_of_nonneg (by rw [h]; omega)
  unfold kind20 wrap64
  rw [h3]
  omega
set_option maxHeartbeats 1000000 in
theorem kind20_any (k n : Int) (a : Option Addr) (m c : Nat) (w : World) : Calls Tryz.prog 12 #[.agg #[.int .i64 k, .int .i64 n, .slice a m c]] w fun r w' => r = .returned (.int .i64 (kind20 k)) ∧ Below w.heap.size w w' := by
  have hb := below_alloc w (.cells #[.int .i64 k, .int .i64 n, .slice a m c] 48 (0, 0))
  go_enter Tryz.func12, Tryz.ntmps12
  go_wp2_with fail
  go_ret
  exact ⟨rfl, hb⟩
def pkZ : Pk := ⟨0, 0, ⟨0, 0, 0, 0, ⟨0, 0, 0, ⟨#[]⟩, 0, 0⟩, 0, 0, ⟨#[]⟩, [], [], [], []⟩⟩
theorem pkZ_E (w : World) : shPk.E w pkZ zeroPk := by
  have I : ∀ x, i64 x → Sh.int.E w x [.int .i64 x] := fun x h => ⟨rfl, h⟩
  have z : i64 0 := ⟨by decide, by decide⟩; have Q : shReq.E w ⟨0, 0, 0, ⟨#[]⟩, 0, 0⟩ [.int .i64 0, .int .i64 0, .int .i64 0, .string ⟨#[]⟩, .float .f64 0, .int .i64 0] := pair_E (I 0 z) (pair_E (I 0 z) (pair_E (I 0 z) (pair_E (c0 := [.string ⟨#[]⟩]) ⟨rfl, by decide⟩ (pair_E (c0 := [.float .f64 0]) ⟨rfl, by decide⟩ (I 0 z))))); have R : shRes.E w (0, 0) [.int .i64 0, .float .f64 0] := pair_E (I 0 z) ⟨rfl, by decide⟩; have T : Sh.str.E w ⟨#[]⟩ [.string ⟨#[]⟩] := ⟨rfl, by decide⟩; have m0 : shMsg.E w pkZ.m (mgCs pkZ.m none 0 0 none 0 0 none 0 0 none 0 0) := pair_E (I 0 z) (pair_E (I 0 z) (pair_E (I 0 z) (pair_E (I 0 z) (pair_E Q (pair_E R (pair_E T (pair_E sl_E (pair_E sl_E (pair_E sl_E sl_E)))))))))
  exact pair_E (I 0 z) (pair_E (I 0 z) m0)
def firstP (l : List Pk) : Pk := l.headD pkZ
theorem zeroPk_len : zeroPk.length = 19 := rfl
theorem build_pk (ρ : Operand → Value) (o : Oper) (ho : o.op = .build 54 #[]) (w : World) : (execOp ρ o).run Tryz.prog w = .ok (.value (.agg zeroPk.toArray)) w := by
  have hbd : (Instr.build 54 #[]).run Tryz.prog w = Result.ok (.agg zeroPk.toArray) w := by kernel_rfl
  unfold execOp
  simp [ho, hbd]
set_option maxHeartbeats 2000000 in
theorem first20_any (k n : Int) (a : Option Addr) (m c : Nat) (l : List Pk) (w0 w : World) (h : SlAt shPk w0 a m c l) (hb : Below w0.heap.size w0 w) :
    Calls Tryz.prog 16 #[.agg #[.int .i64 k, .int .i64 n, .slice a m c]] w fun r w' => Below w.heap.size w w' ∧ ∃ cs, r = .returned (.agg cs.toArray) ∧ shPk.E w0 (firstP l) cs := by
  obtain ⟨w1, hw1⟩ : ∃ u, u = (w.alloc (.cells #[.int .i64 k, .int .i64 n, .slice a m c] 48 (0, 0))) := ⟨_, rfl⟩
  have b1 : Below w.heap.size w w1 := by rw [hw1]; exact below_alloc _ _
  have k1 : w1.heap[w.heap.size]? = some (.cells #[.int .i64 k, .int .i64 n, .slice a m c] 48 (0, 0)) := by rw [hw1]; exact blk_alloc _ _
  have z1 : w1.heap.size = w.heap.size + 1 := by rw [hw1]; simp
  obtain ⟨w2, hw2⟩ : ∃ u, u = w1.alloc (.cells zeroPk.toArray 54 (0, 0)) := ⟨_, rfl⟩
  have b2 : Below w1.heap.size w1 w2 := by rw [hw2]; exact below_alloc _ _
  have k2 : w2.heap[w.heap.size + 1]? = some (.cells zeroPk.toArray 54 (0, 0)) := by rw [hw2, ← z1]; exact blk_alloc _ _
  have B2 := bthen b1 b2
  have x2 : w2.cell? ⟨w.heap.size, 2, none⟩ = some (.slice a m c) := by rw [blk_cell (blk_below k1 b2)]; rfl
  have lz : w.heap.size < w2.heap.size := blk_lt (blk_below k1 b2)
  have hth : ∀ vs : Array Value, vs.size = 19 → w2.there (w.heap.size + 1) 0 vs.size := fun vs hv j hj => ⟨by rw [blk_cell k2, Option.isSome_iff_exists]; exact ⟨_, Array.getElem?_eq_getElem (by rw [List.size_toArray, zeroPk_len]; omega)⟩, blk_frozen k2 _⟩
  have hinfo : ∀ vs : Array Value, vs.size = 19 → (Tryz.prog.info? 54).map (·.size) = some vs.size := fun vs hv => by rw [hv]; kernel_rfl
  have hlen := h.len; have hcm := Nat.le_trans h.cap h.max
  by_cases hm : m = 0
  · subst hm
    obtain rfl : l = [] := List.eq_nil_of_length_eq_zero hlen; have hd : ((0 : Int) == 0) = true := rfl
    obtain ⟨w9, hw9⟩ : ∃ u, u = w2.setCells (w.heap.size + 1) 0 zeroPk.toArray.toList := ⟨_, rfl⟩
    have K9 : w9.heap[w.heap.size + 1]? = some (.cells zeroPk.toArray 54 (0, 0)) := by rw [hw9]; exact blk_sets zeroPk.toArray.toList w2 [] zeroPk k2 rfl
    have B9 : Below w.heap.size w w9 := by rw [hw9]; exact sets_below (Nat.le_succ _) _ B2
    have hone2 : zeroPk.toArray.all (·.oneCell') = true := by simp [zeroPk, Value.oneCell']
    have hth2 := hth zeroPk.toArray rfl; have hld := run_loadVar_row (P := Tryz.prog) w9 (w.heap.size + 1) 54 54 zeroPk.toArray (0, 0) _ K9 Tryz.underlying54 rfl (hinfo _ rfl); have hinf := hinfo zeroPk.toArray rfl; clear hth hinfo
    go_enter Tryz.func16, Tryz.ntmps16
    go_upto_region 1 with (fail)
    rw [← hw1, ← zeroPk_row, ← hw2]; clear hw1 hw2
    go_upto_region 2 with (fail)
    refine wp_region_lit ?_
    refine wpList_val (w' := w2) rfl (v := .agg zeroPk.toArray) (build_pk _ _ rfl w2) ?_
    refine wpList_store_mid rfl 54 (.tmp 2) (.tmp 7) rfl (w.heap.size + 1) 0 zeroPk.toArray rfl rfl hth2 hinf hone2 ?_
    rw [← hw9]; simp only [Act.put, List.setIfInBounds_toArray, List.set_cons_succ, List.set_cons_zero]; clear hw9 hth2
    go_wp2_with fail
    exact bodyPost_ret (v := .agg zeroPk.toArray) (by simp [results, Tryz.results16, asAddr, hld]) rfl ⟨B9, zeroPk, rfl, pkZ_E w0⟩
  · obtain ⟨y, hy⟩ : ∃ y, l[0]? = some y := ⟨_, List.getElem?_eq_getElem (by omega)⟩
    obtain ⟨b, o, cs, rfl, hE, hcc⟩ := h.cell 0 y hy
    have hfp : firstP l = y := by cases l with
      | nil => cases hy
      | cons z r => simpa [firstP] using hy
    rw [hfp]; have hcl19 : cs.length = 19 := shPk.len hE
    have hcs : cs.toArray.size = 19 := by rw [List.size_toArray, hcl19]
    have hone2 := all_oneCell_toArray (pk_one hE)
    have hrange : w2.rangeAt b o cs := fun j u hj => by
      have := hcc j u hj
      rw [Nat.zero_mul, Nat.add_zero] at this
      exact below_cell (hb.trans (B2.mono hb.size)) this
    have hinf1 : (Tryz.prog.info? 54).map (·.size) = some cs.length := by rw [hcl19]; kernel_rfl
    have hinf := hinfo cs.toArray hcs; have hth2 := hth cs.toArray hcs
    have hd : ((m : Int) == 0) = false := by simp; omega
    have hk1 : (0 : Int) < (m : Int) := by omega
    obtain ⟨w9, hw9⟩ : ∃ u, u = w2.setCells (w.heap.size + 1) 0 cs.toArray.toList := ⟨_, rfl⟩
    have K9 : w9.heap[w.heap.size + 1]? = some (.cells cs.toArray 54 (0, 0)) := by rw [hw9]; exact blk_sets cs.toArray.toList w2 [] zeroPk k2 (by simp [hcl19, zeroPk_len])
    have B9 : Below w.heap.size w w9 := by rw [hw9]; exact sets_below (Nat.le_succ _) _ B2
    have hld := run_loadVar_row (P := Tryz.prog) w9 (w.heap.size + 1) 54 54 cs.toArray (0, 0) _ K9 Tryz.underlying54 rfl hinf; clear hth hinfo
    go_enter Tryz.func16, Tryz.ntmps16
    go_upto_region 1 with (fail)
    rw [← hw1, ← zeroPk_row, ← hw2]; clear hw1 hw2
    go_upto_region 3 with (fail)
    refine wp_region_lit ?_
    refine wpList_val (w' := w2) rfl (v := .pointer (some ⟨w.heap.size, 2, none⟩)) (by simp only [execOp]; go_simp) ?_
    simp only [Act.put, List.setIfInBounds_toArray, List.set_cons_succ, List.set_cons_zero]
    refine wpList_val (w' := w2) rfl (v := .slice (some ⟨b, o, none⟩) m c) (by simp only [execOp]; go_simp) ?_
    simp only [Act.put, List.setIfInBounds_toArray, List.set_cons_succ, List.set_cons_zero]
    refine wpList_val (w' := w2) rfl (v := .pointer (some ⟨b, o, none⟩)) (by simp only [execOp]; go_simp) ?_
    simp only [Act.put, List.setIfInBounds_toArray, List.set_cons_succ, List.set_cons_zero]
    refine wpList_load_mid rfl 54 (.tmp 10) rfl b o rfl cs _ hrange Tryz.underlying54 rfl hinf1 ?_
    simp only [Act.put, List.setIfInBounds_toArray, List.set_cons_succ, List.set_cons_zero]
    refine wpList_store_mid rfl 54 (.tmp 2) (.tmp 11) rfl (w.heap.size + 1) 0 cs.toArray rfl rfl hth2 hinf hone2 ?_
    rw [← hw9]; simp only [Act.put, List.setIfInBounds_toArray, List.set_cons_succ, List.set_cons_zero]; clear hw9 hth2
    go_wp2_with fail
    exact bodyPost_ret (v := .agg cs.toArray) (by simp [results, Tryz.results16, asAddr, hld]) rfl ⟨B9, cs, rfl, hE⟩
def takeR (row : List Pk) (n : Int) : List Pk := row.eraseIdx (plc n row.length)
def LnPost (W : Nat) (M : Nat → Prop) (p : Nat) (bad : List Int) (row : List Pk) (book : List Sg) (NB : Nat) (v : Value) (w : World) (r : Ending) (w' : World) : Prop :=
  r = .returned v ∧ Keep M w w' ∧ ∃ M' : Nat → Prop, (∀ k, M k → M' k) ∧ (∀ k, M' k → M k ∨ w.heap.size ≤ k) ∧ Ln W M' w' p bad row book NB
set_option maxHeartbeats 1000000 in
theorem lanedrop_any (W : Nat) (M : Nat → Prop) (p : Nat) (bad : List Int) (row : List Pk) (book : List Sg) (NB : Nat) (n : Int) (w : World) (h : Ln W M w p bad row book NB) (hn : i64 n) (hW : W ≤ w.heap.size) :
    Calls Tryz.prog 21 #[.pointer (some ⟨p, 0, none⟩), .int .i64 n] w (LnPost W M p bad (takeR row n) book NB (.bool (decide (0 < row.length))) w) := by
  have CT := Lib.hid (lanetake_any W M p bad row book NB n w h hn hW)
  have HTN := Lib.hid (show row[plc n row.length]? = none → row = [] from fun h => by
    rcases Nat.eq_zero_or_pos row.length with h0 | h0
    · exact List.eq_nil_of_length_eq_zero h0
    · rw [List.getElem?_eq_getElem (plc_lt h0)] at h; cases h)
  clear h
  go_enter Tryz.func21, Tryz.ntmps21
  go_wp2_with fail
  refine CT.out.mono ?_
  rintro r w1 ⟨hk1, M', hM1, hM2, hr⟩
  obtain ⟨cs, hcl, hone, rfl, hL⟩ : ∃ cs : List Value, cs.length = 19 ∧ cs.toArray.all (·.oneCell') = true ∧ r = .returned (.tuple #[.agg cs.toArray, .bool (decide (0 < row.length))]) ∧ Ln W M' w1 p bad (takeR row n) book NB := by
    cases hy : row[plc n row.length]? with
    | none =>
      rw [hy] at hr
      obtain ⟨h1, h2⟩ := hr; obtain rfl := HTN.out hy
      exact ⟨zeroPk, rfl, by simp [zeroPk, Value.oneCell'], h1, h2⟩
    | some y =>
      rw [hy] at hr
      obtain ⟨⟨cs, h1, h3⟩, h2⟩ := hr
      have hl : decide (0 < row.length) = true := by
        have := (List.getElem?_eq_some_iff.1 hy).1
        simp; omega
      exact ⟨cs, shPk.len h3.self, all_oneCell_toArray (pk_one h3.self), by rw [hl]; exact h1, h2⟩
  have HLN := Lib.hid hL
  generalize decide (0 < row.length) = D at *
  rename_i hK
  refine hK _ _ ?_
  clear hK hL hr CT HTN
  obtain ⟨CS, hCS⟩ : ∃ CS, CS = cs.toArray := ⟨_, rfl⟩
  rw [← hCS]
  refine wpList_val (w' := w1) rfl (v := .tuple #[.agg CS, .bool D]) (by simp only [execOp]; go_simp) ?_
  simp only [Act.put, List.setIfInBounds_toArray, List.set_cons_succ, List.set_cons_zero]
  refine wpList_val (w' := w1) rfl (v := .agg CS) (by simp only [execOp]; go_simp) ?_
  refine wpList_val (w' := w1) rfl (v := .bool D) (by simp only [execOp]; go_simp) ?_
  simp only [Act.put, List.setIfInBounds_toArray, List.set_cons_succ, List.set_cons_zero]
  refine wpList_boxpk rfl rfl (.tmp 5) (.tmp 11) rfl rfl cs hcl hone rfl (by rw [← hCS]; rfl) fun w2 b2 _ _ => ?_
  simp only [Act.put, List.setIfInBounds_toArray, List.set_cons_succ, List.set_cons_zero]; have HF := Lib.hid (show LnPost W M p bad (takeR row n) book NB (.bool D) w (.returned (.bool D)) w2 from ⟨rfl, hk1.trans (X' := fun _ => False) (Keep.of_below b2) (fun _ _ h => h.elim), M', hM1, hM2, HLN.out.old b2⟩); clear b2 hk1 hM1 hM2 HLN
  go_wp2_with fail
  go_ret
  exact HF.out
def injT (W0 p pb vb : Nat) (ba : Option Addr) (bn bc : Nat) (ms : List Value) (T : List Sg) (D : Bool) : Nat → World → Value → Prop
  | 0 => fun _ v => v = .pointer (some ⟨p, 0, none⟩)
  | 1 => fun _ v => v = .pointer (some ⟨p, 0, none⟩)
  | 2 => fun _ v => v = .pointer (some ⟨p, 2, none⟩)
  | 3 => fun _ v => v = .pointer (some ⟨pb, 0, none⟩)
  | 4 => fun _ v => v = .pointer (some ⟨p, 0, none⟩)
  | 5 => fun _ v => v = .pointer (some ⟨p, 0, none⟩)
  | 6 => fun _ v => v = .pointer (some ⟨p, 0, none⟩)
  | 7 => fun _ v => v = .slice ba bn bc
  | 8 => fun _ v => v = .pointer (some ⟨vb, 2, none⟩)
  | 9 => fun w v => v = .agg ms.toArray
  | 10 => fun w v => ∃ a' c', v = .slice a' T.length c' ∧ w.ownsRow W0 84 2 (.slice a' T.length c') T.length (sigV T)
  | 11 => fun w v => v = .bool D
  | 12 => fun _ v => v = .bool (!D)
  | _ => fun _ _ => False
theorem injT_stab {W0 p pb vb : Nat} {ba : Option Addr} {bn bc : Nat} {ms : List Value} {T : List Sg} {D : Bool} : ∀ i w w' v, injT W0 p pb vb ba bn bc ms T D i w v → Below w.heap.size w w' → injT W0 p pb vb ba bn bc ms T D i w' v
  | 0, w, w', v, h, hb => h
  | 1, w, w', v, h, hb => h
  | 2, w, w', v, h, hb => h
  | 3, w, w', v, h, hb => h
  | 4, w, w', v, h, hb => h
  | 5, w, w', v, h, hb => h
  | 6, w, w', v, h, hb => h
  | 7, w, w', v, h, hb => h
  | 8, w, w', v, h, hb => h
  | 9, w, w', v, h, hb => h
  | 10, w, w', v, ⟨a', c', h1, h2⟩, hb => ⟨a', c', h1, owns_old h2 hb⟩
  | 11, w, w', v, h, hb => h
  | 12, w, w', v, h, hb => h
  | _ + 13, w, w', v, h, hb => h
def injA (W W0 p : Nat) (o1 : Option Nat) (a : Option Addr) (n c vb : Nat) (cs xs : List Value) : Nat → World → Value → Prop
  | 0 => fun _ v => v = .pointer (some ⟨p, 0, none⟩)
  | 1 => fun _ v => v = .pointer (some ⟨p, 0, none⟩)
  | 2 => fun _ v => v = .pointer (some ⟨p, 0, none⟩)
  | 3 => fun _ v => v = .pointer (some ⟨p, 1, none⟩)
  | 4 => fun _ v => v = .slice a n c
  | 5 => fun w v => v = .agg cs.toArray
  | 6 => fun w v => ∃ h, v = .slice (some ⟨h, 0, none⟩) 1 1 ∧ W0 ≤ h ∧ w.heap[h]? = some (.cells cs.toArray 54 (0, 0))
  | 7 => fun w v => ∃ h d, v = .slice (some ⟨h, 0, none⟩) (n + 1) d ∧ w.ownsRow W 54 19 (.slice (some ⟨h, 0, none⟩) (n + 1) d) (n + 1) (xs ++ cs) ∧ (o1 = some h ∨ W0 ≤ h)
  | 8 => fun _ v => v = .pointer (some ⟨p, 0, none⟩)
  | 9 => fun _ v => v = .pointer (some ⟨p, 1, none⟩)
  | _ => fun _ _ => False
theorem injA_stab {W W0 p : Nat} {o1 : Option Nat} {a : Option Addr} {n c vb : Nat} {cs xs : List Value} (hY : ∀ k, W0 ≤ k → ¬ (o1 = some k)) : ∀ i w w' v, injA W W0 p o1 a n c vb cs xs i w v → (i = 7 → Below w.heap.size w w') → Keep (fun k => o1 = some k) w w' → injA W W0 p o1 a n c vb cs xs i w' v
  | 0, w, w', v, h, hb, hk => h
  | 1, w, w', v, h, hb, hk => h
  | 2, w, w', v, h, hb, hk => h
  | 3, w, w', v, h, hb, hk => h
  | 4, w, w', v, h, hb, hk => h
  | 5, w, w', v, h, hb, hk => h
  | 6, w, w', v, ⟨h, h1, h2, h3⟩, hb, hk => ⟨h, h1, h2, by rw [hk.block h (blk_lt h3) (hY h h2)]; exact h3⟩
  | 7, w, w', v, ⟨h, d, h1, h2, h3⟩, hb, hk => ⟨h, d, h1, owns_old h2 (hb rfl), h3⟩
  | 8, w, w', v, h, hb, hk => h
  | 9, w, w', v, h, hb, hk => h
  | _ + 10, w, w', v, h, hb, hk => h
def cpyA (W W0 p : Nat) (o1 : Option Nat) (a : Option Addr) (n c g k : Nat) (cs xs : List Value) : Nat → World → Value → Prop
  | 0 => fun _ v => v = .pointer (some ⟨p, 0, none⟩)
  | 1 => fun _ v => v = .pointer (some ⟨p, 0, none⟩)
  | 2 => fun _ v => v = .pointer (some ⟨p, 0, none⟩)
  | 3 => fun _ v => v = .pointer (some ⟨p, 1, none⟩)
  | 4 => fun _ v => v = .slice a n c
  | 5 => fun _ v => v = .pointer (some ⟨p, 0, none⟩)
  | 6 => fun _ v => v = .pointer (some ⟨p, 0, none⟩)
  | 7 => fun _ v => v = .pointer (some ⟨p, 1, none⟩)
  | 8 => fun _ v => v = .slice a n c
  | 9 => fun _ v => v = .int .i64 (k : Int)
  | 10 => fun _ v => v = .pointer (some ⟨g, k * 19, none⟩)
  | 11 => fun w v => v = .agg cs.toArray
  | 12 => fun w v => ∃ h, v = .slice (some ⟨h, 0, none⟩) 1 1 ∧ W0 ≤ h ∧ w.heap[h]? = some (.cells cs.toArray 54 (0, 0))
  | 13 => fun w v => ∃ h d, v = .slice (some ⟨h, 0, none⟩) (n + 1) d ∧ w.ownsRow W 54 19 (.slice (some ⟨h, 0, none⟩) (n + 1) d) (n + 1) (xs ++ cs) ∧ (o1 = some h ∨ W0 ≤ h)
  | 14 => fun _ v => v = .pointer (some ⟨p, 0, none⟩)
  | 15 => fun _ v => v = .pointer (some ⟨p, 1, none⟩)
  | _ => fun _ _ => False
theorem cpyA_stab {W W0 p : Nat} {o1 : Option Nat} {a : Option Addr} {n c g k : Nat} {cs xs : List Value} (hY : ∀ k, W0 ≤ k → ¬ (o1 = some k)) : ∀ i w w' v, cpyA W W0 p o1 a n c g k cs xs i w v → (i = 13 → Below w.heap.size w w') → Keep (fun k => o1 = some k) w w' → cpyA W W0 p o1 a n c g k cs xs i w' v
  | 0, w, w', v, h, hb, hk => h
  | 1, w, w', v, h, hb, hk => h
  | 2, w, w', v, h, hb, hk => h
  | 3, w, w', v, h, hb, hk => h
  | 4, w, w', v, h, hb, hk => h
  | 5, w, w', v, h, hb, hk => h
  | 6, w, w', v, h, hb, hk => h
  | 7, w, w', v, h, hb, hk => h
  | 8, w, w', v, h, hb, hk => h
  | 9, w, w', v, h, hb, hk => h
  | 10, w, w', v, h, hb, hk => h
  | 11, w, w', v, h, hb, hk => h
  | 12, w, w', v, ⟨h, h1, h2, h3⟩, hb, hk => ⟨h, h1, h2, by rw [hk.block h (blk_lt h3) (hY h h2)]; exact h3⟩
  | 13, w, w', v, ⟨h, d, h1, h2, h3⟩, hb, hk => ⟨h, d, h1, owns_old h2 (hb rfl), h3⟩
  | 14, w, w', v, h, hb, hk => h
  | 15, w, w', v, h, hb, hk => h
  | _ + 16, w, w', v, h, hb, hk => h
def copyR (row : List Pk) (n : Int) : List Pk := if row.length < 4096 then row ++ row[plc n row.length]?.toList else row
set_option maxHeartbeats 4000000 in
theorem lanecopy_any (W : Nat) (M : Nat → Prop) (p : Nat) (bad : List Int) (row : List Pk) (book : List Sg) (NB : Nat) (n : Int) (w : World) (h : Ln W M w p bad row book NB) (hn : i64 n) (hW : W ≤ w.heap.size) :
    Calls Tryz.prog 23 #[.pointer (some ⟨p, 0, none⟩), .int .i64 n] w (LnPost W M p bad (copyR row n) book NB (.bool (decide (0 < row.length) && decide (row.length < 4096))) w) := by
  obtain ⟨ii, hii, hz0, hz1, hz2⟩ := info_parts info_pk; have CA := Lib.hid (laneat_any W M p bad row book NB n w h hn); have CF := Lib.hid (full_any W M p bad row book NB w h); have hcap := h.cap; have HL := Lib.hid h; clear h
  go_enter Tryz.func23, Tryz.ntmps23
  go_wp2_with fail
  refine CA.out.mono ?_
  rintro r w6 ⟨rfl, rfl⟩
  clear CA
  by_cases hs : row.length = 0
  · rw [if_pos hs]
    have HF := Lib.hid (show LnPost W M p bad (copyR row n) book NB (.bool (decide (0 < row.length) && decide (row.length < 4096))) w (.returned (.bool false)) w from ⟨by rw [hs]; rfl, Keep.refl _ _, M, fun _ h => h, fun _ h => .inl h, by
      have : copyR row n = row := by
        unfold copyR
        rw [List.getElem?_eq_none (by omega)]
        simp
      rw [this]; exact HL.out⟩)
    go_wp2_with fail
    go_ret
    exact HF.out
  · rw [if_neg hs]
    have hpl := plc_lt (n := n) (s := row.length) (by omega)
    go_wp2_with fail
    refine CF.out.mono ?_
    rintro r w6 ⟨rfl, rfl⟩
    clear CF
    cases hfull : decide (4096 ≤ row.length) with
    | true =>
      have hfl := of_decide_eq_true hfull
      have HF := Lib.hid (show LnPost W M p bad (copyR row n) book NB (.bool (decide (0 < row.length) && decide (row.length < 4096))) w (.returned (.bool false)) w from ⟨by rw [decide_eq_false (show ¬ row.length < 4096 by omega), Bool.and_false], Keep.refl _ _, M, fun _ h => h, fun _ h => .inl h, by
        have : copyR row n = row := by
          unfold copyR
          rw [if_neg (by omega)]
        rw [this]; exact HL.out⟩)
      go_wp2_with fail
      go_ret
      exact HF.out
    | false =>
      have hfl := of_decide_eq_false hfull; clear hfull
      obtain ⟨y, hy⟩ : ∃ y, row[plc n row.length]? = some y := ⟨_, List.getElem?_eq_getElem hpl⟩
      have HCR := Lib.hid (show copyR row n = row ++ [y] by unfold copyR; rw [if_pos (by omega), hy]; rfl); have HRB := Lib.hid (show (decide (0 < row.length) && decide (row.length < 4096)) = true by simp; omega)
      generalize hk : plc n row.length = k at *
      obtain ⟨ba, bn, bc, v, xs, pb, m, N, hp, h2, ⟨h7, h8, h9⟩, h10, h11, h12, h13⟩ := HL.out.ex; obtain ⟨a, c, rfl⟩ := owns_form h7
      obtain ⟨g, rfl⟩ : ∃ g, a = some ⟨g, 0, none⟩ := by
        rcases h7.2 with ⟨_, h0⟩ | ⟨g, cap, cur, hv, _⟩
        · exact absurd h0 hs
        · injection hv with hv; exact ⟨g, hv⟩
      obtain ⟨cs, hcl, hE, hxc⟩ := h9.get hy; obtain ⟨hnc, cur, hg, hsz, hcell⟩ := owns_cell h7; have hcl19 : cs.length = 19 := hcl; have hone := pk_one hE.self; obtain ⟨a1, n1, c1, a2, n2, c2, a3, n3, c3, a4, n4, c4, hcs, hyf, hyt, hmi⟩ := pk_open hE.self; have HCS := Lib.hid hcs
      have hinfo : (Tryz.prog.info? 54).map (·.size) = some cs.length := by rw [hcl19]; kernel_rfl
      have HLP := Lib.hid (fun (wa : World) (hb : Below w.heap.size w wa) => run_loadVar_mid (P := Tryz.prog) wa g (k * 19) 54 cs _ (fun j u hj => below_cell hb (hcell _ _ (hxc j u hj))) Tryz.underlying54 rfl hinfo); have HP6 := Lib.hid hp; have H7 := Lib.hid h7; have HONE := Lib.hid hone; have HCL := Lib.hid hcl19; have HNG := Lib.hid (show ¬ ((Value.slice (some ⟨g, 0, none⟩) row.length c).ownBlock = some p) from own_ne13 h7 hp (by decide)); have HOLN := Lib.hid (show ∀ z, w.heap.size ≤ z → ¬ ((Value.slice (some ⟨g, 0, none⟩) row.length c).ownBlock = some z) from fun z hz hc => by have := (H7.out.lt z hc).2; omega)
      have HROW := Lib.hid (fun (w8 : World) (g8 c8 : Nat) (hk : Keep (fun z => (Value.slice (some ⟨g, 0, none⟩) row.length c).ownBlock = some z) w w8) (ho : w8.ownsRow W 54 19 (.slice (some ⟨g8, 0, none⟩) (row.length + 1) c8) (row.length + 1) (xs ++ cs)) (hor : (Value.slice (some ⟨g, 0, none⟩) row.length c).ownBlock = some g8 ∨ w.heap.size ≤ g8) =>
        ln_row (row' := row ++ [y]) (v' := .slice (some ⟨g8, 0, none⟩) (row.length + 1) c8) HL.out hp h2 h7 h8 h10 h11 h12 h13 hk (by rw [List.length_append]; exact ho) (hor.elim (fun h => .inr (.inl h.symm)) (fun h => .inr (.inr ⟨g8, rfl, h⟩))) (h9.snoc hcl19 hE) hW (by rw [List.length_append]; simp; omega))
      have k5 : row.length + 1 ≤ maxLen := by unfold maxLen; omega
      have k6 : (row.length + 1) * 232 ≤ 140737488355328 := by omega
      have hk0 : (0 : Int) ≤ (k : Int) := by omega
      have hk1 : (k : Int) < (row.length : Int) := by omega
      have hWw := hW; have lp0 := blk_lt hp; clear hcell hxc hg hsz hE hone hcs hmi hyf hyt h2 h9 h10 hp h7
      go_upto_region 4 with (fail)
      refine wp_region_kept2 16 (fun k => (Value.slice (some ⟨g, 0, none⟩) row.length c).ownBlock = some k) 13 (cpyA W w.heap.size p (Value.slice (some ⟨g, 0, none⟩) row.length c).ownBlock (some ⟨g, 0, none⟩) row.length c g k cs xs) (fun _ _ => none) rfl (by kernel_rfl) (by kernel_rfl) (cpyA_stab HOLN.out) (fun _ _ _ _ _ h => by cases h) (fun i oo hi ho => ?_) (fun vs w7 hb7' hs hne => ?_)
      · intro ac wa hba hbs hE hF K hK
        have b7 := keep_undrew13 hba
        have hno : ∀ k, (none : Option Nat) = some k → wa.heap.size ≤ k := fun _ h => by cases h
        have hW := b7.size
        have z1 : wa.cell? ⟨p, 1, none⟩ = some (.slice (some ⟨g, 0, none⟩) row.length c) := by rw [blk_cell (show wa.heap[p]? = _ from (b7.block p (blk_lt HP6.out) HNG.out).trans HP6.out)]; rfl
        have hi' : i = 0 ∨ i = 1 ∨ i = 2 ∨ i = 3 ∨ i = 4 ∨ i = 5 ∨ i = 6 ∨ i = 7 ∨ i = 8 ∨ i = 9 ∨ i = 10 ∨ i = 11 ∨ i = 12 ∨ i = 13 ∨ i = 14 ∨ i = 15 := by omega
        rcases hi' with rfl | rfl | rfl | rfl | rfl | rfl | rfl | rfl | rfl | rfl | rfl | rfl | rfl | rfl | rfl | rfl
        · obtain rfl := Option.some.inj ho
          have h1 : ac.eval (.tmp 0) = .pointer (some ⟨p, 0, none⟩) := hE 0 (by decide)
          exact news_val rfl rfl (by generalize ac.eval = ρ at h1; simp only [execOp]; go_simp) (hK _ _ (fun _ => Below.refl _ _) (Keep.refl _ _) rfl hno)
        · obtain rfl := Option.some.inj ho
          have h1 : ac.eval (.tmp 0) = .pointer (some ⟨p, 0, none⟩) := hE 0 (by decide)
          exact news_val rfl rfl (by generalize ac.eval = ρ at h1; simp only [execOp]; go_simp) (hK _ _ (fun _ => Below.refl _ _) (Keep.refl _ _) rfl hno)
        · obtain rfl := Option.some.inj ho
          have h1 : ac.eval (.tmp 20) = .pointer (some ⟨p, 0, none⟩) := hF ⟨1, .data⟩ (by simp) rfl 20 rfl
          exact news_val rfl rfl (by generalize ac.eval = ρ at h1; simp only [execOp]; go_simp) (hK _ _ (fun _ => Below.refl _ _) (Keep.refl _ _) rfl hno)
        · obtain rfl := Option.some.inj ho
          have h1 : ac.eval (.tmp 21) = .pointer (some ⟨p, 0, none⟩) := hF ⟨2, .data⟩ (by simp) rfl 21 rfl
          exact news_val rfl rfl (by generalize ac.eval = ρ at h1; simp only [execOp]; go_simp) (hK _ _ (fun _ => Below.refl _ _) (Keep.refl _ _) rfl hno)
        · obtain rfl := Option.some.inj ho
          have h1 : ac.eval (.tmp 22) = .pointer (some ⟨p, 1, none⟩) := hF ⟨3, .data⟩ (by simp) rfl 22 rfl
          exact news_val rfl rfl (by generalize ac.eval = ρ at h1; simp only [execOp]; go_simp) (hK _ _ (fun _ => Below.refl _ _) (Keep.refl _ _) rfl hno)
        · obtain rfl := Option.some.inj ho
          have h1 : ac.eval (.tmp 0) = .pointer (some ⟨p, 0, none⟩) := hE 0 (by decide)
          exact news_val rfl rfl (by generalize ac.eval = ρ at h1; simp only [execOp]; go_simp) (hK _ _ (fun _ => Below.refl _ _) (Keep.refl _ _) rfl hno)
        · obtain rfl := Option.some.inj ho
          have h1 : ac.eval (.tmp 24) = .pointer (some ⟨p, 0, none⟩) := hF ⟨5, .data⟩ (by simp) rfl 24 rfl
          exact news_val rfl rfl (by generalize ac.eval = ρ at h1; simp only [execOp]; go_simp) (hK _ _ (fun _ => Below.refl _ _) (Keep.refl _ _) rfl hno)
        · obtain rfl := Option.some.inj ho
          have h1 : ac.eval (.tmp 25) = .pointer (some ⟨p, 0, none⟩) := hF ⟨6, .data⟩ (by simp) rfl 25 rfl
          exact news_val rfl rfl (by generalize ac.eval = ρ at h1; simp only [execOp]; go_simp) (hK _ _ (fun _ => Below.refl _ _) (Keep.refl _ _) rfl hno)
        · obtain rfl := Option.some.inj ho
          have h1 : ac.eval (.tmp 26) = .pointer (some ⟨p, 1, none⟩) := hF ⟨7, .data⟩ (by simp) rfl 26 rfl
          exact news_val rfl rfl (by generalize ac.eval = ρ at h1; simp only [execOp]; go_simp) (hK _ _ (fun _ => Below.refl _ _) (Keep.refl _ _) rfl hno)
        · obtain rfl := Option.some.inj ho
          have h1 : ac.eval (.tmp 5) = .int .i64 (k : Int) := hE 5 (by decide)
          exact news_val rfl rfl (by generalize ac.eval = ρ at h1; simp only [execOp]; go_simp) (hK _ _ (fun _ => Below.refl _ _) (Keep.refl _ _) rfl hno)
        · obtain rfl := Option.some.inj ho
          have h1 : ac.eval (.tmp 27) = .slice (some ⟨g, 0, none⟩) row.length c := hF ⟨8, .data⟩ (by simp) rfl 27 rfl; have h2 : ac.eval (.tmp 28) = .int .i64 (k : Int) := hF ⟨9, .data⟩ (by simp) rfl 28 rfl
          exact news_val rfl rfl (by generalize ac.eval = ρ at h1 h2; simp only [execOp]; go_simp) (hK _ _ (fun _ => Below.refl _ _) (Keep.refl _ _) rfl hno)
        · obtain rfl := Option.some.inj ho
          have h1 : ac.eval (.tmp 29) = .pointer (some ⟨g, k * 19, none⟩) := hF ⟨10, .data⟩ (by simp) rfl 29 rfl
          exact news_load rfl rfl 54 (.tmp 29) rfl g (k * 19) h1 (HLP.out wa (below_undrew (hbs (.inr (by kernel_rfl))))) (hK _ _ (fun _ => Below.refl _ _) (Keep.refl _ _) rfl hno)
        · obtain rfl := Option.some.inj ho
          obtain h1 : (ac.eval (.tmp 30)) = .agg cs.toArray := hF ⟨11, .data⟩ (by simp) rfl 30 rfl
          exact news_val (w' := wa.alloc (.cells cs.toArray 54 (0, 0))) rfl rfl (by rw [HCS.out] at h1 ⊢; simp only [pkCs, mgCs] at h1 ⊢; generalize ac.eval = ρ at h1; simp only [execOp]; go_simp) (hK _ _ (fun _ => below_alloc _ _) (Keep.of_below (below_alloc _ _)) ⟨wa.heap.size, rfl, hW, blk_alloc _ _⟩ hno)
        · obtain rfl := Option.some.inj ho
          have h1 : ac.eval (.tmp 23) = .slice (some ⟨g, 0, none⟩) row.length c := hF ⟨4, .data⟩ (by simp) rfl 23 rfl
          obtain ⟨gb, h2, hgb, hbb⟩ : ∃ h, (ac.eval (.tmp 31)) = .slice (some ⟨h, 0, none⟩) 1 1 ∧ w.heap.size ≤ h ∧ wa.heap[h]? = some (.cells cs.toArray 54 (0, 0)) := hF ⟨12, .data⟩ (by simp) rfl 31 rfl
          refine wpOp_step rfl fun K' hK' => ?_
          refine step_append_lies _ rfl (.tmp 23) (.tmp 31) 46 rfl W 54 ii (.agg zeroPk.toArray) 19 232 Tryz.underlying46 hii hz0 hz1 hz2 rfl (by decide) (.slice (some ⟨g, 0, none⟩) row.length c) row.length xs h1 (owns_old H7.out (below_undrew (hbs (.inl rfl)))) ⟨gb, 0, none⟩ 1 1 cs h2 (by rw [HCL.out]) (World.news_of_block hbb) HONE.out (by decide) k5 k6 (Nat.le_trans hWw hW) _ rfl ?_
          intro g8 cap8 w8 hown8 hg8 hor8 hlt8
          exact hK' _ _ (hK _ _ (fun h => (h rfl).elim) ((Keep.refl _ wa).grown hg8 (fun k hk => .inr hk)) ⟨_, _, rfl, hown8, hor8.elim .inl (fun h => .inr (by omega))⟩ hno)
        · obtain rfl := Option.some.inj ho
          have h1 : ac.eval (.tmp 19) = .pointer (some ⟨p, 0, none⟩) := hF ⟨0, .data⟩ (by simp) rfl 19 rfl
          exact news_val rfl rfl (by generalize ac.eval = ρ at h1; simp only [execOp]; go_simp) (hK _ _ (fun _ => Below.refl _ _) (Keep.refl _ _) rfl hno)
        · obtain rfl := Option.some.inj ho
          have h1 : ac.eval (.tmp 33) = .pointer (some ⟨p, 0, none⟩) := hF ⟨14, .data⟩ (by simp) rfl 33 rfl
          exact news_val rfl rfl (by generalize ac.eval = ρ at h1; simp only [execOp]; go_simp) (hK _ _ (fun _ => Below.refl _ _) (Keep.refl _ _) rfl hno)
      · have e0 : vs 0 = _ := hs 0 (by omega)
        have e1 : vs 1 = _ := hs 1 (by omega); have e2 : vs 2 = _ := hs 2 (by omega); have e3 : vs 3 = _ := hs 3 (by omega); have e4 : vs 4 = _ := hs 4 (by omega); have e5 : vs 5 = _ := hs 5 (by omega); have e6 : vs 6 = _ := hs 6 (by omega); have e7 : vs 7 = _ := hs 7 (by omega); have e8 : vs 8 = _ := hs 8 (by omega); have e9 : vs 9 = _ := hs 9 (by omega); have e10 : vs 10 = _ := hs 10 (by omega); obtain e11 : (vs 11) = .agg cs.toArray := hs 11 (by omega)
        obtain ⟨gb, e12, hgb, hbb⟩ : ∃ h, (vs 12) = .slice (some ⟨h, 0, none⟩) 1 1 ∧ w.heap.size ≤ h ∧ w7.heap[h]? = some (.cells cs.toArray 54 (0, 0)) := hs 12 (by omega)
        obtain ⟨g8, c8, e13, ho8, hor8⟩ : ∃ h d, (vs 13) = .slice (some ⟨h, 0, none⟩) (row.length + 1) d ∧ w7.ownsRow W 54 19 (.slice (some ⟨h, 0, none⟩) (row.length + 1) d) (row.length + 1) (xs ++ cs) ∧ ((Value.slice (some ⟨g, 0, none⟩) row.length c).ownBlock = some h ∨ w.heap.size ≤ h) := hs 13 (by omega)
        have e14 : vs 14 = _ := hs 14 (by omega); have e15 : vs 15 = _ := hs 15 (by omega)
        show wpList _ _ _ _ ((((((((((((((((Act.put _ (some 19) (vs 0)).put (some 20) (vs 1)).put (some 21) (vs 2)).put (some 22) (vs 3)).put (some 23) (vs 4)).put (some 24) (vs 5)).put (some 25) (vs 6)).put (some 26) (vs 7)).put (some 27) (vs 8)).put (some 28) (vs 9)).put (some 29) (vs 10)).put (some 30) (vs 11)).put (some 31) (vs 12)).put (some 32) (vs 13)).put (some 33) (vs 14)).put (some 34) (vs 15)) _
        rw [e0, e1, e2, e3, e4, e5, e6, e7, e8, e9, e10, e11, e12, e13, e14, e15]; clear e0 e1 e2 e3 e4 e5 e6 e7 e8 e9 e10 e11 e12 e13 e14 e15 hs hne vs; obtain ⟨⟨M', hM1', hM2', hL9⟩, hK9⟩ := HROW.out w7 g8 c8 hb7' ho8 hor8; have hp7 : w7.heap[p]? = _ := (hb7'.block p (blk_lt HP6.out) HNG.out).trans HP6.out
        have m8 : w7.cell? ⟨p, 1, none⟩ = some (.slice (some ⟨g, 0, none⟩) row.length c) := by rw [blk_cell hp7]; rfl
        have m9 := blk_frozen hp7 1; have lp7 := blk_lt hp7; have HF := Lib.hid (show LnPost W M p bad (copyR row n) book NB (.bool (decide (0 < row.length) && decide (row.length < 4096))) w (.returned (.bool true)) (w7.setCell ⟨p, 1, none⟩ (.slice (some ⟨g8, 0, none⟩) (row.length + 1) c8)) from ⟨by rw [HRB.out], hK9, M', hM1', hM2', by rw [HCR.out]; exact hL9⟩); clear hM1' hM2' hL9 hK9 hp7 ho8 hor8 hbb hgb hb7'; simp only [List.drop_succ_cons, List.drop_zero, Act.put, List.setIfInBounds_toArray, List.set_cons_succ, List.set_cons_zero]
        go_wp2_with fail
        go_ret
        exact HF.out
def injE (bad : List Int) (row : List Pk) (book : List Sg) (y : Pk) : Int := if hasB bad y.fr then (if mgErr y.m = 0 then (if derivP book bad (termsP y.m) then (if row.length < 4096 then 0 else 21) else 16) else 4) else 1
def injR (bad : List Int) (row : List Pk) (book : List Sg) (y : Pk) : List Pk := if injE bad row book y = 0 then row ++ [y] else row
set_option maxHeartbeats 4000000 in
theorem laneinject_any (W : Nat) (M : Nat → Prop) (p : Nat) (bad : List Int) (row : List Pk) (book : List Sg) (NB : Nat) (y : Pk) (cs : List Value) (w : World) (h : Ln W M w p bad row book NB) (hW : W ≤ w.heap.size) (hE : Rob (fun k => W ≤ k) (fun w' => shPk.E w' y cs) w)
    (hT : (termsP y.m).length * 24 ≤ 140737488355328) (hN : NB < 4611686018427387904) :
    Calls Tryz.prog 15 #[.pointer (some ⟨p, 0, none⟩), .agg cs.toArray] w (LnPost W M p bad (injR bad row book y) book NB (.int .i64 (injE bad row book y)) w) := by
  obtain ⟨a1, n1, c1, a2, n2, c2, a3, n3, c3, a4, n4, c4, hcs, hyf, hyt, hmi⟩ := pk_open hE.self
  have hc0 : cs.toArray[0]? = some (.int .i64 y.fr) := by rw [hcs]; rfl
  cases hb : hasB bad y.fr with
  | false =>
    have he : injE bad row book y = 1 := by unfold injE; rw [hb]; rfl
    have hr : injR bad row book y = row := by unfold injR; rw [he]; rfl
    rw [he, hr]
    refine (inject_no20 W M p bad row book NB cs.toArray y.fr w h hc0 hb).mono ?_
    rintro r w' ⟨rfl, hb'⟩
    exact ⟨rfl, Keep.of_below hb', M, fun _ h => h, fun _ h => .inl h, h.old hb'⟩
  | true =>
    obtain ⟨ii, hii, hz0, hz1, hz2⟩ := info_parts info_pk; have HIE := Lib.hid (show injE bad row book y = if mgErr y.m = 0 then (if derivP book bad (termsP y.m) then (if row.length < 4096 then 0 else 21) else 16) else 4 by unfold injE; rw [hb]; rfl); have HIR := Lib.hid (show injR bad row book y = if injE bad row book y = 0 then row ++ [y] else row from rfl)
    generalize injR bad row book y = IR at *
    generalize injE bad row book y = IE at *
    have hcl19 : cs.length = 19 := by rw [hcs]; rfl
    have hone := pk_one hE.self
    obtain ⟨w1, hw1⟩ : ∃ w1, w1 = w.alloc (.cells cs.toArray 54 (0, 0)) := ⟨_, rfl⟩
    have b1 : Below w.heap.size w w1 := by rw [hw1]; exact below_alloc _ _
    have hk1 : w1.heap[w.heap.size]? = some (.cells cs.toArray 54 (0, 0)) := by rw [hw1]; exact blk_alloc _ _
    have k1 : w1.cell? ⟨w.heap.size, 0, none⟩ = some (.int .i64 y.fr) := by rw [blk_cell hk1]; exact hc0
    have z1 : w.heap.size < w1.heap.size := blk_lt hk1; obtain ⟨ba, bn, bc, a, c, pb, hp, hbd, hrw⟩ := (h.old b1).view
    have x1 : w1.cell? ⟨p, 0, none⟩ = some (.slice ba bn bc) := by rw [blk_cell hp]; rfl
    have lp := blk_lt hp; have CC := Lib.hid (show ∀ w', Below w1.heap.size w1 w' → Calls Tryz.prog 52 #[.slice ba bn bc, .int .i64 y.fr] w' fun e w'' => e = .returned (.bool true) ∧ w' = w'' from fun w' hw' => by rw [← hb]; exact contains_any ba bn bc bad y.fr _ ((ints_of_sl hbd).below hw')); have HL := Lib.hid h; have HE := Lib.hid hE; have HMI := Lib.hid hmi; have HCS := Lib.hid hcs; have HK1 := Lib.hid hk1; have HT := Lib.hid hT; have HN := Lib.hid hN; have HB1 := Lib.hid b1; have HONE := Lib.hid hone; have HCL := Lib.hid hcl19; clear hp h hbd hrw hb hE hmi hk1 hT hN b1 hone hcl19 hc0
    obtain ⟨CS, hCS⟩ : ∃ CS, CS = cs.toArray := ⟨_, rfl⟩
    rw [← hCS] at hw1 ⊢
    have HCS2 := Lib.hid hCS; clear hCS hcs
    go_enter Tryz.func15, Tryz.ntmps15
    go_upto_region 1 with (fail)
    rw [← hw1]; clear hw1
    refine wp_region_below (by kernel_rfl) (by kernel_rfl) ?_
    repeat (refine wpQuiet_step (fun K hK => ?_); go_simp; first | (refine hK _ ?_; clear hK K) | (apply Exists.intro; refine ⟨fun w' hw' => ?_, hK _ ?_⟩; (first | (go_at_call 52; exact Calls.quiet_below_same hw' (CC.out _ hw')) | (with_reducible rfl) | (obtain ⟨cc, dd⟩ := bcell hw'; go_simp; rfl)); clear hK K))
    refine wpQuiet_nil ?_
    intro w2 hb2; have HB2 := Lib.hid (bthen HB1.out hb2); have HK2 := Lib.hid (blk_below HK1.out hb2); clear hb2 CC x1 lp k1 z1
    have hr2 : ∀ wa, Below w2.heap.size w2 wa → wa.rangeAt w.heap.size 2 (mgCs y.m a1 n1 c1 a2 n2 c2 a3 n3 c3 a4 n4 c4) := fun wa hb j u hj => by
      rw [blk_cell (blk_below HK2.out hb), HCS.out]; rw [← hj]
      simp [pkCs, List.getElem?_cons, Nat.add_comm 2 j]
    have hmlen : (Tryz.prog.info? 35).map (·.size) = some (mgCs y.m a1 n1 c1 a2 n2 c2 a3 n3 c3 a4 n4 c4).length := by kernel_rfl
    have CB := Lib.hid (bytes13_any y.m a1 n1 c1 a2 n2 c2 a3 n3 c3 a4 n4 c4 w2 (HMI.out.old HB2.out)); have CT0 := Lib.hid (show ∀ wa, Below w.heap.size w wa → Calls Tryz.prog 48 #[.agg (mgCs y.m a1 n1 c1 a2 n2 c2 a3 n3 c3 a4 n4 c4).toArray] wa (fun r w' => Below wa.heap.size wa w' ∧ ∃ v, r = .returned v ∧ w'.ownsRow wa.heap.size 84 2 v (termsP y.m).length (sigV (termsP y.m))) from fun wa hb => terms_any y.m a1 n1 c1 a2 n2 c2 a3 n3 c3 a4 n4 c4 wa (HMI.out.old hb) HT.out); have HTO := Lib.hid (terms_ok HMI.out); have HT24 := Lib.hid HT.out
    generalize mgErr y.m = ER at *
    generalize mgText y.m = TX at *
    generalize hTT : termsP y.m = T at *
    generalize hms : mgCs y.m a1 n1 c1 a2 n2 c2 a3 n3 c3 a4 n4 c4 = ms at hr2 hmlen CB CT0
    have HR2 := Lib.hid hr2; have lz2 := blk_lt HK2.out
    go_upto_region 3 with (fail)
    refine wp_region_lit ?_
    refine wpList_val (w' := w2) rfl (v := .pointer (some ⟨w.heap.size, 2, none⟩)) (by simp only [execOp]; go_simp) ?_
    simp only [Act.put, List.setIfInBounds_toArray, List.set_cons_succ, List.set_cons_zero]
    refine wpList_load_mid rfl 35 (.tmp 20) rfl w.heap.size 2 rfl ms _ (hr2 w2 (Below.refl _ _)) Tryz.underlying35 rfl hmlen ?_
    simp only [Act.put, List.setIfInBounds_toArray, List.set_cons_succ, List.set_cons_zero]; clear hr2
    go_wp2_with fail
    refine CB.out.mono ?_
    rintro r w3 ⟨rfl, b3⟩
    have HB3 := Lib.hid (bthen HB2.out b3); have HK3 := Lib.hid (blk_below HK2.out b3); have HR3 := Lib.hid (fun (wa : World) (hb : Below w3.heap.size w3 wa) => run_loadVar_mid (P := Tryz.prog) wa w.heap.size 2 35 ms _ (HR2.out wa (bthen b3 hb)) Tryz.underlying35 rfl hmlen); clear b3 CB HR2 hmlen
    by_cases hE0 : ER = 0
    · have hd1 : (ER == 0) = true := by simpa using hE0
      have H3 := Lib.hid (HL.out.old HB3.out); obtain ⟨ba, bn, bc, v, xs, pb, m, N, hp, h2, ⟨h7, h8, h9⟩, h10, h11, h12, h13⟩ := H3.out.ex; obtain ⟨a, c, rfl⟩ := owns_form h7; have HP4 := Lib.hid hp; have HLM := HR3; have HIE2 := Lib.hid (show IE = if derivP book bad T then (if row.length < 4096 then 0 else 21) else 16 by rw [HIE.out, if_pos hE0]); have CT := Lib.hid (show ∀ wa, Below w3.heap.size w3 wa → Calls Tryz.prog 48 #[.agg ms.toArray] wa (fun r w' => Below wa.heap.size wa w' ∧ ∃ v, r = .returned v ∧ w'.ownsRow wa.heap.size 84 2 v T.length (sigV T)) from fun wa hb => CT0.out wa (bthen HB3.out hb))
      have CD := Lib.hid (show ∀ (wa : World) (a9 : Option Addr) (c9 : Nat), Below w3.heap.size w3 wa → wa.ownsRow w3.heap.size 84 2 (.slice a9 T.length c9) T.length (sigV T) → Calls Tryz.prog 53 #[.pointer (some ⟨pb, 0, none⟩), .slice ba bn bc, .slice a9 T.length c9] wa fun e w'' => e = .returned (.bool (derivP book bad T)) ∧ Below wa.heap.size wa w'' from fun wa a9 c9 hb ho => by
        obtain ⟨ba', bn', bc', a', c', pb', hp', hbd', _⟩ := (H3.out.old hb).view
        rw [blk_below hp hb] at hp'
        injection hp' with hp'; injection hp' with hp'
        simp only [List.toArray_inj, Array.mk.injEq, List.cons.injEq, Value.slice.injEq] at hp'
        obtain ⟨⟨rfl, rfl, rfl⟩, _⟩ := hp'
        exact bderiv_any _ book ba bn bc bad a9 T.length c9 T wa (.inr ⟨pb, m, N, rfl, h10.old hb, by have := HN.out; omega⟩) (ints_of_sl hbd') (sigs_row ho rfl HTO.out HT24.out))
      have lz3 := blk_lt HK3.out; have lp3 := blk_lt hp
      generalize hD : derivP book bad T = D at CD HIE2
      clear hD HR3 CT0 HIE hE0
      go_upto_region 6 with (fail)
      refine wp_region_made 13 (injT w3.heap.size p pb w.heap.size ba bn bc ms T D) (fun _ _ => none) rfl (by kernel_rfl) (by kernel_rfl) injT_stab (fun _ _ _ _ _ h => by cases h) (fun i oo hi ho => ?_) (fun vs w7 hb7 hs hne => ?_)
      · intro ac wa hba hE hF K hK
        have b7 := below_undrew hba
        have hno : ∀ k, (none : Option Nat) = some k → wa.heap.size ≤ k := fun _ h => by cases h
        have z2 : wa.cell? ⟨p, 2, none⟩ = some (.pointer (some ⟨pb, 0, none⟩)) := by rw [blk_cell (blk_below HP4.out b7)]; rfl
        have z0 : wa.cell? ⟨p, 0, none⟩ = some (.slice ba bn bc) := by rw [blk_cell (blk_below HP4.out b7)]; rfl
        have hld := HLM.out wa b7
        have hi' : i = 0 ∨ i = 1 ∨ i = 2 ∨ i = 3 ∨ i = 4 ∨ i = 5 ∨ i = 6 ∨ i = 7 ∨ i = 8 ∨ i = 9 ∨ i = 10 ∨ i = 11 ∨ i = 12 := by omega
        rcases hi' with rfl | rfl | rfl | rfl | rfl | rfl | rfl | rfl | rfl | rfl | rfl | rfl | rfl
        · obtain rfl := Option.some.inj ho
          have h1 : ac.eval (.tmp 0) = .pointer (some ⟨p, 0, none⟩) := hE 0 (by decide)
          exact news_val rfl rfl (by generalize ac.eval = ρ at h1; simp only [execOp]; go_simp) (hK _ _ (Below.refl _ _) rfl hno)
        · obtain rfl := Option.some.inj ho
          have h1 : ac.eval (.tmp 28) = .pointer (some ⟨p, 0, none⟩) := hF ⟨0, .data⟩ (by simp) rfl 28 rfl
          exact news_val rfl rfl (by generalize ac.eval = ρ at h1; simp only [execOp]; go_simp) (hK _ _ (Below.refl _ _) rfl hno)
        · obtain rfl := Option.some.inj ho
          have h1 : ac.eval (.tmp 29) = .pointer (some ⟨p, 0, none⟩) := hF ⟨1, .data⟩ (by simp) rfl 29 rfl
          exact news_val rfl rfl (by generalize ac.eval = ρ at h1; simp only [execOp]; go_simp) (hK _ _ (Below.refl _ _) rfl hno)
        · obtain rfl := Option.some.inj ho
          have h1 : ac.eval (.tmp 30) = .pointer (some ⟨p, 2, none⟩) := hF ⟨2, .data⟩ (by simp) rfl 30 rfl
          exact news_val rfl rfl (by generalize ac.eval = ρ at h1; simp only [execOp]; go_simp) (hK _ _ (Below.refl _ _) rfl hno)
        · obtain rfl := Option.some.inj ho
          have h1 : ac.eval (.tmp 0) = .pointer (some ⟨p, 0, none⟩) := hE 0 (by decide)
          exact news_val rfl rfl (by generalize ac.eval = ρ at h1; simp only [execOp]; go_simp) (hK _ _ (Below.refl _ _) rfl hno)
        · obtain rfl := Option.some.inj ho
          have h1 : ac.eval (.tmp 32) = .pointer (some ⟨p, 0, none⟩) := hF ⟨4, .data⟩ (by simp) rfl 32 rfl
          exact news_val rfl rfl (by generalize ac.eval = ρ at h1; simp only [execOp]; go_simp) (hK _ _ (Below.refl _ _) rfl hno)
        · obtain rfl := Option.some.inj ho
          have h1 : ac.eval (.tmp 33) = .pointer (some ⟨p, 0, none⟩) := hF ⟨5, .data⟩ (by simp) rfl 33 rfl
          exact news_val rfl rfl (by generalize ac.eval = ρ at h1; simp only [execOp]; go_simp) (hK _ _ (Below.refl _ _) rfl hno)
        · obtain rfl := Option.some.inj ho
          have h1 : ac.eval (.tmp 34) = .pointer (some ⟨p, 0, none⟩) := hF ⟨6, .data⟩ (by simp) rfl 34 rfl
          exact news_val rfl rfl (by generalize ac.eval = ρ at h1; simp only [execOp]; go_simp) (hK _ _ (Below.refl _ _) rfl hno)
        · obtain rfl := Option.some.inj ho
          have h1 : ac.eval (.tmp 3) = .pointer (some ⟨w.heap.size, 0, none⟩) := hE 3 (by decide)
          exact news_val rfl rfl (by generalize ac.eval = ρ at h1; simp only [execOp]; go_simp) (hK _ _ (Below.refl _ _) rfl hno)
        · obtain rfl := Option.some.inj ho
          have h1 : ac.eval (.tmp 36) = .pointer (some ⟨w.heap.size, 2, none⟩) := hF ⟨8, .data⟩ (by simp) rfl 36 rfl
          exact news_load rfl rfl 35 (.tmp 36) rfl w.heap.size 2 h1 hld (hK _ _ (Below.refl _ _) rfl hno)
        · obtain rfl := Option.some.inj ho
          obtain h1 : (ac.eval (.tmp 37)) = .agg ms.toArray := hF ⟨9, .data⟩ (by simp) rfl 37 rfl; have hf : ac.eval (.func 48) = .func (.func 48) #[] #[] := rfl
          refine made_call rfl rfl 48 #[.agg ms.toArray] (by generalize ac.eval = ρ at h1 hf; simp only [execOp]; go_simp) (CT.out wa b7) ?_
          rintro r w8 ⟨b8, v8, rfl, ho8⟩
          obtain ⟨a8, c8, rfl⟩ := owns_form ho8
          exact ⟨_, rfl, hK _ _ b8 ⟨a8, c8, rfl, owns_lower ho8 b7.size⟩ (fun _ h => by cases h)⟩
        · obtain rfl := Option.some.inj ho
          have h1 : ac.eval (.tmp 31) = .pointer (some ⟨pb, 0, none⟩) := hF ⟨3, .data⟩ (by simp) rfl 31 rfl; have h2 : ac.eval (.tmp 35) = .slice ba bn bc := hF ⟨7, .data⟩ (by simp) rfl 35 rfl
          obtain ⟨a9, c9, h3, ho9⟩ : ∃ a' c', (ac.eval (.tmp 38)) = .slice a' T.length c' ∧ wa.ownsRow w3.heap.size 84 2 (.slice a' T.length c') T.length (sigV T) := hF ⟨10, .data⟩ (by simp) rfl 38 rfl
          have hf : ac.eval (.func 53) = .func (.func 53) #[] #[] := rfl
          refine made_call rfl rfl 53 #[.pointer (some ⟨pb, 0, none⟩), .slice ba bn bc, .slice a9 T.length c9] (by generalize ac.eval = ρ at h1 h2 h3 hf; simp only [execOp]; go_simp) (CD.out wa a9 c9 b7 ho9) ?_
          rintro r w8 ⟨rfl, b8⟩
          exact ⟨_, rfl, hK _ _ b8 rfl hno⟩
        · obtain rfl := Option.some.inj ho
          obtain h1 : (ac.eval (.tmp 39)) = .bool D := hF ⟨11, .data⟩ (by simp) rfl 39 rfl
          exact news_val rfl rfl (by generalize ac.eval = ρ at h1; simp only [execOp]; go_simp) (hK _ _ (Below.refl _ _) rfl hno)
      · have e0 : vs 0 = _ := hs 0 (by omega)
        have e1 : vs 1 = _ := hs 1 (by omega); have e2 : vs 2 = _ := hs 2 (by omega); have e3 : vs 3 = _ := hs 3 (by omega); have e4 : vs 4 = _ := hs 4 (by omega); have e5 : vs 5 = _ := hs 5 (by omega); have e6 : vs 6 = _ := hs 6 (by omega); have e7 : vs 7 = _ := hs 7 (by omega); have e8 : vs 8 = _ := hs 8 (by omega); obtain e9 : (vs 9) = .agg ms.toArray := hs 9 (by omega)
        obtain ⟨a9, c9, e10, ho9⟩ : ∃ a' c', (vs 10) = .slice a' T.length c' ∧ w7.ownsRow w3.heap.size 84 2 (.slice a' T.length c') T.length (sigV T) := hs 10 (by omega)
        obtain e11 : (vs 11) = .bool D := hs 11 (by omega); have e12 : vs 12 = _ := hs 12 (by omega)
        show wpList _ _ _ _ (((((((((((((Act.put _ (some 28) (vs 0)).put (some 29) (vs 1)).put (some 30) (vs 2)).put (some 31) (vs 3)).put (some 32) (vs 4)).put (some 33) (vs 5)).put (some 34) (vs 6)).put (some 35) (vs 7)).put (some 36) (vs 8)).put (some 37) (vs 9)).put (some 38) (vs 10)).put (some 39) (vs 11)).put (some 40) (vs 12)) _
        rw [e0, e1, e2, e3, e4, e5, e6, e7, e8, e9, e10, e11, e12]; clear e0 e1 e2 e3 e4 e5 e6 e7 e8 e9 e10 e11 e12 hs hne vs; have H7 := Lib.hid (H3.out.old hb7); have HB7 := Lib.hid (bthen HB3.out hb7); have HP7 := Lib.hid (blk_below hp hb7); have HK7 := Lib.hid (blk_below HK3.out hb7); have h77 := owns_old h7 hb7; have h27 := owns_old h2.1 hb7; have h97 := h9.step (Y := fun _ => False) (Keep.of_below hb7) (fun _ _ h => h.elim) (fun _ _ h => h); have h107 := h10.old hb7; clear hb7 h7 h9 h10 hp CT CD HLM HP4 lz3 lp3 HK3 ho9; simp only [List.drop_succ_cons, List.drop_zero, Act.put, List.setIfInBounds_toArray, List.set_cons_succ, List.set_cons_zero]
        cases D with
        | false =>
          have HF := Lib.hid (show LnPost W M p bad IR book NB (.int .i64 IE) w (.returned (.int .i64 16)) w7 from by
            have he : IE = 16 := by rw [HIE2.out]; rfl
            exact ⟨by rw [he], Keep.of_below HB7.out, M, fun _ h => h, fun _ h => .inl h, by rw [HIR.out, he]; exact H7.out⟩)
          clear h77 h27 h97 h107
          go_wp2_with fail
          go_ret
          exact HF.out
        | true =>
          have CF := Lib.hid (full_any W M p bad row book NB w7 H7.out); have H77 := Lib.hid h77; have hcap := H7.out.cap; have HW7 := Lib.hid (Nat.le_trans hW HB7.out.size); have H97 := Lib.hid h97; have H107 := Lib.hid h107; have H27 := Lib.hid h27; clear h77 h27 h97 h107
          go_wp2_with fail
          refine CF.out.mono ?_
          rintro r w7' ⟨rfl, rfl⟩
          clear CF
          cases hfull : decide (4096 ≤ row.length) with
          | true =>
            have hfl := of_decide_eq_true hfull
            have HF := Lib.hid (show LnPost W M p bad IR book NB (.int .i64 IE) w (.returned (.int .i64 21)) w7 from by
              have he : IE = 21 := by rw [HIE2.out, if_pos trivial, if_neg (by omega)]
              exact ⟨by rw [he], Keep.of_below HB7.out, M, fun _ h => h, fun _ h => .inl h, by rw [HIR.out, he]; exact H7.out⟩)
            go_wp2_with fail
            go_ret
            exact HF.out
          | false =>
            have hfl := of_decide_eq_false hfull; clear hfull; have HE0 := Lib.hid (show IE = 0 by rw [HIE2.out, if_pos trivial, if_pos (by omega)]); have HR0 := Lib.hid (show IR = row ++ [y] by rw [HIR.out, if_pos HE0.out]); have HP6 := HP7; have HNG := Lib.hid (show ¬ ((Value.slice a row.length c).ownBlock = some p) from own_ne13 H77.out HP7.out (by decide)); have HOLN := Lib.hid (show ∀ z, w7.heap.size ≤ z → ¬ ((Value.slice a row.length c).ownBlock = some z) from fun z hz hc => by have := (H77.out.lt z hc).2; omega)
            have hnb : (Value.slice a row.length c).ownBlock ≠ some w.heap.size := fun hc => by
              have := HL.out.lt _ (h8 _ hc)
              omega
            have hinfo2 : (Tryz.prog.info? 54).map (·.size) = some CS.size := by rw [HCS2.out, List.size_toArray, HCL.out]; kernel_rfl
            have hkb : w7.heap[w.heap.size]? = some (.cells cs.toArray 54 (0, 0)) := HK7.out; have HLP := Lib.hid (show ∀ (wa : World), Keep (fun z => (Value.slice a row.length c).ownBlock = some z) w7 wa → (loadVar 54 ⟨w.heap.size, 0, none⟩).run Tryz.prog wa = .ok (.agg cs.toArray) wa from fun wa hk => run_loadVar_row (P := Tryz.prog) wa w.heap.size 54 54 cs.toArray (0, 0) _ ((hk.block _ (blk_lt hkb) hnb).trans hkb) Tryz.underlying54 rfl (by rw [← HCS2.out]; exact hinfo2)); have HEy := Lib.hid (HE.out.step (Y := fun _ => False) (X' := fun k => W ≤ k) (Keep.of_below HB7.out) (fun _ _ h => h.elim) (fun _ _ h => h))
            have HROW := Lib.hid (fun (w8 : World) (g8 c8 : Nat) (hk : Keep (fun z => (Value.slice a row.length c).ownBlock = some z) w7 w8) (ho : w8.ownsRow W 54 19 (.slice (some ⟨g8, 0, none⟩) (row.length + 1) c8) (row.length + 1) (xs ++ cs)) (hor : (Value.slice a row.length c).ownBlock = some g8 ∨ w7.heap.size ≤ g8) =>
              ln_row (row' := row ++ [y]) (v' := .slice (some ⟨g8, 0, none⟩) (row.length + 1) c8) H7.out HP7.out ⟨H27.out, h2.2⟩ H77.out h8 H107.out h11 h12 h13 hk (by rw [List.length_append]; exact ho) (hor.elim (fun h => .inr (.inl h.symm)) (fun h => .inr (.inr ⟨g8, rfl, h⟩))) (H97.out.snoc HCL.out HEy.out) HW7.out (by rw [List.length_append]; simp; omega))
            have k5 : row.length + 1 ≤ maxLen := by unfold maxLen; omega
            have k6 : (row.length + 1) * 232 ≤ 140737488355328 := by omega
            have hWw := HW7.out; have H7L := H7; have H7 := H77; clear hkb
            go_upto_region 10 with (fail)
            refine wp_region_kept 10 (fun k => (Value.slice a row.length c).ownBlock = some k) 7 (injA W w7.heap.size p (Value.slice a row.length c).ownBlock a row.length c w.heap.size cs xs) (fun _ _ => none) rfl (by kernel_rfl) (by kernel_rfl) (injA_stab HOLN.out) (fun _ _ _ _ _ h => by cases h) (fun i oo hi ho => ?_) (fun vs w9 hb7' hs hne => ?_)
            · intro ac wa hba hbs hE hF K hK
              have b7 := keep_undrew13 hba
              have hno : ∀ k, (none : Option Nat) = some k → wa.heap.size ≤ k := fun _ h => by cases h
              have hW := b7.size
              have z1 : wa.cell? ⟨p, 1, none⟩ = some (.slice a row.length c) := by rw [blk_cell (show wa.heap[p]? = _ from (b7.block p (blk_lt HP6.out) HNG.out).trans HP6.out)]; rfl
              have hld := HLP.out wa b7
              have hi' : i = 0 ∨ i = 1 ∨ i = 2 ∨ i = 3 ∨ i = 4 ∨ i = 5 ∨ i = 6 ∨ i = 7 ∨ i = 8 ∨ i = 9 := by omega
              rcases hi' with rfl | rfl | rfl | rfl | rfl | rfl | rfl | rfl | rfl | rfl
              · obtain rfl := Option.some.inj ho
                have h1 : ac.eval (.tmp 0) = .pointer (some ⟨p, 0, none⟩) := hE 0 (by decide)
                exact news_val rfl rfl (by generalize ac.eval = ρ at h1; simp only [execOp]; go_simp) (hK _ _ (fun _ => Below.refl _ _) (Keep.refl _ _) rfl hno)
              · obtain rfl := Option.some.inj ho
                have h1 : ac.eval (.tmp 0) = .pointer (some ⟨p, 0, none⟩) := hE 0 (by decide)
                exact news_val rfl rfl (by generalize ac.eval = ρ at h1; simp only [execOp]; go_simp) (hK _ _ (fun _ => Below.refl _ _) (Keep.refl _ _) rfl hno)
              · obtain rfl := Option.some.inj ho
                have h1 : ac.eval (.tmp 45) = .pointer (some ⟨p, 0, none⟩) := hF ⟨1, .data⟩ (by simp) rfl 45 rfl
                exact news_val rfl rfl (by generalize ac.eval = ρ at h1; simp only [execOp]; go_simp) (hK _ _ (fun _ => Below.refl _ _) (Keep.refl _ _) rfl hno)
              · obtain rfl := Option.some.inj ho
                have h1 : ac.eval (.tmp 46) = .pointer (some ⟨p, 0, none⟩) := hF ⟨2, .data⟩ (by simp) rfl 46 rfl
                exact news_val rfl rfl (by generalize ac.eval = ρ at h1; simp only [execOp]; go_simp) (hK _ _ (fun _ => Below.refl _ _) (Keep.refl _ _) rfl hno)
              · obtain rfl := Option.some.inj ho
                have h1 : ac.eval (.tmp 47) = .pointer (some ⟨p, 1, none⟩) := hF ⟨3, .data⟩ (by simp) rfl 47 rfl
                exact news_val rfl rfl (by generalize ac.eval = ρ at h1; simp only [execOp]; go_simp) (hK _ _ (fun _ => Below.refl _ _) (Keep.refl _ _) rfl hno)
              · obtain rfl := Option.some.inj ho
                have h1 : ac.eval (.tmp 3) = .pointer (some ⟨w.heap.size, 0, none⟩) := hE 3 (by decide)
                exact news_load rfl rfl 54 (.tmp 3) rfl w.heap.size 0 h1 hld (hK _ _ (fun _ => Below.refl _ _) (Keep.refl _ _) rfl hno)
              · obtain rfl := Option.some.inj ho
                obtain h1 : (ac.eval (.tmp 49)) = .agg cs.toArray := hF ⟨5, .data⟩ (by simp) rfl 49 rfl
                exact news_val (w' := wa.alloc (.cells cs.toArray 54 (0, 0))) rfl rfl (by rw [HCS.out] at h1 ⊢; simp only [pkCs, mgCs] at h1 ⊢; generalize ac.eval = ρ at h1; simp only [execOp]; go_simp) (hK _ _ (fun _ => below_alloc _ _) (Keep.of_below (below_alloc _ _)) ⟨wa.heap.size, rfl, hW, blk_alloc _ _⟩ hno)
              · obtain rfl := Option.some.inj ho
                have h1 : ac.eval (.tmp 48) = .slice a row.length c := hF ⟨4, .data⟩ (by simp) rfl 48 rfl
                obtain ⟨gb, h2, hgb, hbb⟩ : ∃ h, (ac.eval (.tmp 50)) = .slice (some ⟨h, 0, none⟩) 1 1 ∧ w7.heap.size ≤ h ∧ wa.heap[h]? = some (.cells cs.toArray 54 (0, 0)) := hF ⟨6, .data⟩ (by simp) rfl 50 rfl
                refine wpOp_step rfl fun K' hK' => ?_
                refine step_append_lies _ rfl (.tmp 48) (.tmp 50) 46 rfl W 54 ii (.agg zeroPk.toArray) 19 232 Tryz.underlying46 hii hz0 hz1 hz2 rfl (by decide) (.slice a row.length c) row.length xs h1 (owns_old H7.out (below_undrew (hbs rfl))) ⟨gb, 0, none⟩ 1 1 cs h2 (by rw [HCL.out]) (World.news_of_block hbb) HONE.out (by decide) k5 k6 (Nat.le_trans hWw hW) _ rfl ?_
                intro g8 cap8 w8 hown8 hg8 hor8 hlt8
                exact hK' _ _ (hK _ _ (fun h => (h rfl).elim) ((Keep.refl _ wa).grown hg8 (fun k hk => .inr hk)) ⟨_, _, rfl, hown8, hor8.elim .inl (fun h => .inr (by omega))⟩ hno)
              · obtain rfl := Option.some.inj ho
                have h1 : ac.eval (.tmp 44) = .pointer (some ⟨p, 0, none⟩) := hF ⟨0, .data⟩ (by simp) rfl 44 rfl
                exact news_val rfl rfl (by generalize ac.eval = ρ at h1; simp only [execOp]; go_simp) (hK _ _ (fun _ => Below.refl _ _) (Keep.refl _ _) rfl hno)
              · obtain rfl := Option.some.inj ho
                have h1 : ac.eval (.tmp 52) = .pointer (some ⟨p, 0, none⟩) := hF ⟨8, .data⟩ (by simp) rfl 52 rfl
                exact news_val rfl rfl (by generalize ac.eval = ρ at h1; simp only [execOp]; go_simp) (hK _ _ (fun _ => Below.refl _ _) (Keep.refl _ _) rfl hno)
            · have e0 : vs 0 = _ := hs 0 (by omega)
              have e1 : vs 1 = _ := hs 1 (by omega); have e2 : vs 2 = _ := hs 2 (by omega); have e3 : vs 3 = _ := hs 3 (by omega); have e4 : vs 4 = _ := hs 4 (by omega); obtain e5 : (vs 5) = .agg cs.toArray := hs 5 (by omega)
              obtain ⟨gb, e6, hgb, hbb⟩ : ∃ h, (vs 6) = .slice (some ⟨h, 0, none⟩) 1 1 ∧ w7.heap.size ≤ h ∧ w9.heap[h]? = some (.cells cs.toArray 54 (0, 0)) := hs 6 (by omega)
              obtain ⟨g8, c8, e7, ho8, hor8⟩ : ∃ h d, (vs 7) = .slice (some ⟨h, 0, none⟩) (row.length + 1) d ∧ w9.ownsRow W 54 19 (.slice (some ⟨h, 0, none⟩) (row.length + 1) d) (row.length + 1) (xs ++ cs) ∧ ((Value.slice a row.length c).ownBlock = some h ∨ w7.heap.size ≤ h) := hs 7 (by omega)
              have e8 : vs 8 = _ := hs 8 (by omega); have e9 : vs 9 = _ := hs 9 (by omega)
              show wpList _ _ _ _ ((((((((((Act.put _ (some 44) (vs 0)).put (some 45) (vs 1)).put (some 46) (vs 2)).put (some 47) (vs 3)).put (some 48) (vs 4)).put (some 49) (vs 5)).put (some 50) (vs 6)).put (some 51) (vs 7)).put (some 52) (vs 8)).put (some 53) (vs 9)) _
              rw [e0, e1, e2, e3, e4, e5, e6, e7, e8, e9]; clear e0 e1 e2 e3 e4 e5 e6 e7 e8 e9 hs hne vs; obtain ⟨⟨M', hM1', hM2', hL9⟩, hK9⟩ := HROW.out w9 g8 c8 hb7' ho8 hor8; have hp7 : w9.heap[p]? = _ := (hb7'.block p (blk_lt HP6.out) HNG.out).trans HP6.out
              have m8 : w9.cell? ⟨p, 1, none⟩ = some (.slice a row.length c) := by rw [blk_cell hp7]; rfl
              have m9 := blk_frozen hp7 1; have lp7 := blk_lt hp7; have HF := Lib.hid (show LnPost W M p bad IR book NB (.int .i64 IE) w (.returned (.int .i64 0)) (w9.setCell ⟨p, 1, none⟩ (.slice (some ⟨g8, 0, none⟩) (row.length + 1) c8)) from ⟨by rw [HE0.out], (Keep.of_below (X := M) HB7.out).trans (X' := M) hK9 (fun _ _ h => h), M', hM1', fun z hz => (hM2' z hz).elim .inl (fun h => .inr (Nat.le_trans HB7.out.size h)), by rw [HR0.out]; exact hL9⟩); clear hM1' hM2' hL9 hK9 hp7 ho8 hor8 hbb hgb hb7'; simp only [List.drop_succ_cons, List.drop_zero, Act.put, List.setIfInBounds_toArray, List.set_cons_succ, List.set_cons_zero]
              go_wp2_with fail
              go_ret
              exact HF.out
    · have hd1 : (ER == 0) = false := by simpa using hE0
      have HF := Lib.hid (show LnPost W M p bad IR book NB (.int .i64 IE) w (.returned (.int .i64 4)) w3 from by
        have he : IE = 4 := by rw [HIE.out, if_neg hE0]
        exact ⟨by rw [he], Keep.of_below HB3.out, M, fun _ h => h, fun _ h => .inl h, by rw [HIR.out, he]; exact HL.out.old HB3.out⟩)
      go_wp2_with fail
      go_ret
      exact HF.out
end Go.Proofs.YtijeieamodjgbaaGreat
/- Lanes: a lane all of whose memory is younger than the arguments: what each call leaves. -/
namespace Go.Proofs.YtijeieamodjgbaaGreat
set_option maxRecDepth 100000
open Go.RowKit Go.Deep
set_option linter.unusedVariables false
set_option linter.unusedSimpArgs false
def LS (w : World) (p : Nat) (bad : List Int) (row : List Pk) (book : List Sg) (N : Nat) (wr : World) : Prop := ∃ M NB, Ln w.heap.size M wr p bad row book NB ∧ NB ≤ N ∧ Below w.heap.size w wr
section
variable {w wr : World} {p : Nat} {bad : List Int} {row : List Pk} {book : List Sg} {N : Nat}
theorem LS.below (h : LS w p bad row book N wr) : Below w.heap.size w wr := by
  obtain ⟨M, NB, h1, h2, h3⟩ := h
  exact h3
theorem LS.cap (h : LS w p bad row book N wr) : row.length ≤ 4096 := by
  obtain ⟨M, NB, h1, h2, h3⟩ := h
  exact h1.cap
theorem LS.old {w' : World} (h : LS w p bad row book N wr) (hb : Below wr.heap.size wr w') : LS w p bad row book N w' := by
  obtain ⟨M, NB, h1, h2, h3⟩ := h
  exact ⟨M, NB, h1.old hb, h2, bthen h3 hb⟩
theorem LS.mono {N' : Nat} (h : LS w p bad row book N wr) (hN : N ≤ N') : LS w p bad row book N' wr := by
  obtain ⟨M, NB, h1, h2, h3⟩ := h
  exact ⟨M, NB, h1, by omega, h3⟩
theorem LS.post {M : Nat → Prop} {NB N' : Nat} {bad' : List Int} {row' : List Pk} {book' : List Sg} {v : Value} {r : Ending} {w' : World} (hb : Below w.heap.size w wr) (hg : ∀ k, M k → w.heap.size ≤ k) (hN : NB ≤ N') (h : LnPost w.heap.size M p bad' row' book' NB v wr r w') : r = .returned v ∧ LS w p bad' row' book' N' w' := by
  obtain ⟨h1, h2, M', h3, h4, h5⟩ := h
  exact ⟨h1, M', NB, h5, hN, h2.below hb hg⟩
theorem pks_in {M : Nat → Prop} {a : Option Addr} {n c : Nat} {L : List Pk} (hb : Below w.heap.size w wr) (hg : ∀ k, M k → w.heap.size ≤ k) (h : SlAt shPk w a n c L) : PksIn w.heap.size M wr a n c L :=
  ⟨h.len, Nat.le_trans h.cap h.max, fun i y hy => by
    obtain ⟨b, o, cs, ha, hE, hc⟩ := h.cell i y hy; have hl := shPk.len hE
    have h0 : ∃ v, cs[0]? = some v := ⟨_, List.getElem?_eq_getElem (by rw [hl]; decide)⟩
    obtain ⟨v, hv⟩ := h0; have hlt := World.block_lt (hc 0 v hv)
    exact ⟨b, o, cs, ha, fun hm => by have := hg b hm; omega, rob_old (w := w) (fun w' hb' => shPk.old hE hb') (Keep.of_below hb) (fun k hk => hk), fun j u hj => below_cell hb (hc j u hj)⟩⟩
theorem LS.drop (h : LS w p bad row book N wr) {n : Int} (hn : i64 n) :
    Calls Tryz.prog 21 #[.pointer (some ⟨p, 0, none⟩), .int .i64 n] wr fun r w' => r = .returned (.bool (decide (0 < row.length))) ∧ LS w p bad (takeR row n) book N w' := by
  obtain ⟨M, NB, h1, h2, h3⟩ := h
  exact (lanedrop_any w.heap.size M p bad row book NB n wr h1 hn h3.size).mono fun r w' h => LS.post h3 h1.ge h2 h
def takeV (row : List Pk) (n : Int) : Pk := row[plc n row.length]?.getD pkZ
theorem LS.take (h : LS w p bad row book N wr) {n : Int} (hn : i64 n) :
    Calls Tryz.prog 18 #[.pointer (some ⟨p, 0, none⟩), .int .i64 n] wr fun r w' => (∃ cs : List Value, r = .returned (.tuple #[.agg cs.toArray, .bool (decide (0 < row.length))]) ∧ cs.length = 19 ∧ cs.toArray.all (·.oneCell') = true ∧ Rob (fun k => w.heap.size ≤ k) (fun w' => shPk.E w' (takeV row n) cs) w') ∧ LS w p bad (takeR row n) book N w' := by
  obtain ⟨M, NB, h1, h2, h3⟩ := h
  refine (lanetake_any w.heap.size M p bad row book NB n wr h1 hn h3.size).mono ?_
  rintro r w' ⟨hk, M', hM1, hM2, hr⟩
  cases hy : row[plc n row.length]? with
  | none =>
    rw [hy] at hr
    obtain ⟨h4, h5⟩ := hr
    have h0 : row = [] := by
      rcases Nat.eq_zero_or_pos row.length with h0 | h0
      · exact List.eq_nil_of_length_eq_zero h0
      · rw [List.getElem?_eq_getElem (plc_lt h0)] at hy; cases hy
    subst h0
    exact ⟨⟨zeroPk, h4, rfl, by simp [zeroPk, Value.oneCell'], fun w' _ => pkZ_E w'⟩, M', NB, h5, h2, hk.below h3 h1.ge⟩
  | some y =>
    rw [hy] at hr
    obtain ⟨⟨cs, h4, h6⟩, h5⟩ := hr
    have hl : decide (0 < row.length) = true := by
      have := (List.getElem?_eq_some_iff.1 hy).1
      simp; omega
    have hv : takeV row n = y := by unfold takeV; rw [hy]; rfl
    exact ⟨⟨cs, by rw [hl]; exact h4, shPk.len h6.self, all_oneCell_toArray (pk_one h6.self), by rw [hv]; exact h6⟩, M', NB, h5, h2, hk.below h3 h1.ge⟩
theorem LS.len (h : LS w p bad row book N wr) : Calls Tryz.prog 25 #[.pointer (some ⟨p, 0, none⟩)] wr fun r w' => r = .returned (.int .i64 row.length) ∧ wr = w' := by
  obtain ⟨M, NB, h1, h2, h3⟩ := h
  exact lanelen_any w.heap.size M p bad row book NB wr h1
theorem ls_new {a : Option Addr} {n c : Nat} (hs : SlAt Sh.int w a n c bad) (hb : Below w.heap.size w wr) : Calls Tryz.prog 10 #[.slice a n c] wr fun r w' => ∃ p, r = .returned (.pointer (some ⟨p, 0, none⟩)) ∧ LS w p bad [] [] 0 w' := by
  refine (lanenew_any w.heap.size a n c bad wr hb.size (hs.old hb)).mono ?_
  rintro r w' ⟨h1, M, p, rfl, h2, h3⟩
  exact ⟨p, rfl, M, 0, h3, Nat.le_refl _, bthen hb h1⟩
end
theorem pk_sz (y : Pk) : (termsP y.m).length ≤ shPk.sz y := by
  have := terms_sz y.m; have h : shPk.sz y = 1 + (1 + shMsg.sz y.m) := rfl
  omega
theorem sendN_sz (L : List Pk) : sendN L + 1 ≤ shPk.slice.sz L := by
  have h : shPk.slice.sz L = (L.map shPk.sz).sum + 1 := rfl
  have h2 : sendN L ≤ (L.map shPk.sz).sum := by
    unfold sendN
    clear h
    induction L with
    | nil => simp
    | cons y r ih => have := pk_sz y; simp only [List.map_cons, List.sum_cons]; omega
  omega
theorem mem_sz (L : List Pk) (y : Pk) (hy : y ∈ L) : shPk.sz y ≤ shPk.slice.sz L := by
  have h : shPk.slice.sz L = (L.map shPk.sz).sum + 1 := rfl
  have h2 : shPk.sz y ≤ (L.map shPk.sz).sum := by
    clear h
    induction L with
    | nil => cases hy
    | cons z r ih =>
      rw [List.map_cons, List.sum_cons]
      rcases List.mem_cons.1 hy with rfl | h
      · omega
      · have := ih h; omega
  omega
def stepsZ (l : List Stp) (k : Nat) : Nat := ((l.take k).map shStep.sz).sum
theorem stepsZ_snoc {l : List Stp} {k : Nat} {y : Stp} (h : l[k]? = some y) : stepsZ l (k + 1) = stepsZ l k + shStep.sz y := by
  unfold stepsZ
  rw [List.take_add_one, h]; simp
theorem stepsZ_le (l : List Stp) (k : Nat) : stepsZ l k + 1 ≤ shStep.slice.sz l := by
  have h : shStep.slice.sz l = (l.map shStep.sz).sum + 1 := rfl
  have h2 : stepsZ l k ≤ (l.map shStep.sz).sum := by
    unfold stepsZ
    rw [← List.take_append_drop k l, List.map_append, List.sum_append]
    simp
  omega
theorem step_sz (y : Stp) : sendN y.l ≤ shStep.sz y ∧ (∀ z ∈ y.l, (termsP z.m).length ≤ shStep.sz y) ∧ (termsP (firstP y.l).m).length ≤ shStep.sz y := by
  have h : shStep.sz y = 1 + (1 + shPk.slice.sz y.l) := rfl; have h1 := sendN_sz y.l
  refine ⟨by omega, fun z hz => ?_, ?_⟩
  · have := mem_sz y.l z hz; have := pk_sz z; omega
  · cases hl : y.l with
    | nil => simp [firstP, pkZ, termsP]
    | cons z r =>
      have := mem_sz y.l z (by rw [hl]; simp); have := pk_sz z
      show (termsP z.m).length ≤ _
      omega
end Go.Proofs.YtijeieamodjgbaaGreat
