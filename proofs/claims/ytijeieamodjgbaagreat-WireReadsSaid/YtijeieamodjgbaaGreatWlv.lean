
/- lives of witanlaw13. -/
import Derived.Test.YtijeieamodjgbaaGreatWz
import Derived.Test.YtijeieamodjgbaaGreatWw

namespace Go.Proofs.YtijeieamodjgbaaGreat
set_option maxRecDepth 100000
open Go.RowKit Go.Deep
set_option linter.unusedVariables false
set_option linter.unusedSimpArgs false
attribute [local go_sem] run_store_float

def fetchM : Mg := ⟨9, 3, 0, 0, zeroRq, 0, 0, ⟨#[]⟩, [], [], [], []⟩
theorem fetch_err : mgErr fetchM = 0 := by kernel_rfl
theorem fetch_rd : rdErr13 (mgText fetchM) = 0 := by kernel_rfl
theorem fetch_k : (rdMsg13 (mgText fetchM)).k = 9 := by kernel_rfl
theorem fetch_e : (rdMsg13 (mgText fetchM)).e = 3 := by kernel_rfl
theorem fetch_size : (mgText fetchM).size ≤ 1125899906842624 := Nat.le_trans (of_decide_eq_true (p := (mgText fetchM).size ≤ 1000) (by kernel_rfl)) (by decide)
set_option maxHeartbeats 4000000 in
theorem lives13_any (w : World) : Calls Tryz.prog 5 #[] w fun e w' => e = .returned (.bool true) ∧ Below w.heap.size w w' := by
  have CB := Lib.hid (fun w => bytes13_any fetchM none 0 0 none 0 0 none 0 0 none 0 0 w ⟨⟨by decide, by decide⟩, ⟨by decide, by decide⟩, z64, z64, zeroRq_ok, z64, (show (0 : Nat) < 18446744073709551616 by decide), (show (⟨#[]⟩ : ByteArray).size ≤ 140737488351232 by decide), sl_nil, sl_nil, sl_nil, sl_nil⟩)
  rw [fetch_err] at CB
  have CR := Lib.hid (fun w => read13_any (mgText fetchM) w fetch_size)
  have HF := Lib.hid (show rdErr13 (mgText fetchM) = 0 ∧ (rdMsg13 (mgText fetchM)).k = 9 ∧ (rdMsg13 (mgText fetchM)).e = 3 from ⟨fetch_rd, fetch_k, fetch_e⟩)
  generalize mgText fetchM = T at *
  have hcs : (mgCs fetchM none 0 0 none 0 0 none 0 0 none 0 0).toArray = #[.int .i64 9, .int .i64 3, .int .i64 0, .int .i64 0, .int .i64 0, .int .i64 0, .int .i64 0, .string ⟨#[]⟩, .float .f64 0, .int .i64 0, .int .i64 0, .float .f64 0, .string ⟨#[]⟩, .slice none 0 0, .slice none 0 0, .slice none 0 0, .slice none 0 0] := rfl
  rw [hcs] at CB
  clear hcs
  go_enter Tryz.func5, Tryz.ntmps5
  go_wp2_with fail
  refine (CB.out w).mono ?_
  rintro e w1 ⟨rfl, b1⟩
  have B1 := Lib.hid b1
  clear b1
  go_wp2_with fail
  refine (CR.out w1).mono ?_
  rintro e w2 ⟨b2, cs, rfl, hE⟩
  rw [HF.out.1]
  obtain ⟨a1, n1, c1, a2, n2, c2, a3, n3, c3, a4, n4, c4, rfl, hmi⟩ := msg_open hE.self
  rename_i hK
  refine hK _ _ ?_
  clear hK
  have HME := Lib.hid (show (rdMsg13 T).k = 9 ∧ (rdMsg13 T).e = 3 from HF.out.2)
  have B2 := Lib.hid (bthen B1.out b2)
  generalize rdMsg13 T = m at *
  obtain ⟨CS, hCS⟩ : ∃ CS, CS = (mgCs m a1 n1 c1 a2 n2 c2 a3 n3 c3 a4 n4 c4).toArray := ⟨_, rfl⟩
  rw [← hCS]
  have HCS := Lib.hid hCS
  clear hCS hE hmi b2 HF
  refine ops_val rfl (w' := w2) (v := .tuple #[.agg CS, .int .i64 0]) (by simp only [execOp]; go_simp) ?_
  simp only [Act.put, List.setIfInBounds_toArray, List.set_cons_succ, List.set_cons_zero]
  refine ops_val rfl (w' := w2) (v := .agg CS) (by simp only [execOp]; go_simp) ?_
  simp only [Act.put, List.setIfInBounds_toArray, List.set_cons_succ, List.set_cons_zero]
  refine ops_val rfl (w' := w2) (v := .int .i64 0) (by simp only [execOp]; go_simp) ?_
  simp only [Act.put, List.setIfInBounds_toArray, List.set_cons_succ, List.set_cons_zero]
  refine ops_made 35 zeroMg rfl rfl (.tmp 3) (.tmp 13) (fun ρ w => alloc_msg ρ _ rfl w) rfl (mgCs m a1 n1 c1 a2 n2 c2 a3 n3 c3 a4 n4 c4) rfl (by kernel_rfl) (mg_one m a1 n1 c1 a2 n2 c2 a3 n3 c3 a4 n4 c4) rfl (by rw [HCS.out]; rfl) fun w3 b3 k3 z3 => ?_
  simp only [Act.put, List.setIfInBounds_toArray, List.set_cons_succ, List.set_cons_zero]
  have B3 := Lib.hid (bthen B2.out b3)
  have x0 : w3.cell? ⟨w2.heap.size, 0, none⟩ = some (.int .i64 m.k) := mgAt_blk k3 0 _ rfl
  have x1 : w3.cell? ⟨w2.heap.size, 1, none⟩ = some (.int .i64 m.e) := mgAt_blk k3 1 _ rfl
  rw [HME.out.1] at x0
  rw [HME.out.2] at x1
  clear b3 k3 z3
  go_wp2_with fail
  go_ret
  exact ⟨rfl, B3.out⟩
end Go.Proofs.YtijeieamodjgbaaGreat
