
/- DeedsReads: what a text is read as, of a request and of a result, is what the document says, of any bytes: for every input the law returns true, and its argument reads as before. No condition. -/
import Derived.Test.YtnmhmbfhaiaaoaaDr4
import Derived.Test.YtnmhmbfhaiaaoaaDw
import Derived.Test.YtnmhmbfhaiaaoaaDrP
namespace Go.Proofs.Ytnmhmbfhaiaaoaa.deedsReads
set_option maxRecDepth 100000
open Go.ChangeShapes Go.WideShapes Go.ChangeAt Go.RowKit
set_option linter.unusedVariables false
set_option linter.unusedSimpArgs false
attribute [local go_sem] run_store_float

theorem whole_self (x : Rq) : wholeB x x = true := by simp [wholeB]
theorem sameRes_self (c : Int) (b : Nat) : sameResB c b c b = true := by simp [sameResB]
theorem res_at {w : World} {p : Nat} {c : Int} {b : Nat} {t : TypeId} {fr : Nat × Nat} (h : w.heap[p]? = some (.cells #[.int .i64 c, .float .f64 b] t fr)) : w.cell? ⟨p, 0, none⟩ = some (.int .i64 c) ∧ w.cell? ⟨p, 1, none⟩ = some (.float .f64 b) :=
  ⟨by rw [blk_cell h]; rfl, by rw [blk_cell h]; rfl⟩

set_option maxHeartbeats 2000000 in
theorem walk (w : World) (text : ByteArray) (hts : text.size ≤ 140737488351232) :
    Calls Try.prog 6 #[.string text] w fun e w' => e = .returned (.bool true) ∧ Below w.heap.size w w' := by
  have CA := Lib.hid (fun w => qread_any text w hts)
  have CB := Lib.hid (fun w => rread_any text w hts)
  have CC := Lib.hid (fun w => readres_any text w hts)
  have CD := Lib.hid (fun w => rreadres_any text w hts)
  have CW := Lib.hid (fun w => whole_rq (readRq text.data.toList) (readRq text.data.toList) (readRq_ok _).b (readRq_ok _).b w)
  have CS := Lib.hid (fun w => sameres_any (rsC text.data.toList) (rsB text.data.toList) (rsC text.data.toList) (rsB text.data.toList) w (rsB_lt _) (rsB_lt _))
  rw [whole_self] at CW
  rw [sameRes_self] at CS
  generalize readRq text.data.toList = Y at *
  generalize readErr text.data.toList = ye at *
  generalize rsC text.data.toList = rc at *
  generalize rsB text.data.toList = rb at *
  generalize rsE text.data.toList = re at *
  clear hts
  obtain ⟨yc, ys, yk, yt, yb, yi⟩ := Y
  unfold Rq.v at *
  dsimp only at *
  go_enter Try.func6, Try.ntmps6
  go_wp2_with fail
  refine (lives11_any _).mono ?_
  rintro r w1 ⟨rfl, b1⟩
  have B1 := Lib.hid b1
  clear b1
  go_wp2_with fail
  refine (CA.out _).mono ?_
  rintro r w2 ⟨rfl, b2⟩
  have K2 := Lib.hid (blk_alloc w2 (.cells #[.int .i64 yc, .int .i64 ys, .int .i64 yk, .string yt, .float .f64 yb, .int .i64 yi] 30 (0, 0)))
  have B2 := Lib.hid (balloc (bthen B1.out b2) (.cells #[.int .i64 yc, .int .i64 ys, .int .i64 yk, .string yt, .float .f64 yb, .int .i64 yi] 30 (0, 0)))
  clear b2 B1 CA
  go_wp2_with fail
  refine (CB.out _).mono ?_
  rintro r w3 ⟨rfl, b3⟩
  have K3 := Lib.hid (blk_below (blk_below K2.out b3) (below_alloc w3 (.cells #[.int .i64 yc, .int .i64 ys, .int .i64 yk, .string yt, .float .f64 yb, .int .i64 yi] 30 (0, 0))))
  have L3 := Lib.hid (blk_alloc w3 (.cells #[.int .i64 yc, .int .i64 ys, .int .i64 yk, .string yt, .float .f64 yb, .int .i64 yi] 30 (0, 0)))
  have B3 := Lib.hid (balloc (bthen B2.out b3) (.cells #[.int .i64 yc, .int .i64 ys, .int .i64 yk, .string yt, .float .f64 yb, .int .i64 yi] 30 (0, 0)))
  clear b3 B2 CB K2
  go_wp2_with fail
  refine (CC.out _).mono ?_
  rintro r w4 ⟨rfl, b4⟩
  have K4 := Lib.hid (blk_below (blk_below K3.out b4) (below_alloc w4 (.cells #[.int .i64 rc, .float .f64 rb] 42 (0, 0))))
  have L4 := Lib.hid (blk_below (blk_below L3.out b4) (below_alloc w4 (.cells #[.int .i64 rc, .float .f64 rb] 42 (0, 0))))
  have M4 := Lib.hid (blk_alloc w4 (.cells #[.int .i64 rc, .float .f64 rb] 42 (0, 0)))
  have B4 := Lib.hid (balloc (bthen B3.out b4) (.cells #[.int .i64 rc, .float .f64 rb] 42 (0, 0)))
  clear b4 B3 CC K3 L3
  go_wp2_with fail
  refine (CD.out _).mono ?_
  rintro r w5 ⟨rfl, b5⟩
  have K5 := Lib.hid (blk_below (blk_below K4.out b5) (below_alloc w5 (.cells #[.int .i64 rc, .float .f64 rb] 42 (0, 0))))
  have L5 := Lib.hid (blk_below (blk_below L4.out b5) (below_alloc w5 (.cells #[.int .i64 rc, .float .f64 rb] 42 (0, 0))))
  have M5 := Lib.hid (blk_below (blk_below M4.out b5) (below_alloc w5 (.cells #[.int .i64 rc, .float .f64 rb] 42 (0, 0))))
  have N5 := Lib.hid (blk_alloc w5 (.cells #[.int .i64 rc, .float .f64 rb] 42 (0, 0)))
  have B5 := Lib.hid (balloc (bthen B4.out b5) (.cells #[.int .i64 rc, .float .f64 rb] 42 (0, 0)))
  clear b5 B4 CD K4 L4 M4
  obtain ⟨x0, x1, x2, x3, x4, x5⟩ := rqAt_blk K5.out
  obtain ⟨y0, y1, y2, y3, y4, y5⟩ := rqAt_blk L5.out
  go_wp2_with fail
  refine (CW.out _).mono ?_
  rintro r w6 ⟨rfl, b6⟩
  obtain ⟨u0, u1⟩ := res_at (blk_below M5.out b6)
  obtain ⟨v0, v1⟩ := res_at (blk_below N5.out b6)
  have B6 := Lib.hid (bthen B5.out b6)
  clear b6 B5 x0 x1 x2 x3 x4 x5 y0 y1 y2 y3 y4 y5 K5 L5 M5 N5 CW
  go_wp2_with fail
  refine (CS.out _).mono ?_
  rintro r w7 ⟨rfl, b7⟩
  have B7 := Lib.hid (bthen B6.out b7)
  clear b7 B6 u0 u1 v0 v1 CS
  go_wp2_with fail
  go_ret
  exact ⟨rfl, B7.out⟩
set_option maxRecDepth 100000 in
theorem lifted (os : Os) (started : os.Started) (H : Type) (enc : TypeId × Value → H) :
    ReturnsInHanded {} Try.checked os 6 .any (Rows.deedsReadsSpec.pre6 enc Try.prog Try.f6 Rows.deedsReadsRow.domain false) (Rows.deedsReadsSpec.post enc Try.prog Try.f6 false true false false) := by
  refine returnsInHanded_of_change_sized (C := Try.checked) own started (by kernel_rfl) Try.func6
    (ChangeSpec.witness6 (enc := enc) (C := Try.checked) false ⟨#[], #[.string ⟨#[]⟩], []⟩ 8 (by kernel_rfl) (by kernel_rfl) (by kernel_rfl) (by kernel_rfl)) ?_
  intro W base args ds gs before hval0 hW hcnd hsz _
  have hval : ∀ (j : Nat) t v, Try.f6.params[j]? = some t → args[j]? = some v → Value.okWide Try.prog W .any base t v := hval0
  have hW' := hW
  obtain ⟨p, q, hA0, hV, rfl, hfz, hnd⟩ := hW
  have hA : DataW.TrodAll enc Try.prog W 0 (fun _ => true) true Try.f6.params.toList args.toList ds p := hA0
  rw [Try.params6] at hA hval hsz
  have hA2 := hA
  obtain ⟨v0, vs0, d0, ds0, p0, q0, hargs, rfl, rfl, h0, r0⟩ := trodAll_cons hA
  obtain ⟨rfl, rfl, rfl⟩ := trodAll_nil r0
  obtain rfl : args = #[v0] := by cases args; simp_all
  obtain ⟨rfl, rfl⟩ := trodVars_none hV
  clear hargs
  have k0 := hval 0 9 v0 rfl rfl
  obtain ⟨fu0, m0⟩ := h0
  have w0 := weights_of hsz (j := 0) (t := 9) rfl rfl
  obtain ⟨a0, e0, f0⟩ := view_string Try.underlying9 m0 w0
  have e0' := string_of Try.underlying9 k0 e0
  subst e0'
  refine (walk W a0 f0).mono fun e W' ⟨he, bel⟩ => ?_
  subst he
  exact ⟨_, rfl, _, _, _, [], _, [], hW', trodAll_mk1 (shut_bool Try.underlying4 _), trodAll_again laidOut bel (by kernel_rfl) hA2, rfl, bel.frame _, fun h => by cases h⟩

theorem over : Rows.deedsReadsRow.holds Try.pinned (OpenSpec.ofChange Rows.deedsReadsSpec) :=
  OpenClaim.holds_of_wide 6 Try.f6 rfl rfl rfl rfl rfl rfl rfl ⟨rfl, rfl, rfl, rfl, rfl⟩ rfl rfl rfl rfl rfl (by kernel_rfl) Try.func6 (by kernel_rfl)
    (of_decide_eq_true (by kernel_rfl)) (by unfold Func.isWrapper; first | (rw [if_pos (by decide +kernel)]; kernel_rfl) | (rw [if_neg (by decide +kernel)]; exact ⟨rfl, rfl⟩))
    (fun os started H enc _ => lifted os started H enc)

theorem proved : Rows.DeedsReadsSaid := over
#print axioms proved
end Go.Proofs.Ytnmhmbfhaiaaoaa.deedsReads
