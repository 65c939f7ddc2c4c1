
/- The client: Open. -/
import Derived.Test.YtijeieamodjgbabCi
import Derived.Test.YtijeieamodjgbabLg

namespace Go.Proofs.Ytijeieamodjgbab
set_option maxRecDepth 100000
open Go.RowKit Go.Maps Go.Deep
set_option linter.unusedVariables false
set_option linter.unusedSimpArgs false
attribute [local go_sem] run_store_float

def openA (p : Nat) (c s kind : Int) (key : ByteArray) (b : Nat) (qi : Int) (D : Bool) : Nat → World → Value → Prop
  | 0 => fun _ v => v = .pointer (some ⟨p, 0, none⟩)
  | 1 => fun _ v => v = .pointer (some ⟨p, 0, none⟩)
  | 2 => fun _ v => v = .pointer (some ⟨p, 3, none⟩)
  | 3 => fun _ v => v = .agg #[.int .i64 c, .int .i64 s, .int .i64 kind, .string key, .float .f64 b, .int .i64 qi]
  | 4 => fun _ v => v = .pointer (some ⟨p, 0, none⟩)
  | 5 => fun w v => v = .bool D
  | _ => fun _ _ => False
theorem openA_stab {p : Nat} {c s kind : Int} {key : ByteArray} {b : Nat} {qi : Int} {D : Bool} : ∀ i w w' v, openA p c s kind key b qi D i w v → Below w.heap.size w w' → openA p c s kind key b qi D i w' v
  | 0, w, w', v, h, hb => h
  | 1, w, w', v, h, hb => h
  | 2, w, w', v, h, hb => h
  | 3, w, w', v, h, hb => h
  | 4, w, w', v, h, hb => h
  | 5, w, w', v, h, hb => h
  | _ + 6, w, w', v, h, hb => h

set_option maxHeartbeats 2000000 in
theorem open_any {Z : Nat → Prop} {B p : Nat} {s : Cst} (w : World) (h : Cli Z w B p s) :
    Calls Try.prog 7 #[.pointer (some ⟨p, 0, none⟩)] w fun r w' => r = .returned (.tuple #[s.q.v, .bool (wtB s)]) ∧ Below w.heap.size w w' := by
  obtain ⟨X, t, oc, os, om, oa, ob, h, hz⟩ := h.ex
  obtain ⟨va, vb, hp, -⟩ := h.ex
  obtain ⟨w6, hw6⟩ : ∃ w6, w6 = w.alloc (.cells #[.int .i64 0, .int .i64 0, .int .i64 0, .string ⟨#[]⟩, .float .f64 0, .int .i64 0] 35 (0, 0)) := ⟨_, rfl⟩
  have b6 : Below w.heap.size w w6 := by rw [hw6]; exact below_alloc _ _
  have k6 : w6.heap[w.heap.size]? = some (.cells #[.int .i64 0, .int .i64 0, .int .i64 0, .string ⟨#[]⟩, .float .f64 0, .int .i64 0] 35 (0, 0)) := by rw [hw6]; exact blk_alloc _ _
  have CW := Lib.hid (fun (wa : World) (hb : Below w6.heap.size w6 wa) => waiting_any wa (h.old (bthen b6 hb)))
  generalize wtB s = D at *
  generalize s.id = id at *
  generalize s.st = st at *
  generalize s.q = q at *
  obtain ⟨c, s, kind, key, b, qi⟩ := q
  dsimp only [Rq.v] at *
  have HP6 := Lib.hid (blk_below hp b6)
  have B6 := Lib.hid b6
  have K6 := Lib.hid k6
  clear h hz hp b6 k6
  go_enter Try.func7, Try.ntmps7
  go_upto_region 3 with (fail)
  rw [← hw6]
  clear hw6
  refine wp_region_made 6 (openA p c s kind key b qi D) (fun _ _ => none) rfl (by kernel_rfl) (by kernel_rfl) openA_stab (fun _ _ _ _ _ h => by cases h) (fun i oo hi ho => ?_) (fun vs w7 hb7 hs hne => ?_)
  · intro ac wa hba hE hF K hK
    have b7 := below_undrew hba
    have hno : ∀ k, (none : Option Nat) = some k → wa.heap.size ≤ k := fun _ h => by cases h
    have KPa := blk_below HP6.out b7
    have z3 : wa.cell? ⟨p, 3, none⟩ = some (.int .i64 c) := by rw [blk_cell KPa]; rfl
    have z4 : wa.cell? ⟨p, 4, none⟩ = some (.int .i64 s) := by rw [blk_cell KPa]; rfl
    have z5 : wa.cell? ⟨p, 5, none⟩ = some (.int .i64 kind) := by rw [blk_cell KPa]; rfl
    have z6 : wa.cell? ⟨p, 6, none⟩ = some (.string key) := by rw [blk_cell KPa]; rfl
    have z7 : wa.cell? ⟨p, 7, none⟩ = some (.float .f64 b) := by rw [blk_cell KPa]; rfl
    have z8 : wa.cell? ⟨p, 8, none⟩ = some (.int .i64 qi) := by rw [blk_cell KPa]; rfl
    have hi' : i = 0 ∨ i = 1 ∨ i = 2 ∨ i = 3 ∨ i = 4 ∨ i = 5 := by omega
    rcases hi' with rfl | rfl | rfl | rfl | rfl | rfl
    · obtain rfl := Option.some.inj ho
      have h1 : ac.eval (.tmp 0) = .pointer (some ⟨p, 0, none⟩) := hE 0 (by decide)
      exact news_val rfl rfl (by generalize ac.eval = ρ at h1; simp only [execOp]; go_simp) (hK _ _ (Below.refl _ _) rfl hno)
    · obtain rfl := Option.some.inj ho
      have h1 : ac.eval (.tmp 7) = .pointer (some ⟨p, 0, none⟩) := hF ⟨0, .data⟩ (by simp) rfl 7 rfl
      exact news_val rfl rfl (by generalize ac.eval = ρ at h1; simp only [execOp]; go_simp) (hK _ _ (Below.refl _ _) rfl hno)
    · obtain rfl := Option.some.inj ho
      have h1 : ac.eval (.tmp 8) = .pointer (some ⟨p, 0, none⟩) := hF ⟨1, .data⟩ (by simp) rfl 8 rfl
      exact news_val rfl rfl (by generalize ac.eval = ρ at h1; simp only [execOp]; go_simp) (hK _ _ (Below.refl _ _) rfl hno)
    · obtain rfl := Option.some.inj ho
      have h1 : ac.eval (.tmp 9) = .pointer (some ⟨p, 3, none⟩) := hF ⟨2, .data⟩ (by simp) rfl 9 rfl
      exact news_val rfl rfl (by generalize ac.eval = ρ at h1; simp only [execOp]; go_simp) (hK _ _ (Below.refl _ _) rfl hno)
    · obtain rfl := Option.some.inj ho
      have h1 : ac.eval (.tmp 0) = .pointer (some ⟨p, 0, none⟩) := hE 0 (by decide)
      exact news_val rfl rfl (by generalize ac.eval = ρ at h1; simp only [execOp]; go_simp) (hK _ _ (Below.refl _ _) rfl hno)
    · obtain rfl := Option.some.inj ho
      have h1 : ac.eval (.tmp 11) = .pointer (some ⟨p, 0, none⟩) := hF ⟨4, .data⟩ (by simp) rfl 11 rfl
      have hf : ac.eval (.func 24) = .func (.func 24) #[] #[] := rfl
      refine made_call rfl rfl 24 #[.pointer (some ⟨p, 0, none⟩)] (by generalize ac.eval = ρ at h1 hf; simp only [execOp]; go_simp) (CW.out wa b7) ?_
      rintro r w8 ⟨rfl, rfl⟩
      exact ⟨_, rfl, hK _ _ (Below.refl _ _) rfl hno⟩
  · have e0 : vs 0 = _ := hs 0 (by omega)
    have e1 : vs 1 = _ := hs 1 (by omega)
    have e2 : vs 2 = _ := hs 2 (by omega)
    have e3 : vs 3 = _ := hs 3 (by omega)
    have e4 : vs 4 = _ := hs 4 (by omega)
    obtain e5 : (vs 5) = .bool D := hs 5 (by omega)
    show wpList _ _ _ _ ((((((Act.put _ (some 7) (vs 0)).put (some 8) (vs 1)).put (some 9) (vs 2)).put (some 10) (vs 3)).put (some 11) (vs 4)).put (some 12) (vs 5)) _
    rw [e0, e1, e2, e3, e4, e5]
    clear e0 e1 e2 e3 e4 e5 hs hne vs
    simp only [List.drop_succ_cons, List.drop_zero, Act.put, List.setIfInBounds_toArray, List.set_cons_succ, List.set_cons_zero]
    have kk := blk_below K6.out hb7
    have y0 : w7.cell? ⟨w.heap.size, 0, none⟩ = some (.int .i64 0) := by rw [blk_cell kk]; rfl
    have y1 : w7.cell? ⟨w.heap.size, 1, none⟩ = some (.int .i64 0) := by rw [blk_cell kk]; rfl
    have y2 : w7.cell? ⟨w.heap.size, 2, none⟩ = some (.int .i64 0) := by rw [blk_cell kk]; rfl
    have y3 : w7.cell? ⟨w.heap.size, 3, none⟩ = some (.string ⟨#[]⟩) := by rw [blk_cell kk]; rfl
    have y4 : w7.cell? ⟨w.heap.size, 4, none⟩ = some (.float .f64 0) := by rw [blk_cell kk]; rfl
    have y5 : w7.cell? ⟨w.heap.size, 5, none⟩ = some (.int .i64 0) := by rw [blk_cell kk]; rfl
    have yf : ∀ o, w7.frozen? ⟨w.heap.size, o, none⟩ = false := fun o => blk_frozen kk o
    have HB := Lib.hid (bthen B6.out hb7)
    clear kk hb7
    go_wp2_with fail
    exact bodyPost_ret (v := .tuple #[.agg #[.int .i64 c, .int .i64 s, .int .i64 kind, .string key, .float .f64 b, .int .i64 qi], .bool D]) (by simp [results, Try.results7, go_sem, y0, y1, y2, y3, y4, y5]) rfl ⟨rfl, ((((((HB.out.setCell (Nat.le_refl _) _).setCell (Nat.le_refl _) _).setCell (Nat.le_refl _) _).setCell (Nat.le_refl _) _).setCell (Nat.le_refl _) _).setCell (Nat.le_refl _) _)⟩
end Go.Proofs.Ytijeieamodjgbab
