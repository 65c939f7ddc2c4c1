
/- lives of witanlaw09. -/
import Derived.Test.YtelmpoaioccpoaaGa2
import Derived.Test.YtelmpoaioccpoaaBk2
import Derived.Test.YtelmpoaioccpoaaPvW
namespace Go.Proofs.Ytelmpoaioccpoaa
set_option maxRecDepth 100000
open Go.RowKit Go.Maps
set_option linter.unusedVariables false
set_option linter.unusedSimpArgs false

theorem flatV_at : ∀ (l : List Sg) (i j : Nat) (s : Sg) (v : Value), l[i]? = some s → (encS s)[j]? = some v → (flatV l)[i * 2 + j]? = some v
  | [], i, j, s, v, h, _ => by simp at h
  | y :: r, 0, j, s, v, h, hv => by
    simp at h; subst h
    show (encS y ++ flatV r)[0 * 2 + j]? = some v
    rw [Nat.zero_mul, Nat.zero_add, List.getElem?_append_left (List.getElem?_eq_some_iff.1 hv).1]; exact hv
  | y :: r, i + 1, j, s, v, h, hv => by
    show (encS y ++ flatV r)[(i + 1) * 2 + j]? = some v
    have he : (encS y).length = 2 := rfl
    rw [List.getElem?_append_right (by rw [he]; omega), he, show (i + 1) * 2 + j - 2 = i * 2 + j by omega]
    exact flatV_at r i j s v (by simpa using h) hv
theorem sl_flat {w : World} {g n c : Nat} {l : List Sg} (hl : l.length = n) (hc : ∀ t v, (flatV l)[t]? = some v → w.cell? ⟨g, t, none⟩ = some v) (hok : ∀ s ∈ l, sgOk s) (hnc : n ≤ c) (hm : c ≤ 9223372036854775807) (hb : n * 24 ≤ 140737488355328) : SlAt shSig w (some ⟨g, 0, none⟩) n c l :=
  ⟨hl, hnc, hm, hb, fun h => (by cases h), fun i y hy => by
    obtain ⟨x, t⟩ := y
    obtain ⟨h1, h2⟩ := hok _ (List.mem_of_getElem? hy)
    refine ⟨g, 0, [.int .i64 x, .string t], rfl, ⟨_, _, rfl, ⟨rfl, h1⟩, rfl, h2⟩, fun j v hv => ?_⟩
    rw [Nat.zero_add]
    exact hc _ _ (flatV_at l i j _ v hy hv)⟩
theorem sl_made {w : World} {g : Nat} {l : List Sg} {t : TypeId} {fr : Nat × Nat} (hb : w.heap[g]? = some (.cells (flatV l).toArray t fr)) (hok : ∀ s ∈ l, sgOk s) (hn : l.length * 24 ≤ 140737488355328) : SlAt shSig w (some ⟨g, 0, none⟩) l.length l.length l :=
  sl_flat rfl (fun t v hv => by rw [blk_cell hb]; simpa using hv) hok (Nat.le_refl _) (by omega) hn
/-- An owned row of signatures reads as a slice. -/
theorem sl_owned {w : World} {B n c : Nat} {a : Option Addr} {l : List Sg} (h : w.ownsRow B 34 2 (.slice a n c) l.length (flatV l)) (hok : ∀ s ∈ l, sgOk s) (hb : l.length * 24 ≤ 140737488355328) : SlAt shSig w a n c l := by
  rcases h.2 with ⟨hv, h0⟩ | ⟨g, cap, cur, hv, hB, hg, hnc, hcm, _, _⟩
  · injection hv with h1 h2 h3
    subst h1 h2 h3
    exact ⟨h0, Nat.le_refl _, by omega, by omega, fun _ => rfl, fun i y hy => by rw [List.eq_nil_of_length_eq_zero h0] at hy; cases hy⟩
  · injection hv with h1 h2 h3
    subst h1 h2 h3
    have hmax : maxLen = 9223372036854775807 := rfl
    exact sl_flat rfl (fun t v hv => by
      have := h.cells (g := g) rfl t v hv
      rwa [Addr.add_lit, Nat.zero_add] at this) hok hnc (by omega) hb

def lx : List Sg := [(1, ⟨#[120]⟩), (2, ⟨#[120]⟩), (4, ⟨#[120]⟩)]
theorem lx_ok : ∀ s ∈ lx, sgOk s := by
  intro s hs
  simp [lx] at hs
  rcases hs with rfl | rfl | rfl <;> exact ⟨by simp [i64], by decide⟩
theorem lx_proves : provesB 0 [1, 2, 3, 4] ⟨#[120]⟩ lx = true := by decide +kernel
theorem lx_gat : (gatP ⟨#[120]⟩ lx [1, 2, 3, 4]).length = 3 := by
  rw [(gatP_perm _ _ _).length_eq]; decide +kernel
theorem lx_note : noteP [] lx = lx := by decide +kernel
theorem lx_mem : decide (((2, ⟨#[120]⟩) : Sg) ∈ lx) = true := by decide +kernel

set_option maxHeartbeats 2000000 in
theorem lives09_any (w : World) : Calls Try.prog 10 #[] w fun e w' => e = .returned (.bool true) ∧ Below w.heap.size w w' := by
  obtain ⟨w3, hw3⟩ : ∃ w3, w3 = ((w.alloc (.cells #[.int .i64 1, .int .i64 2, .int .i64 3, .int .i64 4] 3)).alloc (.cells #[.int .i64 0, .slice (some ⟨w.heap.size, 0, none⟩) 4 4] 24)).alloc (.cells #[.int .i64 1, .string ⟨#[120]⟩, .int .i64 2, .string ⟨#[120]⟩, .int .i64 4, .string ⟨#[120]⟩] 34) := ⟨_, rfl⟩
  have b1 := below_alloc w (.cells #[.int .i64 1, .int .i64 2, .int .i64 3, .int .i64 4] 3)
  have b2 := below_alloc (w.alloc (.cells #[.int .i64 1, .int .i64 2, .int .i64 3, .int .i64 4] 3)) (.cells #[.int .i64 0, .slice (some ⟨w.heap.size, 0, none⟩) 4 4] 24)
  have b3 := below_alloc ((w.alloc (.cells #[.int .i64 1, .int .i64 2, .int .i64 3, .int .i64 4] 3)).alloc (.cells #[.int .i64 0, .slice (some ⟨w.heap.size, 0, none⟩) 4 4] 24)) (.cells #[.int .i64 1, .string ⟨#[120]⟩, .int .i64 2, .string ⟨#[120]⟩, .int .i64 4, .string ⟨#[120]⟩] 34)
  have B3 := Lib.hid (show Below w.heap.size w w3 by rw [hw3]; exact bthen (bthen b1 b2) b3)
  have K0 := Lib.hid (show w3.heap[w.heap.size]? = some (.cells #[.int .i64 1, .int .i64 2, .int .i64 3, .int .i64 4] 3 (0, 0)) by rw [hw3]; exact blk_below (blk_below (blk_alloc _ _) b2) b3)
  have K1 := Lib.hid (show w3.heap[w.heap.size + 1]? = some (.cells #[.int .i64 0, .slice (some ⟨w.heap.size, 0, none⟩) 4 4] 24 (0, 0)) by
    have := blk_alloc (w.alloc (.cells #[.int .i64 1, .int .i64 2, .int .i64 3, .int .i64 4] 3)) (.cells #[.int .i64 0, .slice (some ⟨w.heap.size, 0, none⟩) 4 4] 24)
    rw [World.size_alloc] at this
    rw [hw3]; exact blk_below this b3)
  have K2 := Lib.hid (show w3.heap[w.heap.size + 1 + 1]? = some (.cells #[.int .i64 1, .string ⟨#[120]⟩, .int .i64 2, .string ⟨#[120]⟩, .int .i64 4, .string ⟨#[120]⟩] 34 (0, 0)) by
    have := blk_alloc ((w.alloc (.cells #[.int .i64 1, .int .i64 2, .int .i64 3, .int .i64 4] 3)).alloc (.cells #[.int .i64 0, .slice (some ⟨w.heap.size, 0, none⟩) 4 4] 24)) (.cells #[.int .i64 1, .string ⟨#[120]⟩, .int .i64 2, .string ⟨#[120]⟩, .int .i64 4, .string ⟨#[120]⟩] 34)
    rw [World.size_alloc, World.size_alloc] at this
    rw [hw3]; exact this)
  have hz : w3.heap.size = w.heap.size + 1 + 1 + 1 := by rw [hw3]; simp
  clear b1 b2 b3
  go_enter Try.func10, Try.ntmps10
  go_wp2_with fail
  rw [← hw3]
  clear hw3
  refine (bnew_any _).mono ?_
  rintro r w4 ⟨rfl, hbk, b4⟩
  simp only [hz] at hbk ⊢
  have HB4 := Lib.hid hbk
  have K0 := Lib.hid (blk_below K0.out b4)
  have K1 := Lib.hid (blk_below K1.out b4)
  have K2 := Lib.hid (blk_below K2.out b4)
  have B4 := Lib.hid (bthen B3.out b4)
  clear hbk b4 B3 hz
  have CN := Lib.hid (note_any ((w.heap.size + 1 + 1 + 1) + 1) (w.heap.size + 1 + 1 + 1) [] 0 (some ⟨w.heap.size + 1 + 1, 0, none⟩) 3 3 lx w4 HB4.out (fun w' hk => sl_made (l := lx) (by rw [hk.block _ (blk_lt K2.out) (by omega)]; exact K2.out) lx_ok (by decide)) (by omega))
  rw [lx_note] at CN
  have hq1 : ¬ (w.heap.size + 1 + 1 + 1) + 1 = w.heap.size + 1 + 1 := by omega
  go_wp2_with fail
  refine CN.out.mono ?_
  rintro r w5 ⟨rfl, hb5, k5⟩
  have K0 := Lib.hid (show w5.heap[w.heap.size]? = _ from (k5.block _ (blk_lt K0.out) (by omega)).trans K0.out)
  have K1 := Lib.hid (show w5.heap[w.heap.size + 1]? = _ from (k5.block _ (blk_lt K1.out) (by omega)).trans K1.out)
  have K2 := Lib.hid (show w5.heap[w.heap.size + 1 + 1]? = _ from (k5.block _ (blk_lt K2.out) (by omega)).trans K2.out)
  have B5 := Lib.hid (k5.below B4.out (fun k hk => by omega))
  have HB5 := Lib.hid (show BookIs w5 (.pointer (some ⟨(w.heap.size + 1 + 1 + 1) + 1, 0, none⟩)) lx from .inr ⟨_, _, _, rfl, hb5, by omega⟩)
  clear hb5 k5 CN HB4 B4
  have HI := Lib.hid (show ∀ w', w'.heap[w.heap.size]? = some (.cells #[.int .i64 1, .int .i64 2, .int .i64 3, .int .i64 4] 3 (0, 0)) → IntsAt w' (some ⟨w.heap.size, 0, none⟩) 4 [1, 2, 3, 4] from fun w' hb => ⟨rfl, by omega, fun i hi => ⟨w.heap.size, 0, rfl, by
    rw [blk_cell hb]
    have : i = 0 ∨ i = 1 ∨ i = 2 ∨ i = 3 := by omega
    rcases this with rfl | rfl | rfl | rfl <;> rfl⟩, fun x hx => by
      simp at hx; rcases hx with rfl | rfl | rfl | rfl <;> simp [i64]⟩)
  have HS := Lib.hid (show ∀ w', w'.heap[w.heap.size + 1 + 1]? = some (.cells #[.int .i64 1, .string ⟨#[120]⟩, .int .i64 2, .string ⟨#[120]⟩, .int .i64 4, .string ⟨#[120]⟩] 34 (0, 0)) → SlAt shSig w' (some ⟨w.heap.size + 1 + 1, 0, none⟩) 3 3 lx from fun w' hb => sl_made (l := lx) hb lx_ok (by decide))
  have CP := Lib.hid (proves_any 0 (some ⟨w.heap.size, 0, none⟩) 4 4 [1, 2, 3, 4] ⟨#[120]⟩ (some ⟨w.heap.size + 1 + 1, 0, none⟩) 3 3 lx w5 (HI.out _ K0.out) (HS.out _ K2.out))
  rw [lx_proves] at CP
  have CC := Lib.hid (fun w' (h0 : _) (h2 : _) => count_any 0 (some ⟨w.heap.size, 0, none⟩) 4 4 [1, 2, 3, 4] ⟨#[120]⟩ (some ⟨w.heap.size + 1 + 1, 0, none⟩) 3 3 lx w' (HI.out w' h0) (HS.out w' h2) (by decide))
  rw [lx_gat] at CC
  have x0 : w5.cell? ⟨w.heap.size + 1, 0, none⟩ = some (.int .i64 0) := by rw [blk_cell K1.out]; rfl
  have x1 : w5.cell? ⟨w.heap.size + 1, 1, none⟩ = some (.slice (some ⟨w.heap.size, 0, none⟩) 4 4) := by rw [blk_cell K1.out]; rfl
  go_wp2_with fail
  refine CP.out.mono ?_
  rintro r w6 ⟨rfl, b6⟩
  have K0 := Lib.hid (blk_below K0.out b6)
  have K1 := Lib.hid (blk_below K1.out b6)
  have K2 := Lib.hid (blk_below K2.out b6)
  have B6 := Lib.hid (bthen B5.out b6)
  have HB6 := Lib.hid (HB5.out.old b6)
  clear b6 x0 x1 CP B5 HB5
  have x0 : w6.cell? ⟨w.heap.size + 1, 0, none⟩ = some (.int .i64 0) := by rw [blk_cell K1.out]; rfl
  have x1 : w6.cell? ⟨w.heap.size + 1, 1, none⟩ = some (.slice (some ⟨w.heap.size, 0, none⟩) 4 4) := by rw [blk_cell K1.out]; rfl
  go_wp2_with fail
  refine (CC.out w6 K0.out K2.out).mono ?_
  rintro r w7 ⟨rfl, b7⟩
  have K2 := Lib.hid (blk_below K2.out b7)
  have B7 := Lib.hid (bthen B6.out b7)
  have HB7 := Lib.hid (HB6.out.old b7)
  clear b7 x0 x1 B6 HB6 CC
  have y0 : w7.cell? ⟨w.heap.size + 1 + 1, 2, none⟩ = some (.int .i64 2) := by rw [blk_cell K2.out]; rfl
  have y1 : w7.cell? ⟨w.heap.size + 1 + 1, 3, none⟩ = some (.string ⟨#[120]⟩) := by rw [blk_cell K2.out]; rfl
  have CH := bhas_any _ lx (2, ⟨#[120]⟩) w7 HB7.out ⟨by simp [i64], by decide⟩
  rw [lx_mem] at CH
  unfold sgV at CH
  replace CH := Lib.hid CH
  go_wp2_with fail
  refine CH.out.mono ?_
  rintro r w8 ⟨rfl, b8⟩
  have CL := Lib.hid (blen_any _ lx w8 (HB7.out.old b8))
  have B8 := Lib.hid (bthen B7.out b8)
  clear b8 y0 y1 CH B7
  go_wp2_with fail
  refine CL.out.mono ?_
  rintro r w9 ⟨rfl, rfl⟩
  go_wp2_with fail
  go_ret
  exact ⟨rfl, B8.out⟩
end Go.Proofs.Ytelmpoaioccpoaa
