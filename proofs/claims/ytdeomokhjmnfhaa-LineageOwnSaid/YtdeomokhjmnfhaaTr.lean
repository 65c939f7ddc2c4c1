
/- The program's tracker: what it is in memory; walks of own, Epoch. -/
import Derived.Test.YtdeomokhjmnfhaaKp
import Derived.Test.YtdeomokhjmnfhaaCl
import Derived.Test.YtdeomokhjmnfhaaPhase
namespace Go.Proofs.Ytdeomokhjmnfhaa
open Go.RowKit
set_option linter.unusedVariables false

theorem ints_row {w : World} {B n c : Nat} {a : Option Addr} {l : List Int} (h : w.ownsRow B 3 1 (.slice a n c) n (intsV l)) (hl : l.length = n) (hf : ∀ x ∈ l, i64 x) (hb : n * 8 ≤ 140737488355328) : SlAt Sh.int w a n c l := by
  subst hl
  have hm : maxLen = 9223372036854775807 := rfl
  obtain ⟨a', c', hv, hi⟩ := owns_ints h hf (by omega)
  injection hv with h1 h2 h3
  subst h1 h3
  rcases h.2 with ⟨hv, h0⟩ | ⟨g, cap, cur, hv, hB, hg, hnc, hcm, _, _⟩
  · injection hv with h1 h2 h3
    exact sl_of_ints hi (by omega) (by omega) hb (fun _ => h3)
  · injection hv with h1 h2 h3
    subst h3
    exact sl_of_ints hi hnc (by omega) hb (fun h => by rw [h1] at h; cases h)
theorem sigs_row {w : World} {B n c : Nat} {a : Option Addr} {l : List Sg} (h : w.ownsRow B 62 2 (.slice a n c) n (sigV l)) (hl : l.length = n) (hf : ∀ s ∈ l, i64 s.1 ∧ s.2.size ≤ 140737488351232) (hb : n * 24 ≤ 140737488355328) : SlAt shSig w a n c l := by
  subst hl
  have hr : ∀ (l : List Sg), (∀ s ∈ l, i64 s.1 ∧ s.2.size ≤ 140737488351232) → rowOf shSig (fun _ => False) w l (sigV l) := by
    intro l
    induction l with
    | nil => intro _; rfl
    | cons s r ih =>
      intro hf
      refine ⟨[.int .i64 s.1, .string s.2], sigV r, rfl, rfl, fun w' _ => ?_, ih (fun x hx => hf x (List.mem_cons_of_mem _ hx))⟩
      obtain ⟨h1, h2⟩ := hf s (List.mem_cons_self ..)
      exact ⟨[.int .i64 s.1], [.string s.2], rfl, ⟨rfl, h1⟩, rfl, h2⟩
  exact sl_of_row (S := shSig) h (hr l hf) hb
theorem sl_fit {w : World} {a : Option Addr} {n c : Nat} {l : List Sg} (h : SlAt shSig w a n c l) : ∀ s ∈ l, i64 s.1 ∧ s.2.size ≤ 140737488351232 := fun s hs => by
  obtain ⟨i, hi, rfl⟩ := List.getElem_of_mem hs
  obtain ⟨b, o, x, t, _, hit, _, _, h1, h2⟩ := sig_cells h (by rw [← h.len]; exact hi)
  have : l[i]? = some l[i] := List.getElem?_eq_getElem hi
  rw [this] at hit
  injection hit with hit
  rw [hit]; exact ⟨h1, h2⟩

/-- A configuration's cells with members of its own: whatever is done to older blocks. -/
theorem conf_rob {X : Nat → Prop} {w : World} {B n c : Nat} {a : Option Addr} {e : Int} {l : List Int} (h : w.ownsRow B 3 1 (.slice a n c) n (intsV l)) (hl : l.length = n) (hX : ∀ k, (Value.slice a n c).ownBlock = some k → ¬ X k) (he : i64 e) (hf : ∀ x ∈ l, i64 x) (hb : n * 8 ≤ 140737488355328) :
    Rob X (fun w' => shConf.E w' (e, l) [.int .i64 e, .slice a n c]) w := fun w' hk => by
  have h2 := owns_keep h hk hX
  exact ⟨[.int .i64 e], [.slice a n c], rfl, ⟨rfl, he⟩, a, n, c, rfl, ints_row h2 hl hf hb⟩
theorem sigs_rob {X : Nat → Prop} {w : World} {B n c : Nat} {a : Option Addr} {l : List Sg} (h : w.ownsRow B 62 2 (.slice a n c) n (sigV l)) (hl : l.length = n) (hX : ∀ k, (Value.slice a n c).ownBlock = some k → ¬ X k) (hf : ∀ s ∈ l, i64 s.1 ∧ s.2.size ≤ 140737488351232) (hb : n * 24 ≤ 140737488355328) :
    Rob X (fun w' => shSig.slice.E w' l [.slice a n c]) w := fun w' hk => by
  have h2 := owns_keep h hk hX
  exact ⟨a, n, c, rfl, sigs_row h2 hl hf hb⟩

/-- What own answers: a configuration with members of its own. -/
def OwnPost (e0 : Int) (n : Nat) (l : List Int) (w : World) (r : Ending) (w' : World) : Prop :=
  ∃ a' c', r = .returned (.agg #[.int .i64 e0, .slice a' n c']) ∧ w'.ownsRow w.heap.size 3 1 (.slice a' n c') n (intsV l) ∧ Below w.heap.size w w'

set_option maxHeartbeats 1000000 in
theorem own_any (e0 : Int) (a : Option Addr) (n c : Nat) (l : List Int) (w : World) (h : IntsAt w a n l) (hn : a = none → c = 0 ∧ n = 0) (hb : n * 8 ≤ 140737488355328) :
    Calls Try.prog 33 #[.agg #[.int .i64 e0, .slice a n c]] w (OwnPost e0 n l w) := by
  obtain ⟨w1, hw1⟩ : ∃ w1, w1 = (w.alloc (.cells #[.int .i64 e0, .slice a n c] 24)).alloc (.cells #[.int .i64 0, .slice none 0 0] 24) := ⟨_, rfl⟩
  have b1 := below_alloc w (.cells #[.int .i64 e0, .slice a n c] 24)
  have b2 := below_alloc (w.alloc (.cells #[.int .i64 e0, .slice a n c] 24)) (.cells #[.int .i64 0, .slice none 0 0] 24)
  have B1 : Below w.heap.size w w1 := by rw [hw1]; exact bthen b1 b2
  have hz : w1.heap.size = w.heap.size + 2 := by rw [hw1]; simp
  have k0 : w1.heap[w.heap.size]? = some (.cells #[.int .i64 e0, .slice a n c] 24 (0, 0)) := by rw [hw1]; exact blk_below (blk_alloc _ _) b2
  have k1 : w1.heap[w.heap.size + 1]? = some (.cells #[.int .i64 0, .slice none 0 0] 24 (0, 0)) := by
    have := blk_alloc (w.alloc (.cells #[.int .i64 e0, .slice a n c] 24)) (.cells #[.int .i64 0, .slice none 0 0] 24)
    rw [World.size_alloc] at this
    rw [hw1]; exact this
  have CC := Lib.hid (fun (w' : World) (hh : w'.heap = w1.heap) => clone_ints a n c l w' (by
    have hx := h.below B1
    exact ⟨hx.len, hx.max, fun i hi => by
      obtain ⟨b, o, ha, hc⟩ := hx.cell i hi
      exact ⟨b, o, ha, by rw [← hc]; exact World.cell?_of_block (by rw [hh])⟩, hx.fit⟩) hn hb)
  have K0 := Lib.hid k0; have K1 := Lib.hid k1; have BB := Lib.hid B1
  clear h b1 b2 B1 hn
  go_enter Try.func33, Try.ntmps33
  go_wp2_with fail
  rw [← hw1]
  clear hw1
  have x0 : w1.cell? ⟨w.heap.size, 0, none⟩ = some (.int .i64 e0) := by rw [blk_cell k0]; rfl
  have x1 : w1.cell? ⟨w.heap.size, 1, none⟩ = some (.slice a n c) := by rw [blk_cell k0]; rfl
  have y0 : w1.cell? ⟨w.heap.size + 1, 0, none⟩ = some (.int .i64 0) := by rw [blk_cell k1]; rfl
  have y1 : w1.cell? ⟨w.heap.size + 1, 1, none⟩ = some (.slice none 0 0) := by rw [blk_cell k1]; rfl
  have z1 : ∀ o, w1.frozen? ⟨w.heap.size + 1, o, none⟩ = false := fun o => blk_frozen k1 o
  clear k0 k1
  go_region_law (refine step_at 55 rfl ?_; refine step_calls rfl 55 #[.slice a n c] (by go_simp) (CC.out _ rfl) ?_; rintro e w6 ⟨v6, rfl, ho6, b6⟩; obtain ⟨a6, c6, rfl⟩ := owns_slice ho6; refine ⟨_, rfl, ?_⟩; have q0 := below_cell b6 (w := w1.drew) (b := w.heap.size) (o := 0) (v := .int .i64 e0) (by simpa using x0); have q1 := below_cell b6 (w := w1.drew) (b := w.heap.size + 1) (o := 0) (v := .int .i64 0) (by simpa using y0); have q2 := below_cell b6 (w := w1.drew) (b := w.heap.size + 1) (o := 1) (v := .slice none 0 0) (by simpa using y1); have q3 : ∀ o, w6.frozen? ⟨w.heap.size + 1, o, none⟩ = false := (fun o => by rw [b6.frozen (p := ⟨w.heap.size + 1, o, none⟩) (by show _ < w1.drew.heap.size; simp; omega)]; simpa using z1 o))
  all_goals
    have B6 := Lib.hid (bthen BB.out (bthen (below_drewN (Below.refl _ _) 1) b6))
    have hk6 : w6.heap[w.heap.size + 1]? = some (.cells #[.int .i64 0, .slice none 0 0] 24 (0, 0)) := by
      rw [b6.block _ (by show _ < w1.drew.heap.size; simp; omega)]; exact K1.out
    have hs := blk_set (blk_set hk6 0 (.int .i64 e0)) 1 (.slice a6 n c6)
    have d0 : ((w6.setCell ⟨w.heap.size + 1, 0, none⟩ (.int .i64 e0)).setCell ⟨w.heap.size + 1, 1, none⟩ (.slice a6 n c6)).cell? ⟨w.heap.size + 1, 0, none⟩ = some (.int .i64 e0) := by rw [blk_cell hs]; rfl
    have d1 : ((w6.setCell ⟨w.heap.size + 1, 0, none⟩ (.int .i64 e0)).setCell ⟨w.heap.size + 1, 1, none⟩ (.slice a6 n c6)).cell? ⟨w.heap.size + 1, 1, none⟩ = some (.slice a6 n c6) := by rw [blk_cell hs]; rfl
    have hz1 : w1.drew.heap.size = w.heap.size + 2 := by simpa using hz
    rw [hz1] at ho6
    have HO := Lib.hid (owns_lower (owns_setlow (owns_setlow ho6 (show w.heap.size + 1 < w.heap.size + 2 by omega) 0 (.int .i64 e0)) (show w.heap.size + 1 < w.heap.size + 2 by omega) 1 (.slice a6 n c6)) (show w.heap.size ≤ w.heap.size + 2 by omega))
    have HB := Lib.hid ((B6.out.setCell (p := ⟨w.heap.size + 1, 0, none⟩) (Nat.le_succ _) (.int .i64 e0)).setCell (p := ⟨w.heap.size + 1, 1, none⟩) (Nat.le_succ _) (.slice a6 n c6))
    clear hs hk6 ho6 b6 q0 q1 q2 q3
    go_wp2_with fail
    exact bodyPost_ret (v := .agg #[.int .i64 e0, .slice a6 n c6]) (by simp [results, Try.results33, go_sem, d0, d1]) rfl ⟨a6, c6, rfl, HO.out, HB.out⟩
end Go.Proofs.Ytdeomokhjmnfhaa
