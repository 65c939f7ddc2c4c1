
/- Walk of the program's Terms. -/
import Derived.Test.YtijeieamodjgbaaWm
import Derived.Test.YtijeieamodjgbaaOwn
import Derived.Laws.AppendOwn
import Derived.Test.YtijeieamodjgbaaTk

namespace Go.Proofs.Ytijeieamodjgbaa
set_option maxRecDepth 100000
open Go.RowKit
set_option linter.unusedVariables false
set_option linter.unusedSimpArgs false
attribute [local go_sem] run_store_float

/-- The captured list: a block of one cell, its row elsewhere; all from B on. -/
def TmAt (w : World) (B ob : Nat) (acc : List Sg) : Prop := B ≤ ob ∧ ∃ v, w.heap[ob]? = some (.cells #[v] 30 (0, 0)) ∧ w.ownsRow B 49 2 v acc.length (sigV acc) ∧ v.ownBlock ≠ some ob
theorem TmAt.old {w w' : World} {B ob : Nat} {acc : List Sg} (h : TmAt w B ob acc) (hb : Below w.heap.size w w') : TmAt w' B ob acc := by
  obtain ⟨h0, v, h1, h2, h3⟩ := h
  exact ⟨h0, v, blk_below h1 hb, owns_old h2 hb, h3⟩
/-- Blocks that are no row of signatures, nor the list's own, stay. -/
def KeepT (ob : Nat) (w w' : World) : Prop := ∀ k cs t fr, w.heap[k]? = some (.cells cs t fr) → t ≠ 49 → k ≠ ob → w'.heap[k]? = some (.cells cs t fr)
theorem KeepT.trans {ob : Nat} {w w1 w2 : World} (h : KeepT ob w w1) (h2 : KeepT ob w1 w2) : KeepT ob w w2 := fun k cs t fr hk ht hne => h2 k cs t fr (h k cs t fr hk ht hne) ht hne
theorem KeepT.below {ob : Nat} {w w1 : World} (h : Below w.heap.size w w1) : KeepT ob w w1 := fun k cs t fr hk _ _ => blk_below hk h
theorem KeepT.refl (ob : Nat) (w : World) : KeepT ob w w := fun _ _ _ _ h _ _ => h
set_option maxHeartbeats 1000000 in
theorem take_c (B ob : Nat) (acc : List Sg) (a : Option Addr) (n c : Nat) (l : List Sg) (w : World) (h : TmAt w B ob acc) (hB : B ≤ w.heap.size) (hs : SlAt shSig w a n c l) (hb : (acc.length + l.length) * 24 ≤ 140737488355328) :
    Calls Try.prog 71 #[.slice a n c, .pointer (some ⟨ob, 0, none⟩)] w fun r w' => r = .returned (.tuple #[]) ∧ TmAt w' B ob (acc ++ l) ∧ Below B w w' ∧ KeepT ob w w' := by
  obtain ⟨ii, hi, hz0, hz1, hz2⟩ := info_parts info_sig'
  obtain ⟨h0, v, h1, h2, h3⟩ := h
  obtain ⟨av, cv, rfl⟩ := owns_form h2
  have hx : w.cell? ⟨ob, 0, none⟩ = some (.slice av acc.length cv) := by rw [blk_cell h1]; rfl
  have hf := blk_frozen h1 0
  have hlt := blk_lt h1
  have q1 : (sigV l).length = n * 2 := by rw [sigV_len, hs.len]
  have hn := hs.len
  have k1 : acc.length + n ≤ maxLen := by unfold maxLen; omega
  have k2 : (acc.length + n) * 24 ≤ 140737488355328 := by rw [← hn]; exact hb
  have hnil : a = none → n = 0 ∧ c = 0 := fun h => ⟨by have := hs.nil h; have := hs.cap; omega, hs.nil h⟩
  have HS := Lib.hid hs; have H1 := Lib.hid h1; have H2 := Lib.hid h2; have H3 := Lib.hid h3
  clear h1 h2 h3 hs
  go_enter Try.func71, Try.ntmps71
  go_wp2_with (first | (at_builtin; refine wpList_append_any_at _ rfl (.tmp 3) (.tmp 4) 30 rfl B 49 ii (.agg #[.int .i64 0, .string ⟨#[]⟩]) 2 24 Try.underlying30 hi hz0 hz1 hz2 rfl (by decide) (.slice av acc.length cv) acc.length (sigV acc) rfl H2.out a n c (sigV l) rfl q1 hnil (sigs_news HS.out) (sigV_one l) k1 k2 hB ?_) | fail)
  intro v' w8 ho8 hg8 hor8
  obtain ⟨a8, c8, rfl⟩ := owns_form ho8
  have K8 : Keep (fun k => (Value.slice av acc.length cv).ownBlock = some k) w w8 := (Keep.refl _ w).grown hg8 (fun k hk => .inr hk)
  have hp8 : w8.heap[ob]? = some (.cells #[.slice av acc.length cv] 30 (0, 0)) := (K8.block ob hlt H3.out).trans H1.out
  have x8 : w8.cell? ⟨ob, 0, none⟩ = some (.slice av acc.length cv) := by rw [blk_cell hp8]; rfl
  have f8 := blk_frozen hp8 0
  have hne : (Value.slice a8 (acc.length + n) c8).ownBlock ≠ some ob := by
    rcases hor8 with h | h
    · rw [h]; exact H3.out
    · rw [h]; intro hc; injection hc with hc; omega
  have k9 := blk_set hp8 0 (.slice a8 (acc.length + n) c8)
  simp only [List.setIfInBounds_toArray, List.set_cons_zero] at k9
  have HF := Lib.hid (show TmAt (w8.setCell ⟨ob, 0, none⟩ (.slice a8 (acc.length + n) c8)) B ob (acc ++ l) from ⟨h0, _, k9, by
    have := owns_setother ho8 hne 0 (.slice a8 (acc.length + n) c8)
    rw [List.length_append, HS.out.len, show sigV (acc ++ l) = sigV acc ++ sigV l by simp [sigV]]
    exact this, hne⟩)
  have HB := Lib.hid (show Below B w (w8.setCell ⟨ob, 0, none⟩ (.slice a8 (acc.length + n) c8)) from
    (show Below B w w8 from ⟨K8.os, K8.tape, K8.output, K8.size, fun k hk => K8.block k (by omega) (fun hc => by have := (H2.out.lt k hc).1; omega)⟩).setCell h0 _)
  have HK := Lib.hid (show KeepT ob w (w8.setCell ⟨ob, 0, none⟩ (.slice a8 (acc.length + n) c8)) from fun k cs t fr hk ht hko => blk_set_other ((K8.block k (blk_lt hk) (fun hc => by
    rcases H2.out.2 with ⟨hv, _⟩ | ⟨g, cap, cur, hv, _, hg, _⟩
    · rw [hv] at hc; cases hc
    · rw [hv] at hc
      have h1 : g = k := by simpa [Value.ownBlock] using hc
      rw [h1, hk] at hg
      injection hg with hg
      injection hg with _ hg _
      exact ht hg)).trans hk) _ _ _ hko)
  clear ho8 hg8 hor8 K8 hp8 k9 hne hx hf
  go_wp2_with fail
  go_end0
  exact ⟨rfl, HF.out, HB.out, HK.out⟩

theorem TmAt.call {w w0 : World} {ob : Nat} {acc : List Sg} {a : Option Addr} {n c : Nat} {l : List Sg} (h : TmAt w w0.heap.size ob acc) (hb : Below w0.heap.size w0 w) (hs : SlAt shSig w a n c l) (hl : (acc.length + l.length) * 24 ≤ 140737488355328) :
    Calls Try.prog 71 #[.slice a n c, .pointer (some ⟨ob, 0, none⟩)] w fun r w' => r = .returned (.tuple #[]) ∧ TmAt w' w0.heap.size ob (acc ++ l) ∧ Below w0.heap.size w0 w' ∧ KeepT ob w w' :=
  (take_c _ ob acc a n c l w h hb.size hs hl).mono fun r w' ⟨h1, h2, h3, h4⟩ => ⟨h1, h2, hb.trans h3, h4⟩
end Go.Proofs.Ytijeieamodjgbaa

/- Walk of the reference's Terms. -/
namespace Go.Proofs.Ytijeieamodjgbaa
set_option maxRecDepth 100000
open Go.RowKit
set_option linter.unusedVariables false
set_option linter.unusedSimpArgs false
attribute [local go_sem] run_store_float

/-- A row of signatures under way. -/
def TrAt (w1 w : World) (v : Value) (acc : List Sg) : Prop := Below w1.heap.size w1 w ∧ ∃ a c, v = .slice a acc.length c ∧ w.ownsRow w1.heap.size 49 2 v acc.length (sigV acc)
theorem TrAt.old {w1 w w' : World} {v : Value} {acc : List Sg} (h : TrAt w1 w v acc) (hb : Below w.heap.size w w') : TrAt w1 w' v acc := by
  obtain ⟨h0, a, c, h1, h2⟩ := h
  exact ⟨h0.trans (hb.mono h0.size), a, c, h1, owns_old h2 hb⟩
end Go.Proofs.Ytijeieamodjgbaa
