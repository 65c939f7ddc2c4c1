
/- Walks of letter and of (*Reader).value. -/
import Derived.Test.YtijeieamodjgbaaGreatRdW
import Derived.Test.YtijeieamodjgbaaGreatQuiet
import Derived.Tactics
import Derived.Tactics2
import Derived.Defers
import Derived.Recover
import Derived.Laws.Pointers

namespace Go.Proofs.YtijeieamodjgbaaGreat
set_option maxRecDepth 100000
open Go.RowKit
set_option linter.unusedVariables false

theorem prd_below {p : Nat} {text : ByteArray} {w w' : World} {s : R} (hr : PRd w p text s) (hb : Below w.heap.size w w') : PRd w' p text s := by
  obtain ⟨at0, ha, hts, hk, hrest⟩ := hr
  exact ⟨at0, ha, hts, blk_below hk hb, hrest⟩
theorem prd_lt {p : Nat} {text : ByteArray} {w : World} {s : R} (hr : PRd w p text s) : p < w.heap.size := by
  obtain ⟨at0, ha, hts, hk, hrest⟩ := hr
  exact blk_lt hk

theorem prd_set {p : Nat} {text : ByteArray} {w : World} {s : R} (hr : PRd w p text s) {g : Nat} (o : Nat) (v : Value) (hg : ¬ g = p) : PRd (w.setCell ⟨g, o, none⟩ v) p text s := by
  obtain ⟨at0, ha, hts, hk, hrest⟩ := hr
  exact ⟨at0, ha, hts, blk_set_other hk _ _ _ (fun h => hg h.symm), hrest⟩
theorem Only.set_new {p : Nat} {ob : Option Nat} {w w' : World} (h : Only p ob w w') {g : Nat} (o : Nat) (v : Value) (hg : w.heap.size ≤ g) : Only p ob w (w'.setCell ⟨g, o, none⟩ v) :=
  ⟨h.os, h.tape, h.output, by rw [show (w'.setCell ⟨g, o, none⟩ v).heap.size = w'.heap.size by simp [World.setCell]]; exact h.size, fun k hk hp hob => by
    rw [Below.heap_setCell _ _ _ _ (by show k ≠ g; omega)]; exact h.block k hk hp hob⟩

def letterB (x : Int) : Bool := x == 98 || x == 119 || x == 108 || x == 113 || x == 116
theorem letter_any (x : Int) (w : World) : Calls Tryz.prog 148 #[.int .u8 x] w fun e w' => e = .returned (.bool (letterB x)) ∧ w = w' := by
  by_cases h : x = 98 ∨ x = 119 ∨ x = 108 ∨ x = 113 ∨ x = 116
  · have hl := Lib.hid (show letterB x = true by rcases h with rfl | rfl | rfl | rfl | rfl <;> rfl)
    rcases h with rfl | rfl | rfl | rfl | rfl
    all_goals
      go_enter Tryz.func148, Tryz.ntmps148
      go_wp2_with fail
      go_ret
      exact ⟨by rw [hl.out]; rfl, rfl⟩
  · have h1 : (x == 98) = false := by simp; omega
    have h2 : (x == 119) = false := by simp; omega
    have h3 : (x == 108) = false := by simp; omega
    have h4 : (x == 113) = false := by simp; omega
    have h5 : (x == 116) = false := by simp; omega
    have hl := Lib.hid (show letterB x = false by rw [letterB, h1, h2, h3, h4, h5]; rfl)
    clear h
    go_enter Tryz.func148, Tryz.ntmps148
    go_wp2_with fail
    go_ret
    exact ⟨by rw [hl.out]; rfl, rfl⟩

/-- A thing that is read. -/
structure V where
  n : Nat
  b : Nat
  t : List UInt8
def vVal (s : R) (x : Int) : V := if x = 98 then ⟨rVal s 1, 0, []⟩ else if x = 119 then ⟨rVal s 2, 0, []⟩ else if x = 108 then ⟨rVal s 4, 0, []⟩ else if x = 113 then ⟨0, rVal s 8, []⟩ else if x = 116 then ⟨0, 0, tVal s⟩ else ⟨0, 0, []⟩
def vNext (s : R) (x : Int) : R := if x = 98 then rNext s 1 else if x = 119 then rNext s 2 else if x = 108 then rNext s 4 else if x = 113 then rNext s 8 else if x = 116 then tNext s else s
def vV (v : V) : Value := .agg #[.int .i64 v.n, .int .u64 v.b, .string ⟨v.t.toArray⟩]
/-- What value leaves. -/
def VPost (w : World) (p : Nat) (text : ByteArray) (s : R) (x : Int) (e : Ending) (w' : World) : Prop :=
  e = (if (vNext s x).bad = true then .panicked [{ v := .iface 195 (.int .i64 2), recovered := false }] else .returned (vV (vVal s x))) ∧ PRd w' p text (vNext s x) ∧ Only p none w w'
theorem vpost_ok {w w' : World} {p : Nat} {text : ByteArray} {s s' : R} {x : Int} {v : V} (hn : vNext s x = s') (hv : vVal s x = v) (hb : s'.bad = false) (hr : PRd w' p text s') (ho : Only p none w w') : VPost w p text s x (.returned (vV v)) w' := by
  subst hn hv
  exact ⟨by rw [if_neg (by rw [hb]; simp)], hr, ho⟩
theorem vpost_bad {w w' : World} {p : Nat} {text : ByteArray} {s s' : R} {x : Int} (hn : vNext s x = s') (hb : s'.bad = true) (hr : PRd w' p text s') (ho : Only p none w w') : VPost w p text s x (.panicked [{ v := .iface 195 (.int .i64 2), recovered := false }]) w' := by
  subst hn
  exact ⟨by rw [if_pos hb], hr, ho⟩

set_option maxHeartbeats 1000000 in
theorem value_b (p : Nat) (text : ByteArray) (s : R) (w : World) (h : PRd w p text s) :
    Calls Tryz.prog 149 #[.pointer (some ⟨p, 0, none⟩), .int .u8 98] w (VPost w p text s 98) := by
  have hp := prd_lt h
  have hN := Lib.hid (show vNext s 98 = rNext s 1 from rfl)
  have hV := Lib.hid (show vVal s 98 = ⟨rVal s 1, 0, []⟩ from rfl)
  have hsz : (w.alloc (.cells #[.int .i64 0, .int .u64 0, .string ⟨#[]⟩] 182 (0, 0))).heap.size = w.heap.size + 1 := by simp
  have ba := blk_below (blk_alloc w (.cells #[.int .i64 0, .int .u64 0, .string ⟨#[]⟩] 182 (0, 0))) (below_alloc _ (.cells #[.int .i64 0, .int .u64 0, .string ⟨#[]⟩] 182 (0, 0)))
  have bb := blk_alloc (w.alloc (.cells #[.int .i64 0, .int .u64 0, .string ⟨#[]⟩] 182 (0, 0))) (.cells #[.int .i64 0, .int .u64 0, .string ⟨#[]⟩] 182 (0, 0))
  rw [hsz] at bb
  have B := balloc (below_alloc w (.cells #[.int .i64 0, .int .u64 0, .string ⟨#[]⟩] 182 (0, 0))) (.cells #[.int .i64 0, .int .u64 0, .string ⟨#[]⟩] 182 (0, 0))
  have C := Lib.hid (rbyte_any p text s _ (prd_below h B))
  replace ba := Lib.hid ba; replace bb := Lib.hid bb; replace B := Lib.hid B
  clear hsz h
  go_enter Tryz.func149, Tryz.ntmps149
  go_wp2_with fail
  refine C.out.mono ?_
  rintro e w1 ⟨rfl, hr, ho⟩
  have HR := Lib.hid hr
  obtain ⟨at1, _, _, hk, _⟩ := hr
  have r2 : w1.cell? ⟨p, 2, none⟩ = some (.bool (rNext s 1).bad) := by rw [blk_cell hk]; rfl
  have Hk := Lib.hid hk
  have hne1 : ¬ w.heap.size = p := by omega
  have hne2 : ¬ w.heap.size + 1 = p := by omega
  have ba1 : w1.heap[w.heap.size]? = some (.cells #[.int .i64 0, .int .u64 0, .string ⟨#[]⟩] 182 (0, 0)) := by rw [ho.block _ (blk_lt ba.out) hne1 (by simp)]; exact ba.out
  have bb1 : w1.heap[w.heap.size + 1]? = some (.cells #[.int .i64 0, .int .u64 0, .string ⟨#[]⟩] 182 (0, 0)) := by rw [ho.block _ (blk_lt bb.out) hne2 (by simp)]; exact bb.out
  have a0 : w1.cell? ⟨w.heap.size, 0, none⟩ = some (.int .i64 0) := by rw [blk_cell ba1]; rfl
  have a1 : w1.cell? ⟨w.heap.size, 1, none⟩ = some (.int .u64 0) := by rw [blk_cell ba1]; rfl
  have a2 : w1.cell? ⟨w.heap.size, 2, none⟩ = some (.string ⟨#[]⟩) := by rw [blk_cell ba1]; rfl
  have b0 : w1.cell? ⟨w.heap.size + 1, 0, none⟩ = some (.int .i64 0) := by rw [blk_cell bb1]; rfl
  have b1 : w1.cell? ⟨w.heap.size + 1, 1, none⟩ = some (.int .u64 0) := by rw [blk_cell bb1]; rfl
  have b2 : w1.cell? ⟨w.heap.size + 1, 2, none⟩ = some (.string ⟨#[]⟩) := by rw [blk_cell bb1]; rfl
  have fa : ∀ o, w1.frozen? ⟨w.heap.size, o, none⟩ = false := fun o => blk_frozen ba1 o
  have fb : ∀ o, w1.frozen? ⟨w.heap.size + 1, o, none⟩ = false := fun o => blk_frozen bb1 o
  have Ho := Lib.hid ((Only.of_below B.out : Only p none w _).trans ho (.inl rfl))
  clear hk ho C ba bb ba1 bb1 B
  cases hbad : (rNext s 1).bad with
  | true =>
    rw [hbad] at r2
    have Hbad := Lib.hid hbad; clear hbad
    go_wp2_with fail
    exact ⟨rfl, vpost_bad hN.out Hbad.out (prd_set HR.out _ _ hne2) (Ho.out.set_new _ _ (by omega))⟩
  | false =>
    rw [hbad] at r2
    have Hbad := Lib.hid hbad; clear hbad
    go_wp2_with fail
    refine bodyPost_ret (v := vV ⟨rVal s 1, 0, []⟩) (by simp [results, Tryz.results149, go_sem, vV, a0, a1, a2]) rfl ?_
    refine vpost_ok hN.out hV.out Hbad.out ?_ ?_
    · exact prd_set (prd_set (prd_set (prd_set HR.out _ _ hne2) _ _ hne1) _ _ hne1) _ _ hne1
    · exact (((Ho.out.set_new _ _ (by omega)).set_new _ _ (Nat.le_refl _)).set_new _ _ (Nat.le_refl _)).set_new _ _ (Nat.le_refl _)

set_option maxHeartbeats 1000000 in
theorem value_w (p : Nat) (text : ByteArray) (s : R) (w : World) (h : PRd w p text s) :
    Calls Tryz.prog 149 #[.pointer (some ⟨p, 0, none⟩), .int .u8 119] w (VPost w p text s 119) := by
  have hp := prd_lt h
  have hN := Lib.hid (show vNext s 119 = rNext s 2 from rfl)
  have hV := Lib.hid (show vVal s 119 = ⟨rVal s 2, 0, []⟩ from rfl)
  have hsz : (w.alloc (.cells #[.int .i64 0, .int .u64 0, .string ⟨#[]⟩] 182 (0, 0))).heap.size = w.heap.size + 1 := by simp
  have ba := blk_below (blk_alloc w (.cells #[.int .i64 0, .int .u64 0, .string ⟨#[]⟩] 182 (0, 0))) (below_alloc _ (.cells #[.int .i64 0, .int .u64 0, .string ⟨#[]⟩] 182 (0, 0)))
  have bb := blk_alloc (w.alloc (.cells #[.int .i64 0, .int .u64 0, .string ⟨#[]⟩] 182 (0, 0))) (.cells #[.int .i64 0, .int .u64 0, .string ⟨#[]⟩] 182 (0, 0))
  rw [hsz] at bb
  have B := balloc (below_alloc w (.cells #[.int .i64 0, .int .u64 0, .string ⟨#[]⟩] 182 (0, 0))) (.cells #[.int .i64 0, .int .u64 0, .string ⟨#[]⟩] 182 (0, 0))
  have C := Lib.hid (rword_any p text s _ (prd_below h B))
  replace ba := Lib.hid ba; replace bb := Lib.hid bb; replace B := Lib.hid B
  clear hsz h
  go_enter Tryz.func149, Tryz.ntmps149
  go_wp2_with fail
  refine C.out.mono ?_
  rintro e w1 ⟨rfl, hr, ho⟩
  have HR := Lib.hid hr
  obtain ⟨at1, _, _, hk, _⟩ := hr
  have r2 : w1.cell? ⟨p, 2, none⟩ = some (.bool (rNext s 2).bad) := by rw [blk_cell hk]; rfl
  have Hk := Lib.hid hk
  have hne1 : ¬ w.heap.size = p := by omega
  have hne2 : ¬ w.heap.size + 1 = p := by omega
  have ba1 : w1.heap[w.heap.size]? = some (.cells #[.int .i64 0, .int .u64 0, .string ⟨#[]⟩] 182 (0, 0)) := by rw [ho.block _ (blk_lt ba.out) hne1 (by simp)]; exact ba.out
  have bb1 : w1.heap[w.heap.size + 1]? = some (.cells #[.int .i64 0, .int .u64 0, .string ⟨#[]⟩] 182 (0, 0)) := by rw [ho.block _ (blk_lt bb.out) hne2 (by simp)]; exact bb.out
  have a0 : w1.cell? ⟨w.heap.size, 0, none⟩ = some (.int .i64 0) := by rw [blk_cell ba1]; rfl
  have a1 : w1.cell? ⟨w.heap.size, 1, none⟩ = some (.int .u64 0) := by rw [blk_cell ba1]; rfl
  have a2 : w1.cell? ⟨w.heap.size, 2, none⟩ = some (.string ⟨#[]⟩) := by rw [blk_cell ba1]; rfl
  have b0 : w1.cell? ⟨w.heap.size + 1, 0, none⟩ = some (.int .i64 0) := by rw [blk_cell bb1]; rfl
  have b1 : w1.cell? ⟨w.heap.size + 1, 1, none⟩ = some (.int .u64 0) := by rw [blk_cell bb1]; rfl
  have b2 : w1.cell? ⟨w.heap.size + 1, 2, none⟩ = some (.string ⟨#[]⟩) := by rw [blk_cell bb1]; rfl
  have fa : ∀ o, w1.frozen? ⟨w.heap.size, o, none⟩ = false := fun o => blk_frozen ba1 o
  have fb : ∀ o, w1.frozen? ⟨w.heap.size + 1, o, none⟩ = false := fun o => blk_frozen bb1 o
  have Ho := Lib.hid ((Only.of_below B.out : Only p none w _).trans ho (.inl rfl))
  clear hk ho C ba bb ba1 bb1 B
  cases hbad : (rNext s 2).bad with
  | true =>
    rw [hbad] at r2
    have Hbad := Lib.hid hbad; clear hbad
    go_wp2_with fail
    exact ⟨rfl, vpost_bad hN.out Hbad.out (prd_set HR.out _ _ hne2) (Ho.out.set_new _ _ (by omega))⟩
  | false =>
    rw [hbad] at r2
    have Hbad := Lib.hid hbad; clear hbad
    go_wp2_with fail
    refine bodyPost_ret (v := vV ⟨rVal s 2, 0, []⟩) (by simp [results, Tryz.results149, go_sem, vV, a0, a1, a2]) rfl ?_
    refine vpost_ok hN.out hV.out Hbad.out ?_ ?_
    · exact prd_set (prd_set (prd_set (prd_set HR.out _ _ hne2) _ _ hne1) _ _ hne1) _ _ hne1
    · exact (((Ho.out.set_new _ _ (by omega)).set_new _ _ (Nat.le_refl _)).set_new _ _ (Nat.le_refl _)).set_new _ _ (Nat.le_refl _)

set_option maxHeartbeats 1000000 in
theorem value_l (p : Nat) (text : ByteArray) (s : R) (w : World) (h : PRd w p text s) :
    Calls Tryz.prog 149 #[.pointer (some ⟨p, 0, none⟩), .int .u8 108] w (VPost w p text s 108) := by
  have hp := prd_lt h
  have hN := Lib.hid (show vNext s 108 = rNext s 4 from rfl)
  have hV := Lib.hid (show vVal s 108 = ⟨rVal s 4, 0, []⟩ from rfl)
  have hsz : (w.alloc (.cells #[.int .i64 0, .int .u64 0, .string ⟨#[]⟩] 182 (0, 0))).heap.size = w.heap.size + 1 := by simp
  have ba := blk_below (blk_alloc w (.cells #[.int .i64 0, .int .u64 0, .string ⟨#[]⟩] 182 (0, 0))) (below_alloc _ (.cells #[.int .i64 0, .int .u64 0, .string ⟨#[]⟩] 182 (0, 0)))
  have bb := blk_alloc (w.alloc (.cells #[.int .i64 0, .int .u64 0, .string ⟨#[]⟩] 182 (0, 0))) (.cells #[.int .i64 0, .int .u64 0, .string ⟨#[]⟩] 182 (0, 0))
  rw [hsz] at bb
  have B := balloc (below_alloc w (.cells #[.int .i64 0, .int .u64 0, .string ⟨#[]⟩] 182 (0, 0))) (.cells #[.int .i64 0, .int .u64 0, .string ⟨#[]⟩] 182 (0, 0))
  have C := Lib.hid (rlong_any p text s _ (prd_below h B))
  replace ba := Lib.hid ba; replace bb := Lib.hid bb; replace B := Lib.hid B
  clear hsz h
  go_enter Tryz.func149, Tryz.ntmps149
  go_wp2_with fail
  refine C.out.mono ?_
  rintro e w1 ⟨rfl, hr, ho⟩
  have HR := Lib.hid hr
  obtain ⟨at1, _, _, hk, _⟩ := hr
  have r2 : w1.cell? ⟨p, 2, none⟩ = some (.bool (rNext s 4).bad) := by rw [blk_cell hk]; rfl
  have Hk := Lib.hid hk
  have hne1 : ¬ w.heap.size = p := by omega
  have hne2 : ¬ w.heap.size + 1 = p := by omega
  have ba1 : w1.heap[w.heap.size]? = some (.cells #[.int .i64 0, .int .u64 0, .string ⟨#[]⟩] 182 (0, 0)) := by rw [ho.block _ (blk_lt ba.out) hne1 (by simp)]; exact ba.out
  have bb1 : w1.heap[w.heap.size + 1]? = some (.cells #[.int .i64 0, .int .u64 0, .string ⟨#[]⟩] 182 (0, 0)) := by rw [ho.block _ (blk_lt bb.out) hne2 (by simp)]; exact bb.out
  have a0 : w1.cell? ⟨w.heap.size, 0, none⟩ = some (.int .i64 0) := by rw [blk_cell ba1]; rfl
  have a1 : w1.cell? ⟨w.heap.size, 1, none⟩ = some (.int .u64 0) := by rw [blk_cell ba1]; rfl
  have a2 : w1.cell? ⟨w.heap.size, 2, none⟩ = some (.string ⟨#[]⟩) := by rw [blk_cell ba1]; rfl
  have b0 : w1.cell? ⟨w.heap.size + 1, 0, none⟩ = some (.int .i64 0) := by rw [blk_cell bb1]; rfl
  have b1 : w1.cell? ⟨w.heap.size + 1, 1, none⟩ = some (.int .u64 0) := by rw [blk_cell bb1]; rfl
  have b2 : w1.cell? ⟨w.heap.size + 1, 2, none⟩ = some (.string ⟨#[]⟩) := by rw [blk_cell bb1]; rfl
  have fa : ∀ o, w1.frozen? ⟨w.heap.size, o, none⟩ = false := fun o => blk_frozen ba1 o
  have fb : ∀ o, w1.frozen? ⟨w.heap.size + 1, o, none⟩ = false := fun o => blk_frozen bb1 o
  have Ho := Lib.hid ((Only.of_below B.out : Only p none w _).trans ho (.inl rfl))
  clear hk ho C ba bb ba1 bb1 B
  cases hbad : (rNext s 4).bad with
  | true =>
    rw [hbad] at r2
    have Hbad := Lib.hid hbad; clear hbad
    go_wp2_with fail
    exact ⟨rfl, vpost_bad hN.out Hbad.out (prd_set HR.out _ _ hne2) (Ho.out.set_new _ _ (by omega))⟩
  | false =>
    rw [hbad] at r2
    have Hbad := Lib.hid hbad; clear hbad
    go_wp2_with fail
    refine bodyPost_ret (v := vV ⟨rVal s 4, 0, []⟩) (by simp [results, Tryz.results149, go_sem, vV, a0, a1, a2]) rfl ?_
    refine vpost_ok hN.out hV.out Hbad.out ?_ ?_
    · exact prd_set (prd_set (prd_set (prd_set HR.out _ _ hne2) _ _ hne1) _ _ hne1) _ _ hne1
    · exact (((Ho.out.set_new _ _ (by omega)).set_new _ _ (Nat.le_refl _)).set_new _ _ (Nat.le_refl _)).set_new _ _ (Nat.le_refl _)

set_option maxHeartbeats 1000000 in
theorem value_q (p : Nat) (text : ByteArray) (s : R) (w : World) (h : PRd w p text s) :
    Calls Tryz.prog 149 #[.pointer (some ⟨p, 0, none⟩), .int .u8 113] w (VPost w p text s 113) := by
  have hp := prd_lt h
  have hN := Lib.hid (show vNext s 113 = rNext s 8 from rfl)
  have hV := Lib.hid (show vVal s 113 = ⟨0, rVal s 8, []⟩ from rfl)
  have hsz : (w.alloc (.cells #[.int .i64 0, .int .u64 0, .string ⟨#[]⟩] 182 (0, 0))).heap.size = w.heap.size + 1 := by simp
  have ba := blk_below (blk_alloc w (.cells #[.int .i64 0, .int .u64 0, .string ⟨#[]⟩] 182 (0, 0))) (below_alloc _ (.cells #[.int .i64 0, .int .u64 0, .string ⟨#[]⟩] 182 (0, 0)))
  have bb := blk_alloc (w.alloc (.cells #[.int .i64 0, .int .u64 0, .string ⟨#[]⟩] 182 (0, 0))) (.cells #[.int .i64 0, .int .u64 0, .string ⟨#[]⟩] 182 (0, 0))
  rw [hsz] at bb
  have B := balloc (below_alloc w (.cells #[.int .i64 0, .int .u64 0, .string ⟨#[]⟩] 182 (0, 0))) (.cells #[.int .i64 0, .int .u64 0, .string ⟨#[]⟩] 182 (0, 0))
  have C := Lib.hid (rdbits_any p text s _ (prd_below h B))
  replace ba := Lib.hid ba; replace bb := Lib.hid bb; replace B := Lib.hid B
  clear hsz h
  go_enter Tryz.func149, Tryz.ntmps149
  go_wp2_with fail
  refine C.out.mono ?_
  rintro e w1 ⟨rfl, hr, ho⟩
  have HR := Lib.hid hr
  obtain ⟨at1, _, _, hk, _⟩ := hr
  have r2 : w1.cell? ⟨p, 2, none⟩ = some (.bool (rNext s 8).bad) := by rw [blk_cell hk]; rfl
  have Hk := Lib.hid hk
  have hne1 : ¬ w.heap.size = p := by omega
  have hne2 : ¬ w.heap.size + 1 = p := by omega
  have ba1 : w1.heap[w.heap.size]? = some (.cells #[.int .i64 0, .int .u64 0, .string ⟨#[]⟩] 182 (0, 0)) := by rw [ho.block _ (blk_lt ba.out) hne1 (by simp)]; exact ba.out
  have bb1 : w1.heap[w.heap.size + 1]? = some (.cells #[.int .i64 0, .int .u64 0, .string ⟨#[]⟩] 182 (0, 0)) := by rw [ho.block _ (blk_lt bb.out) hne2 (by simp)]; exact bb.out
  have a0 : w1.cell? ⟨w.heap.size, 0, none⟩ = some (.int .i64 0) := by rw [blk_cell ba1]; rfl
  have a1 : w1.cell? ⟨w.heap.size, 1, none⟩ = some (.int .u64 0) := by rw [blk_cell ba1]; rfl
  have a2 : w1.cell? ⟨w.heap.size, 2, none⟩ = some (.string ⟨#[]⟩) := by rw [blk_cell ba1]; rfl
  have b0 : w1.cell? ⟨w.heap.size + 1, 0, none⟩ = some (.int .i64 0) := by rw [blk_cell bb1]; rfl
  have b1 : w1.cell? ⟨w.heap.size + 1, 1, none⟩ = some (.int .u64 0) := by rw [blk_cell bb1]; rfl
  have b2 : w1.cell? ⟨w.heap.size + 1, 2, none⟩ = some (.string ⟨#[]⟩) := by rw [blk_cell bb1]; rfl
  have fa : ∀ o, w1.frozen? ⟨w.heap.size, o, none⟩ = false := fun o => blk_frozen ba1 o
  have fb : ∀ o, w1.frozen? ⟨w.heap.size + 1, o, none⟩ = false := fun o => blk_frozen bb1 o
  have Ho := Lib.hid ((Only.of_below B.out : Only p none w _).trans ho (.inl rfl))
  clear hk ho C ba bb ba1 bb1 B
  cases hbad : (rNext s 8).bad with
  | true =>
    rw [hbad] at r2
    have Hbad := Lib.hid hbad; clear hbad
    go_wp2_with fail
    exact ⟨rfl, vpost_bad hN.out Hbad.out (prd_set HR.out _ _ hne2) (Ho.out.set_new _ _ (by omega))⟩
  | false =>
    rw [hbad] at r2
    have Hbad := Lib.hid hbad; clear hbad
    go_wp2_with fail
    refine bodyPost_ret (v := vV ⟨0, rVal s 8, []⟩) (by simp [results, Tryz.results149, go_sem, vV, a0, a1, a2]) rfl ?_
    refine vpost_ok hN.out hV.out Hbad.out ?_ ?_
    · exact prd_set (prd_set (prd_set (prd_set HR.out _ _ hne2) _ _ hne1) _ _ hne1) _ _ hne1
    · exact (((Ho.out.set_new _ _ (by omega)).set_new _ _ (Nat.le_refl _)).set_new _ _ (Nat.le_refl _)).set_new _ _ (Nat.le_refl _)

set_option maxHeartbeats 1000000 in
theorem value_t (p : Nat) (text : ByteArray) (s : R) (w : World) (h : PRd w p text s) :
    Calls Tryz.prog 149 #[.pointer (some ⟨p, 0, none⟩), .int .u8 116] w (VPost w p text s 116) := by
  have hp := prd_lt h
  have hN := Lib.hid (show vNext s 116 = tNext s from rfl)
  have hV := Lib.hid (show vVal s 116 = ⟨0, 0, tVal s⟩ from rfl)
  have hsz : (w.alloc (.cells #[.int .i64 0, .int .u64 0, .string ⟨#[]⟩] 182 (0, 0))).heap.size = w.heap.size + 1 := by simp
  have ba := blk_below (blk_alloc w (.cells #[.int .i64 0, .int .u64 0, .string ⟨#[]⟩] 182 (0, 0))) (below_alloc _ (.cells #[.int .i64 0, .int .u64 0, .string ⟨#[]⟩] 182 (0, 0)))
  have bb := blk_alloc (w.alloc (.cells #[.int .i64 0, .int .u64 0, .string ⟨#[]⟩] 182 (0, 0))) (.cells #[.int .i64 0, .int .u64 0, .string ⟨#[]⟩] 182 (0, 0))
  rw [hsz] at bb
  have B := balloc (below_alloc w (.cells #[.int .i64 0, .int .u64 0, .string ⟨#[]⟩] 182 (0, 0))) (.cells #[.int .i64 0, .int .u64 0, .string ⟨#[]⟩] 182 (0, 0))
  have C := Lib.hid (rdtext_any p text s _ (prd_below h B))
  replace ba := Lib.hid ba; replace bb := Lib.hid bb; replace B := Lib.hid B
  clear hsz h
  go_enter Tryz.func149, Tryz.ntmps149
  go_wp2_with fail
  refine C.out.mono ?_
  rintro e w1 ⟨rfl, hr, ho⟩
  have HR := Lib.hid hr
  obtain ⟨at1, _, _, hk, _⟩ := hr
  have r2 : w1.cell? ⟨p, 2, none⟩ = some (.bool (tNext s).bad) := by rw [blk_cell hk]; rfl
  have Hk := Lib.hid hk
  have hne1 : ¬ w.heap.size = p := by omega
  have hne2 : ¬ w.heap.size + 1 = p := by omega
  have ba1 : w1.heap[w.heap.size]? = some (.cells #[.int .i64 0, .int .u64 0, .string ⟨#[]⟩] 182 (0, 0)) := by rw [ho.block _ (blk_lt ba.out) hne1 (by simp)]; exact ba.out
  have bb1 : w1.heap[w.heap.size + 1]? = some (.cells #[.int .i64 0, .int .u64 0, .string ⟨#[]⟩] 182 (0, 0)) := by rw [ho.block _ (blk_lt bb.out) hne2 (by simp)]; exact bb.out
  have a0 : w1.cell? ⟨w.heap.size, 0, none⟩ = some (.int .i64 0) := by rw [blk_cell ba1]; rfl
  have a1 : w1.cell? ⟨w.heap.size, 1, none⟩ = some (.int .u64 0) := by rw [blk_cell ba1]; rfl
  have a2 : w1.cell? ⟨w.heap.size, 2, none⟩ = some (.string ⟨#[]⟩) := by rw [blk_cell ba1]; rfl
  have b0 : w1.cell? ⟨w.heap.size + 1, 0, none⟩ = some (.int .i64 0) := by rw [blk_cell bb1]; rfl
  have b1 : w1.cell? ⟨w.heap.size + 1, 1, none⟩ = some (.int .u64 0) := by rw [blk_cell bb1]; rfl
  have b2 : w1.cell? ⟨w.heap.size + 1, 2, none⟩ = some (.string ⟨#[]⟩) := by rw [blk_cell bb1]; rfl
  have fa : ∀ o, w1.frozen? ⟨w.heap.size, o, none⟩ = false := fun o => blk_frozen ba1 o
  have fb : ∀ o, w1.frozen? ⟨w.heap.size + 1, o, none⟩ = false := fun o => blk_frozen bb1 o
  have Ho := Lib.hid ((Only.of_below B.out : Only p none w _).trans ho (.inl rfl))
  clear hk ho C ba bb ba1 bb1 B
  cases hbad : (tNext s).bad with
  | true =>
    rw [hbad] at r2
    have Hbad := Lib.hid hbad; clear hbad
    go_wp2_with fail
    exact ⟨rfl, vpost_bad hN.out Hbad.out (prd_set HR.out _ _ hne2) (Ho.out.set_new _ _ (by omega))⟩
  | false =>
    rw [hbad] at r2
    have Hbad := Lib.hid hbad; clear hbad
    go_wp2_with fail
    refine bodyPost_ret (v := vV ⟨0, 0, tVal s⟩) (by simp [results, Tryz.results149, go_sem, vV, a0, a1, a2]) rfl ?_
    refine vpost_ok hN.out hV.out Hbad.out ?_ ?_
    · exact prd_set (prd_set (prd_set (prd_set HR.out _ _ hne2) _ _ hne1) _ _ hne1) _ _ hne1
    · exact (((Ho.out.set_new _ _ (by omega)).set_new _ _ (Nat.le_refl _)).set_new _ _ (Nat.le_refl _)).set_new _ _ (Nat.le_refl _)
end Go.Proofs.YtijeieamodjgbaaGreat

/- Scan: the deferred closure's contracts. -/
namespace Go.Proofs.YtijeieamodjgbaaGreat
set_option maxRecDepth 100000
open Go.RowKit
set_option linter.unusedVariables false

theorem assert_none (w : World) : (Instr.typeAssert Value.nilIface 20 195 true).run Tryz.prog w = .ok (.tuple #[.int .i64 0, .bool false]) w := by kernel_rfl
theorem assert_some (n : Int) (w : World) : (Instr.typeAssert (.iface 195 (.int .i64 n)) 20 195 true).run Tryz.prog w = .ok (.tuple #[.int .i64 n, .bool true]) w := by kernel_rfl

theorem catch_idle (p q : Addr) (w : World) :
    CallsD Tryz.prog 147 #[.pointer (some p), .pointer (some q)] .returning w fun e u' w' => e = .returned (.tuple #[]) ∧ u' = .returning ∧ w' = w := by
  refine callsD_of_wpS Tryz.func147 rfl fun c₀ cs hu => ?_
  apply wpS_seq
  apply wpS_region
  simp [wpOpsS, go_sem, recoverD, hu, Tryz.ntmps147, Exit.thenS, assert_none]
  apply wpS_seq
  apply wpS_region
  simp [wpOpsS, go_sem, Exit.thenS]
  refine wpS_cond (t := false) (by simp [Act.eval, Array.replicate]) ?_
  simp only [Bool.false_eq_true, if_false]
  refine wpS_of_wp (wp_skip ?_)
  cases c₀
  simp_all [bodyPostS, results, Tryz.results147]

theorem catch_panicking (p q : Nat) (u v : Value) (n : Int) (older : List PanicEntry) (w : World) (hp : w.cell? ⟨p, 0, none⟩ = some u) (hq : w.cell? ⟨q, 0, none⟩ = some v) (zp : w.frozen? ⟨p, 0, none⟩ = false) (zq : w.frozen? ⟨q, 0, none⟩ = false) (hne : ¬ q = p) :
    CallsD Tryz.prog 147 #[.pointer (some ⟨p, 0, none⟩), .pointer (some ⟨q, 0, none⟩)] (.panicking ({ v := .iface 195 (.int .i64 n), recovered := false } :: older)) w fun e u' w' =>
      e = .returned (.tuple #[]) ∧ u' = .panicking ({ v := .iface 195 (.int .i64 n), recovered := true } :: older) ∧ w' = (w.setCell ⟨p, 0, none⟩ (.slice none 0 0)).setCell ⟨q, 0, none⟩ (.int .i64 n) := by
  have hq' : (w.setCell ⟨p, 0, none⟩ (.slice none 0 0)).cell? ⟨q, 0, none⟩ = some v := cell_set_other hq _ _ _ hne
  refine callsD_of_wpS Tryz.func147 rfl fun c₀ cs hu => ?_
  apply wpS_seq
  apply wpS_region
  simp [wpOpsS, go_sem, recoverD, hu, Tryz.ntmps147, Exit.thenS, assert_some]
  apply wpS_seq
  apply wpS_region
  simp [wpOpsS, go_sem, Exit.thenS]
  refine wpS_cond (t := true) (by simp [Act.eval, Array.replicate]) ?_
  simp only [if_true]
  apply wpS_region
  simp [wpOpsS, go_sem, hp, hq', zp, zq, bodyPostS, results, Tryz.results147]
end Go.Proofs.YtijeieamodjgbaaGreat
