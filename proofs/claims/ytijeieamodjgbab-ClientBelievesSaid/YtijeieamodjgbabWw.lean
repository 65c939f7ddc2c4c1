
/- Wire: the writer's walks: sig, sigs, request, change. -/
import Derived.Test.YtijeieamodjgbabWm
import Derived.Test.YtijeieamodjgbabDh
import Derived.Test.YtijeieamodjgbabWe
import Derived.Test.YtijeieamodjgbabReP

namespace Go.Proofs.Ytijeieamodjgbab
set_option maxRecDepth 100000
open Go.RowKit Go.Deep
set_option linter.unusedVariables false
set_option linter.unusedSimpArgs false
attribute [local go_sem] run_store_float

/-- A writer at work since the world w1: what it changed are its own blocks. -/
def WA (w0 w1 : World) (p : Nat) (ob : Option Nat) (s : W) (wk : World) : Prop :=
  Below w0.heap.size w0 wk ∧ Only p ob w1 wk ∧ ∃ obk, (obk = ob ∨ ∃ k, obk = some k ∧ w1.heap.size ≤ k) ∧ PWr wk w0.heap.size p obk s
theorem WA.start {w0 w : World} {p : Nat} {ob : Option Nat} {s : W} (h : PWr w w0.heap.size p ob s) (hb : Below w0.heap.size w0 w) : WA w0 w p ob s w := ⟨hb, Only.refl _ _ _, ob, .inl rfl, h⟩
theorem WA.post {w0 w w' : World} {p : Nat} {ob : Option Nat} {s s' : W} {e : Ending} (h : PWr w w0.heap.size p ob s) (hb : Below w0.heap.size w0 w) (hp : PWPost w w0.heap.size p ob s' e w') : e = .returned (.tuple #[]) ∧ WA w0 w p ob s' w' := by
  obtain ⟨rfl, ob', h1, h2, h3⟩ := hp
  exact ⟨rfl, h3.below hb h.1 (fun k hk => (WAt.ob_lt h k hk).1), h3, ob', h1, h2⟩
theorem WA.call {w0 w1 wk : World} {p : Nat} {ob : Option Nat} {s : W} (X : WA w0 w1 p ob s wk) : ∃ obk, PWr wk w0.heap.size p obk s ∧ Below w0.heap.size w0 wk ∧ ∀ s' w', WA w0 wk p obk s' w' → WA w0 w1 p ob s' w' := by
  obtain ⟨hb, ho, obk, hor, hp⟩ := X
  refine ⟨obk, hp, hb, fun s' w' ⟨hb', ho', ob', hor', hp'⟩ => ⟨hb', ho.trans ho' hor, ob', ?_, hp'⟩⟩
  have hsz := ho.size
  rcases hor' with rfl | ⟨k, rfl, hk⟩
  · exact hor
  · exact .inr ⟨k, rfl, by omega⟩
theorem WA.pre {w0 w w1 wk : World} {p : Nat} {ob : Option Nat} {s : W} (hb : Below w.heap.size w w1) (X : WA w0 w1 p ob s wk) : WA w0 w p ob s wk := by
  obtain ⟨hb', ho, obk, hor, hp⟩ := X
  refine ⟨hb', (Only.of_below hb).trans ho (.inl rfl), obk, ?_, hp⟩
  have := hb.size
  rcases hor with rfl | ⟨k, rfl, hk⟩
  · exact .inl rfl
  · exact .inr ⟨k, rfl, by omega⟩
theorem WA.alloc {w0 w1 wk : World} {p : Nat} {ob : Option Nat} {s : W} (X : WA w0 w1 p ob s wk) (o : Obj) : WA w0 w1 p ob s (wk.alloc o) := by
  obtain ⟨hb', ho, obk, hor, hp⟩ := X
  exact ⟨balloc hb' o, ho.alloc o, obk, hor, WAt.below hp (below_alloc _ _)⟩
theorem WA.below {w0 w1 wk w' : World} {p : Nat} {ob : Option Nat} {s : W} (X : WA w0 w1 p ob s wk) (hb : Below wk.heap.size wk w') : WA w0 w1 p ob s w' := by
  obtain ⟨hb', ho, obk, hor, hp⟩ := X
  exact ⟨bthen hb' hb, ho.trans (Only.of_below (ob := ob) hb) (.inl rfl), obk, hor, WAt.below hp hb⟩
/-- What was new to the writer stays. -/
theorem WA.box {w0 w w1 wk : World} {p : Nat} {ob : Option Nat} {s s0 : W} {h : Nat} {c : Obj} (X : WA w0 w1 p ob s wk) (H : PWr w w0.heap.size p ob s0) (hh : w.heap.size ≤ h) (hk : w1.heap[h]? = some c) : wk.heap[h]? = some c := by
  have hp := WAt.lt H
  have hl : h < w1.heap.size := by
    rcases Nat.lt_or_ge h w1.heap.size with h1 | h1
    · exact h1
    · rw [Array.getElem?_eq_none (by omega)] at hk; cases hk
  rw [X.2.1.block h hl (by omega) (fun hc => by have := (WAt.ob_lt H h hc).2; omega)]
  exact hk
theorem Mid.it {s : W} (h : Mid s) (i : Ith) : Mid (wIt s i) := h.put i.1 i.2
theorem wbyte_at (w0 : World) (p : Nat) (ob : Option Nat) (s : W) (n : Int) (w : World) (h : PWr w w0.heap.size p ob s) (hb : Below w0.heap.size w0 w) (hs : Mid s) (hn : i64 n) :
    Calls Try.prog 56 #[.pointer (some ⟨p, 0, none⟩), .int .i64 n] w fun e w' => e = .returned (.tuple #[]) ∧ WA w0 w p ob (wIt s (itB n)) w' := by
  have := hs.room; have := hs.size; have := hs.err
  exact (wbyte_any w0.heap.size p ob s n w h hb.size ⟨⟨by omega, by omega⟩, by omega, by omega⟩ (fits_of (by omega)) hn).mono fun e w' hp => WA.post h hb hp
theorem wword_at (w0 : World) (p : Nat) (ob : Option Nat) (s : W) (n : Int) (w : World) (h : PWr w w0.heap.size p ob s) (hb : Below w0.heap.size w0 w) (hs : Mid s) (hn : i64 n) :
    Calls Try.prog 57 #[.pointer (some ⟨p, 0, none⟩), .int .i64 n] w fun e w' => e = .returned (.tuple #[]) ∧ WA w0 w p ob (wIt s (itW n)) w' := by
  have := hs.room; have := hs.size; have := hs.err
  exact (wword_any w0.heap.size p ob s n w h hb.size ⟨⟨by omega, by omega⟩, by omega, by omega⟩ (fits_of (by omega)) hn).mono fun e w' hp => WA.post h hb hp
theorem wtext_at (w0 : World) (p : Nat) (ob : Option Nat) (s : W) (t : ByteArray) (w : World) (h : PWr w w0.heap.size p ob s) (hb : Below w0.heap.size w0 w) (hs : Mid s) (ht : t.size ≤ 1125899906842624) :
    Calls Try.prog 60 #[.pointer (some ⟨p, 0, none⟩), .string t] w fun e w' => e = .returned (.tuple #[]) ∧ WA w0 w p ob (wIt s (itT t)) w' := by
  have := hs.room; have := hs.size; have := hs.err
  exact (wtext_any w0.heap.size p ob s t w h hb.size ⟨⟨by omega, by omega⟩, by omega, by omega⟩ (fun hf => by omega) ht).mono fun e w' hp => WA.post h hb hp

set_option maxHeartbeats 400000 in
theorem wsig_at (w0 : World) (p : Nat) (ob : Option Nat) (s : W) (x : Int) (t : ByteArray) (w : World) (h : PWr w w0.heap.size p ob s) (hb : Below w0.heap.size w0 w) (hs : Mid s) (hx : i64 x) (ht : t.size ≤ 1125899906842624) :
    Calls Try.prog 89 #[.agg #[.pointer (some ⟨p, 0, none⟩)], .agg #[.int .i64 x, .string t]] w fun e w' => e = .returned (.tuple #[]) ∧ WA w0 w p ob (wIts s (itSig (x, t))) w' := by
  obtain ⟨w1, hw1⟩ : ∃ u, u = w.alloc (.cells #[.pointer (some ⟨p, 0, none⟩)] 115 (0, 0)) := ⟨_, rfl⟩
  obtain ⟨w2, hw2⟩ : ∃ u, u = w1.alloc (.cells #[.int .i64 x, .string t] 108 (0, 0)) := ⟨_, rfl⟩
  have b1 : Below w.heap.size w w1 := by rw [hw1]; exact below_alloc _ _
  have hz1 : w1.heap.size = w.heap.size + 1 := by rw [hw1]; simp
  have b2 : Below w1.heap.size w1 w2 := by rw [hw2]; exact below_alloc _ _
  have K1 := Lib.hid (show w2.heap[w.heap.size]? = some (.cells #[.pointer (some ⟨p, 0, none⟩)] 115 (0, 0)) from blk_below (by rw [hw1]; exact blk_alloc _ _) b2)
  have K2 := Lib.hid (show w2.heap[w.heap.size + 1]? = some (.cells #[.int .i64 x, .string t] 108 (0, 0)) by rw [← hz1, hw2]; exact blk_alloc _ _)
  have B2 := Lib.hid (bthen b1 b2)
  have H := Lib.hid h
  have h2 := WAt.below h B2.out
  have X2 := Lib.hid (WA.start h2 (bthen hb B2.out))
  have Z1 := Lib.hid (show w.heap.size ≤ w.heap.size + 1 by omega)
  have C1 := Lib.hid (wbyte_at w0 p ob s x w2 h2 (bthen hb B2.out) hs hx)
  have a0 : w2.cell? ⟨w.heap.size, 0, none⟩ = some (.pointer (some ⟨p, 0, none⟩)) := by rw [blk_cell K1.out]; rfl
  have a1 : w2.cell? ⟨w.heap.size + 1, 0, none⟩ = some (.int .i64 x) := by rw [blk_cell K2.out]; rfl
  clear h hb b1 b2 h2 hx hz1
  have HS := Lib.hid hs; have HT := Lib.hid ht
  clear hs ht
  go_enter Try.func89, Try.ntmps89
  go_upto_region 1 with (fail)
  rw [← hw1, ← hw2]
  clear hw1 hw2
  go_wp2_with fail
  refine C1.out.mono ?_
  rintro e w3 ⟨rfl, x3⟩
  obtain ⟨o3, h3, b3, j3⟩ := x3.call
  have k1 := x3.box H.out (Nat.le_refl _) K1.out
  have k2 := x3.box H.out Z1.out K2.out
  have C2 := Lib.hid (wtext_at w0 p o3 _ t w3 h3 b3 (HS.out.it _) HT.out)
  have J3 := Lib.hid j3
  have c0 : w3.cell? ⟨w.heap.size, 0, none⟩ = some (.pointer (some ⟨p, 0, none⟩)) := by rw [blk_cell k1]; rfl
  have c1 : w3.cell? ⟨w.heap.size + 1, 1, none⟩ = some (.string t) := by rw [blk_cell k2]; rfl
  clear x3 h3 b3 j3 k1 k2 a0 a1 C1
  go_wp2_with fail
  refine C2.out.mono ?_
  rintro e w4 ⟨rfl, x4⟩
  have X4 := Lib.hid (WA.pre B2.out (J3.out _ _ x4))
  clear x4
  go_wp2_with fail
  go_end0
  exact ⟨rfl, X4.out⟩

theorem its_flat_snoc {α : Type} {l : List α} {f : α → List Ith} {k : Nat} {y : α} (s : W) (hy : l[k]? = some y) : wIts (wIts s ((l.take k).flatMap f)) (f y) = wIts s ((l.take (k + 1)).flatMap f) := by
  rw [← wIts_app, List.take_add_one, hy, List.flatMap_append]
  simp
set_option maxHeartbeats 1000000 in
theorem wsigs_at (w0 : World) (p : Nat) (ob : Option Nat) (s : W) (a : Option Addr) (n c : Nat) (l : List Sg) (w : World) (h : PWr w w0.heap.size p ob s) (hb : Below w0.heap.size w0 w) (hs : Mid s) (hl : SlAt shSig w0 a n c l) :
    Calls Try.prog 61 #[.agg #[.pointer (some ⟨p, 0, none⟩)], .slice a n c] w fun e w' => e = .returned (.tuple #[]) ∧ WA w0 w p ob (wIts s (itSigs l)) w' := by
  obtain ⟨w1, hw1⟩ : ∃ u, u = w.alloc (.cells #[.pointer (some ⟨p, 0, none⟩)] 115 (0, 0)) := ⟨_, rfl⟩
  have b1 : Below w.heap.size w w1 := by rw [hw1]; exact below_alloc _ _
  have K1 := Lib.hid (show w1.heap[w.heap.size]? = some (.cells #[.pointer (some ⟨p, 0, none⟩)] 115 (0, 0)) by rw [hw1]; exact blk_alloc _ _)
  have hlen := hl.len; have hcap := hl.cap; have hmax := hl.max
  have HL := Lib.hid hl; have B1 := Lib.hid b1; have H := Lib.hid h
  have h1 := WAt.below h b1
  have C1 := Lib.hid (wbyte_at w0 p ob s (n : Int) w1 h1 (bthen hb b1) hs ⟨by omega, by omega⟩)
  have HE := Lib.hid (show wIts s (itSigs l) = wIts (wIt s (itB (n : Int))) (l.flatMap itSig) by rw [itSigs, hlen]; rfl)
  have HM := Lib.hid (hs.it (itB (n : Int)))
  have a0 : w1.cell? ⟨w.heap.size, 0, none⟩ = some (.pointer (some ⟨p, 0, none⟩)) := by rw [blk_cell K1.out]; rfl
  generalize wIts s (itSigs l) = SF at HE ⊢
  generalize wIt s (itB (n : Int)) = S1 at *
  clear h hb hs hl b1 h1
  go_enter Try.func61, Try.ntmps61
  go_upto_region 1 with (fail)
  rw [← hw1]
  clear hw1
  go_wp2_with fail
  refine C1.out.mono ?_
  rintro e w3 ⟨rfl, x3⟩
  have X3 := Lib.hid x3
  clear x3 a0 C1
  go_wp2_with fail
  go_loopw [13] (fun i wr => ∃ k : Nat, k ≤ n ∧ i = .int .i64 k ∧ Hid (WA w0 w1 p ob (wIts S1 ((l.take k).flatMap itSig)) wr)) (fun i _ => n - (intOf i).toNat)
  case atStart => exact ⟨0, by omega, rfl, X3⟩
  case round =>
    clear X3
    obtain ⟨k, hk, rfl, HX⟩ := hrel
    by_cases hlt : k < n
    · have hd : decide ((k : Int) < (n : Int)) = true := by simp; omega
      obtain ⟨bb, o, x, t, rfl, hy, x0, x1, hx, ht⟩ := sig_cells (HL.out.old HX.out.1) hlt
      obtain ⟨wl, hwl⟩ : ∃ u, u = wr.alloc (.cells #[.int .i64 x, .string t] 108 (0, 0)) := ⟨_, rfl⟩
      have bl : Below wr.heap.size wr wl := by rw [hwl]; exact below_alloc _ _
      have kl : wl.heap[wr.heap.size]? = some (.cells #[.int .i64 x, .string t] 108 (0, 0)) := by rw [hwl]; exact blk_alloc _ _
      have XL := Lib.hid (HX.out.below bl)
      obtain ⟨o3, h3, b3, j3⟩ := XL.out.call
      have CS := Lib.hid (wsig_at w0 p o3 _ x t wl h3 b3 (HM.out.its (l := (l.take k).flatMap itSig)) hx ht)
      have J3 := Lib.hid j3
      have HST := Lib.hid (its_flat_snoc (f := itSig) S1 hy)
      have l0 : wl.cell? ⟨w.heap.size, 0, none⟩ = some (.pointer (some ⟨p, 0, none⟩)) := by rw [blk_cell (XL.out.box H.out (Nat.le_refl _) K1.out)]; rfl
      have l1 : wl.cell? ⟨wr.heap.size, 0, none⟩ = some (.int .i64 x) := by rw [blk_cell kl]; rfl
      have l2 : wl.cell? ⟨wr.heap.size, 1, none⟩ = some (.string t) := by rw [blk_cell kl]; rfl
      clear h3 b3 j3 hy bl kl
      go_upto_region 5 with (fail)
      rw [← hwl]
      clear hwl x0 x1
      go_wp2_with fail
      refine CS.out.mono ?_
      rintro e w4 ⟨rfl, x4⟩
      have X4 := Lib.hid (show WA w0 w1 p ob (wIts S1 ((l.take (k + 1)).flatMap itSig)) w4 from by rw [← HST.out]; exact J3.out _ _ x4)
      clear x4 l0 l1 l2 CS
      go_wp2_with fail
      go_roundw
      case rel => exact ⟨k + 1, by omega, by go_num, X4⟩
      case measure => simp [intOf]; omega
    · have hd : decide ((k : Int) < (n : Int)) = false := by simp; omega
      have hT : l.take k = l := List.take_of_length_le (by omega)
      rw [hT, ← HE.out] at HX
      have XF := Lib.hid (WA.pre B1.out HX.out)
      go_wp2_with fail
      go_end0
      exact ⟨rfl, XF.out⟩

set_option maxHeartbeats 400000 in
theorem wreq_at (w0 : World) (p : Nat) (ob : Option Nat) (s : W) (r : Rq) (w : World) (h : PWr w w0.heap.size p ob s) (hb : Below w0.heap.size w0 w) (hs : Mid s) (hr : r.Ok) :
    Calls Try.prog 58 #[.agg #[.pointer (some ⟨p, 0, none⟩)], r.v] w fun e w' => e = .returned (.tuple #[]) ∧ WA w0 w p ob (wIt s (itT r.text)) w' := by
  have HT := Lib.hid r.text_size
  have CT := Lib.hid (fun w => text_rq r hr w)
  obtain ⟨w1, hw1⟩ : ∃ u, u = w.alloc (.cells #[.pointer (some ⟨p, 0, none⟩)] 115 (0, 0)) := ⟨_, rfl⟩
  have b1 : Below w.heap.size w w1 := by rw [hw1]; exact below_alloc _ _
  have k1 : w1.heap[w.heap.size]? = some (.cells #[.pointer (some ⟨p, 0, none⟩)] 115 (0, 0)) := by rw [hw1]; exact blk_alloc _ _
  generalize r.text = T at *
  generalize r.err = E at *
  obtain ⟨c, st, kind, key, b, id⟩ := r
  unfold Rq.v at *
  dsimp only at *
  clear hr
  obtain ⟨w2, hw2⟩ : ∃ u, u = w1.alloc (.cells #[.int .i64 c, .int .i64 st, .int .i64 kind, .string key, .float .f64 b, .int .i64 id] 35 (0, 0)) := ⟨_, rfl⟩
  have b2 : Below w1.heap.size w1 w2 := by rw [hw2]; exact below_alloc _ _
  have hz1 : w1.heap.size = w.heap.size + 1 := by rw [hw1]; simp
  have kq : w2.heap[w.heap.size + 1]? = some (.cells #[.int .i64 c, .int .i64 st, .int .i64 kind, .string key, .float .f64 b, .int .i64 id] 35 (0, 0)) := by rw [← hz1, hw2]; exact blk_alloc _ _
  obtain ⟨q0, q1, q2, q3, q4, q5⟩ := rqAt_blk kq
  have K1 := Lib.hid (blk_below k1 b2)
  have B2 := Lib.hid (bthen b1 b2)
  have H := Lib.hid h; have HB := Lib.hid hb; have HS := Lib.hid hs
  clear h hb hs b1 b2 k1 kq hz1
  go_enter Try.func58, Try.ntmps58
  go_upto_region 1 with (fail)
  rw [← hw1, ← hw2]
  clear hw1 hw2
  go_wp2_with fail
  refine (CT.out w2).mono ?_
  rintro e w3 ⟨rfl, b3⟩
  have B3 := Lib.hid (bthen B2.out b3)
  have k3 := blk_below K1.out b3
  have a0 : w3.cell? ⟨w.heap.size, 0, none⟩ = some (.pointer (some ⟨p, 0, none⟩)) := by rw [blk_cell k3]; rfl
  have C1 := Lib.hid (wtext_at w0 p ob s T w3 (WAt.below H.out B3.out) (bthen HB.out B3.out) HS.out (by have := HT.out; omega))
  clear q0 q1 q2 q3 q4 q5 b3 k3 B2 K1 CT
  go_wp2_with fail
  refine C1.out.mono ?_
  rintro e w4 ⟨rfl, x4⟩
  have X4 := Lib.hid (WA.pre B3.out x4)
  clear x4
  go_wp2_with fail
  go_end0
  exact ⟨rfl, X4.out⟩

set_option maxHeartbeats 2000000 in
theorem wchange_at (w0 : World) (p : Nat) (ob : Option Nat) (s : W) (y : Ch) (ca : Option Addr) (cn cc : Nat) (w : World) (h : PWr w w0.heap.size p ob s) (hb : Below w0.heap.size w0 w) (hs : Mid s)
    (hf : i64 y.fr) (hv : i64 y.v) (hc : SlAt shCert w0 ca cn cc y.ce) (hx : i64 y.sg.1) (ht : y.sg.2.size ≤ 1125899906842624) :
    Calls Try.prog 62 #[.agg #[.pointer (some ⟨p, 0, none⟩)], .agg #[.int .i64 y.fr, .int .i64 y.v, .slice ca cn cc, .int .i64 y.sg.1, .string y.sg.2]] w fun e w' => e = .returned (.tuple #[]) ∧ WA w0 w p ob (wIts s (itChange y)) w' := by
  have hlen := hc.len; have hcap := hc.cap; have hmax := hc.max
  have HE := Lib.hid (show wIts s (itChange y) = wIts (wIts (wIt (wIt (wIt s (itB y.fr)) (itB y.v)) (itB (cn : Int))) (y.ce.flatMap itCert)) (itSig y.sg) by rw [itChange, hlen, ← wIts_app]; rfl)
  obtain ⟨fr, v, ce, sx, st⟩ := y
  dsimp only at *
  obtain ⟨w1, hw1⟩ : ∃ u, u = w.alloc (.cells #[.pointer (some ⟨p, 0, none⟩)] 115 (0, 0)) := ⟨_, rfl⟩
  obtain ⟨w2, hw2⟩ : ∃ u, u = w1.alloc (.cells #[.int .i64 fr, .int .i64 v, .slice ca cn cc, .int .i64 sx, .string st] 122 (0, 0)) := ⟨_, rfl⟩
  have b1 : Below w.heap.size w w1 := by rw [hw1]; exact below_alloc _ _
  have hz1 : w1.heap.size = w.heap.size + 1 := by rw [hw1]; simp
  have b2 : Below w1.heap.size w1 w2 := by rw [hw2]; exact below_alloc _ _
  have K1 := Lib.hid (show w2.heap[w.heap.size]? = some (.cells #[.pointer (some ⟨p, 0, none⟩)] 115 (0, 0)) from blk_below (by rw [hw1]; exact blk_alloc _ _) b2)
  have K2 := Lib.hid (show w2.heap[w.heap.size + 1]? = some (.cells #[.int .i64 fr, .int .i64 v, .slice ca cn cc, .int .i64 sx, .string st] 122 (0, 0)) by rw [← hz1, hw2]; exact blk_alloc _ _)
  have B2 := Lib.hid (bthen b1 b2)
  have H := Lib.hid h
  have h2 := WAt.below h B2.out
  have Z1 := Lib.hid (show w.heap.size ≤ w.heap.size + 1 by omega)
  have C1 := Lib.hid (wbyte_at w0 p ob s fr w2 h2 (bthen hb B2.out) hs hf)
  have a0 : w2.cell? ⟨w.heap.size, 0, none⟩ = some (.pointer (some ⟨p, 0, none⟩)) := by rw [blk_cell K1.out]; rfl
  have a1 : w2.cell? ⟨w.heap.size + 1, 0, none⟩ = some (.int .i64 fr) := by rw [blk_cell K2.out]; rfl
  have HL := Lib.hid hc
  have HV := Lib.hid hv; have HSX := Lib.hid hx; have HST := Lib.hid ht
  obtain ⟨S1, hS1⟩ : ∃ S, S = wIt s (itB fr) := ⟨_, rfl⟩
  obtain ⟨S2, hS2⟩ : ∃ S, S = wIt S1 (itB v) := ⟨_, rfl⟩
  obtain ⟨S3, hS3⟩ : ∃ S, S = wIt S2 (itB (cn : Int)) := ⟨_, rfl⟩
  have M1 := Lib.hid (show Mid S1 from by rw [hS1]; exact hs.it (itB fr))
  have M2 := Lib.hid (show Mid S2 from by rw [hS2]; exact M1.out.it (itB v))
  have M3 := Lib.hid (show Mid S3 from by rw [hS3]; exact M2.out.it (itB (cn : Int)))
  rw [← hS1, ← hS2, ← hS3] at HE
  rw [← hS1] at C1
  have HS1 := Lib.hid hS1; have HS2 := Lib.hid hS2; have HS3 := Lib.hid hS3
  clear hS1 hS2 hS3
  generalize wIts s (itChange ⟨fr, v, ce, sx, st⟩) = SF at HE ⊢
  clear h hb hs hc hf hv hx ht b1 b2 h2 hz1
  go_enter Try.func62, Try.ntmps62
  go_upto_region 1 with (fail)
  rw [← hw1, ← hw2]
  clear hw1 hw2
  go_wp2_with fail
  refine C1.out.mono ?_
  rintro e w3 ⟨rfl, x3⟩
  obtain ⟨o3, h3, b3, j3⟩ := x3.call
  have J3 := Lib.hid j3
  have k1 := x3.box H.out (Nat.le_refl _) K1.out
  have k2 := x3.box H.out Z1.out K2.out
  have c0 : w3.cell? ⟨w.heap.size, 0, none⟩ = some (.pointer (some ⟨p, 0, none⟩)) := by rw [blk_cell k1]; rfl
  have c1 : w3.cell? ⟨w.heap.size + 1, 1, none⟩ = some (.int .i64 v) := by rw [blk_cell k2]; rfl
  have c := wbyte_at w0 p o3 S1 v w3 h3 b3 M1.out HV.out
  rw [← HS2.out] at c
  have C3 := Lib.hid c
  clear a0 a1 c x3 h3 b3 j3 C1 k1 k2
  go_wp2_with fail
  refine C3.out.mono ?_
  rintro e w4 ⟨rfl, x4⟩
  replace x4 := J3.out _ _ x4
  obtain ⟨o4, h4, b4, j4⟩ := x4.call
  have J4 := Lib.hid j4
  have k1 := x4.box H.out (Nat.le_refl _) K1.out
  have k2 := x4.box H.out Z1.out K2.out
  have d0 : w4.cell? ⟨w.heap.size, 0, none⟩ = some (.pointer (some ⟨p, 0, none⟩)) := by rw [blk_cell k1]; rfl
  have d2 : w4.cell? ⟨w.heap.size + 1, 2, none⟩ = some (.slice ca cn cc) := by rw [blk_cell k2]; rfl
  have c := wbyte_at w0 p o4 S2 (cn : Int) w4 h4 b4 M2.out ⟨by omega, by omega⟩
  rw [← HS3.out] at c
  have C4 := Lib.hid c
  clear c0 c1 c x4 h4 b4 j4 C3 J3 k1 k2
  go_wp2_with fail
  refine C4.out.mono ?_
  rintro e w5 ⟨rfl, x5⟩
  replace x5 := J4.out _ _ x5
  obtain ⟨o5, h5, b5, j5⟩ := x5.call
  have J5 := Lib.hid j5
  have k2 := x5.box H.out Z1.out K2.out
  have e2 : w5.cell? ⟨w.heap.size + 1, 2, none⟩ = some (.slice ca cn cc) := by rw [blk_cell k2]; rfl
  have X5 := Lib.hid x5
  clear d0 d2 x5 h5 b5 j5 C4 J4 k2 J5
  go_wp2_with fail
  go_loopw [25] (fun i wr => ∃ k : Nat, k ≤ cn ∧ i = .int .i64 k ∧ Hid (WA w0 w2 p ob (wIts S3 ((ce.take k).flatMap itCert)) wr)) (fun i _ => cn - (intOf i).toNat)
  case atStart => exact ⟨0, by omega, rfl, X5⟩
  case round =>
    clear X5 e2
    obtain ⟨k, hk, rfl, HX⟩ := hrel
    by_cases hlt : k < cn
    · have hd : decide ((k : Int) < (cn : Int)) = true := by simp; omega
      obtain ⟨bb, o, ⟨yv, ys, ⟨qc, qs, qk, qt, qb, qi⟩, sg⟩, sa, sn, sc, rfl, hy, z0, z1, z2, z3, z4, z5, z6, z7, z8, hyv, hys, hq, hsg⟩ := cert_cells HL.out hlt
      dsimp only at z0 z1 z2 z3 z4 z5 z6 z7 z8 hyv hys hsg
      have bx := HX.out.1
      replace z0 := below_cell bx z0; replace z1 := below_cell bx z1; replace z2 := below_cell bx z2; replace z3 := below_cell bx z3; replace z4 := below_cell bx z4; replace z5 := below_cell bx z5; replace z6 := below_cell bx z6; replace z7 := below_cell bx z7; replace z8 := below_cell bx z8
      have HSN := Lib.hid (its_flat_snoc (f := itCert) S3 hy)
      obtain ⟨wl, hwl⟩ : ∃ u, u = wr.alloc (.cells #[.int .i64 yv, .int .i64 ys, .int .i64 qc, .int .i64 qs, .int .i64 qk, .string qt, .float .f64 qb, .int .i64 qi, .slice sa sn sc] 152 (0, 0)) := ⟨_, rfl⟩
      have bl : Below wr.heap.size wr wl := by rw [hwl]; exact below_alloc _ _
      have KL := Lib.hid (show wl.heap[wr.heap.size]? = some (.cells #[.int .i64 yv, .int .i64 ys, .int .i64 qc, .int .i64 qs, .int .i64 qk, .string qt, .float .f64 qb, .int .i64 qi, .slice sa sn sc] 152 (0, 0)) by rw [hwl]; exact blk_alloc _ _)
      obtain ⟨or, hr0, br0, jr0⟩ := HX.out.call
      have HR := Lib.hid hr0
      have hl0 := WAt.below hr0 bl
      have bl0 := bthen br0 bl
      have JR := Lib.hid jr0
      have BL := Lib.hid bl
      have KW := Lib.hid (blk_below (HX.out.box H.out (Nat.le_refl _) K1.out) bl)
      have ZR := Lib.hid (show w.heap.size ≤ wr.heap.size from by have h1 := B2.out.size; have h2 := HX.out.2.1.size; omega)
      have N0 := Lib.hid (M3.out.its (l := (ce.take k).flatMap itCert))
      obtain ⟨T0, hT0⟩ : ∃ T, T = wIts S3 ((ce.take k).flatMap itCert) := ⟨_, rfl⟩
      rw [← hT0] at N0 HSN hl0 HR
      obtain ⟨T1, hT1⟩ : ∃ T, T = wIt T0 (itB yv) := ⟨_, rfl⟩
      obtain ⟨T2, hT2⟩ : ∃ T, T = wIt T1 (itW ys) := ⟨_, rfl⟩
      obtain ⟨T3, hT3⟩ : ∃ T, T = wIt T2 (itT (⟨qc, qs, qk, qt, qb, qi⟩ : Rq).text) := ⟨_, rfl⟩
      have HTC := Lib.hid (show wIts T0 (itCert ⟨yv, ys, ⟨qc, qs, qk, qt, qb, qi⟩, sg⟩) = wIts T3 (itSigs sg) from by rw [hT3, hT2, hT1]; rfl)
      have N1 := Lib.hid (show Mid T1 from by rw [hT1]; exact N0.out.it (itB yv))
      have N2 := Lib.hid (show Mid T2 from by rw [hT2]; exact N1.out.it (itW ys))
      have N3 := Lib.hid (show Mid T3 from by rw [hT3]; exact N2.out.it (itT (⟨qc, qs, qk, qt, qb, qi⟩ : Rq).text))
      have CQ := Lib.hid (fun o w h b => wreq_at w0 p o T2 ⟨qc, qs, qk, qt, qb, qi⟩ w h b N2.out hq)
      simp only [Rq.v] at CQ
      have HT1 := Lib.hid hT1; have HT2 := Lib.hid hT2; have HT3 := Lib.hid hT3
      clear hT1 hT2 hT3
      generalize wIts T0 (itCert ⟨yv, ys, ⟨qc, qs, qk, qt, qb, qi⟩, sg⟩) = TF at *
      generalize (⟨qc, qs, qk, qt, qb, qi⟩ : Rq).text = QT at *
      have HSG := Lib.hid hsg; have HYS := Lib.hid hys
      have c := wbyte_at w0 p or T0 yv wl hl0 bl0 N0.out hyv
      rw [← HT1.out] at c
      have C6 := Lib.hid c
      have m0 : wl.cell? ⟨w.heap.size, 0, none⟩ = some (.pointer (some ⟨p, 0, none⟩)) := by rw [blk_cell KW.out]; rfl
      have m1 : wl.cell? ⟨wr.heap.size, 0, none⟩ = some (.int .i64 yv) := by rw [blk_cell KL.out]; rfl
      clear hr0 br0 jr0 hl0 bl0 bl hy hyv hys hq hsg hT0 HX bx c
      go_upto_region 7 with (fail)
      rw [← hwl]
      clear hwl z0 z1 z2 z3 z4 z5 z6 z7 z8
      go_wp2_with fail
      refine C6.out.mono ?_
      rintro e w7 ⟨rfl, x7⟩
      obtain ⟨o7, h7, b7, j7⟩ := x7.call
      have J7 := Lib.hid j7
      have k1 := (JR.out _ _ (WA.pre BL.out x7)).box H.out (Nat.le_refl _) K1.out
      have k2 := x7.box HR.out (Nat.le_refl _) KL.out
      have n0 : w7.cell? ⟨w.heap.size, 0, none⟩ = some (.pointer (some ⟨p, 0, none⟩)) := by rw [blk_cell k1]; rfl
      have n1 : w7.cell? ⟨wr.heap.size, 1, none⟩ = some (.int .i64 ys) := by rw [blk_cell k2]; rfl
      have c := wword_at w0 p o7 T1 ys w7 h7 b7 N1.out HYS.out
      rw [← HT2.out] at c
      have C7 := Lib.hid c
      clear m0 m1 c x7 h7 b7 j7 C6 k1 k2
      go_wp2_with fail
      refine C7.out.mono ?_
      rintro e w8 ⟨rfl, x8⟩
      replace x8 := J7.out _ _ x8
      obtain ⟨o8, h8, b8, j8⟩ := x8.call
      have J8 := Lib.hid j8
      have k1 := (JR.out _ _ (WA.pre BL.out x8)).box H.out (Nat.le_refl _) K1.out
      have k2 := x8.box HR.out (Nat.le_refl _) KL.out
      have p0 : w8.cell? ⟨w.heap.size, 0, none⟩ = some (.pointer (some ⟨p, 0, none⟩)) := by rw [blk_cell k1]; rfl
      have p1 : w8.cell? ⟨wr.heap.size, 2, none⟩ = some (.int .i64 qc) := by rw [blk_cell k2]; rfl
      have p2 : w8.cell? ⟨wr.heap.size, 3, none⟩ = some (.int .i64 qs) := by rw [blk_cell k2]; rfl
      have p3 : w8.cell? ⟨wr.heap.size, 4, none⟩ = some (.int .i64 qk) := by rw [blk_cell k2]; rfl
      have p4 : w8.cell? ⟨wr.heap.size, 5, none⟩ = some (.string qt) := by rw [blk_cell k2]; rfl
      have p5 : w8.cell? ⟨wr.heap.size, 6, none⟩ = some (.float .f64 qb) := by rw [blk_cell k2]; rfl
      have p6 : w8.cell? ⟨wr.heap.size, 7, none⟩ = some (.int .i64 qi) := by rw [blk_cell k2]; rfl
      have c := CQ.out o8 w8 h8 b8
      rw [← HT3.out] at c
      have C8 := Lib.hid c
      clear n0 n1 c x8 h8 b8 j8 C7 k1 k2 J7
      go_wp2_with fail
      refine C8.out.mono ?_
      rintro e w9 ⟨rfl, x9⟩
      replace x9 := J8.out _ _ x9
      obtain ⟨o9, h9, b9, j9⟩ := x9.call
      have J9 := Lib.hid j9
      have k1 := (JR.out _ _ (WA.pre BL.out x9)).box H.out (Nat.le_refl _) K1.out
      have k2 := x9.box HR.out (Nat.le_refl _) KL.out
      have q0 : w9.cell? ⟨w.heap.size, 0, none⟩ = some (.pointer (some ⟨p, 0, none⟩)) := by rw [blk_cell k1]; rfl
      have q1 : w9.cell? ⟨wr.heap.size, 8, none⟩ = some (.slice sa sn sc) := by rw [blk_cell k2]; rfl
      have c := wsigs_at w0 p o9 T3 sa sn sc sg w9 h9 b9 N3.out HSG.out
      rw [← HTC.out] at c
      have C9 := Lib.hid c
      clear p0 p1 p2 p3 p4 p5 p6 CQ c x9 h9 b9 j9 C8 k1 k2 J8
      go_wp2_with fail
      refine C9.out.mono ?_
      rintro e w10 ⟨rfl, x10⟩
      replace x10 := J9.out _ _ x10
      rw [HSN.out] at x10
      have X10 := Lib.hid (JR.out _ _ (WA.pre BL.out x10))
      clear x10 q0 q1 C9 J9 JR
      go_wp2_with fail
      go_roundw
      case rel => exact ⟨k + 1, by omega, by go_num, X10⟩
      case measure => simp [intOf]; omega
    · have hd : decide ((k : Int) < (cn : Int)) = false := by simp; omega
      have hT : ce.take k = ce := List.take_of_length_le (by omega)
      rw [hT] at HX
      obtain ⟨oz, hz, bz, jz⟩ := HX.out.call
      have JZ := Lib.hid jz
      have k1 := HX.out.box H.out (Nat.le_refl _) K1.out
      have k2 := HX.out.box H.out Z1.out K2.out
      have s0 : wr.cell? ⟨w.heap.size, 0, none⟩ = some (.pointer (some ⟨p, 0, none⟩)) := by rw [blk_cell k1]; rfl
      have s1 : wr.cell? ⟨w.heap.size + 1, 3, none⟩ = some (.int .i64 sx) := by rw [blk_cell k2]; rfl
      have s2 : wr.cell? ⟨w.heap.size + 1, 4, none⟩ = some (.string st) := by rw [blk_cell k2]; rfl
      have CZ := Lib.hid (wsig_at w0 p oz _ sx st wr hz bz (M3.out.its (l := ce.flatMap itCert)) HSX.out HST.out)
      clear hT HX hz bz jz k1 k2
      go_wp2_with fail
      refine CZ.out.mono ?_
      rintro e wz ⟨rfl, xz⟩
      replace xz := WA.pre B2.out (JZ.out _ _ xz)
      rw [← HE.out] at xz
      have XZ := Lib.hid xz
      clear xz s0 s1 s2 CZ JZ
      go_wp2_with fail
      go_end0
      exact ⟨rfl, XZ.out⟩
end Go.Proofs.Ytijeieamodjgbab

/- Wire: walk of Bytes. (printed by mkWx.py) -/
namespace Go.Proofs.Ytijeieamodjgbab
set_option maxRecDepth 100000
open Go.RowKit Go.Deep
set_option linter.unusedVariables false
set_option linter.unusedSimpArgs false
attribute [local go_sem] run_store_float

theorem own_ne_w {w : World} {B e s n g : Nat} {v : Value} {xs : List Value} {cs : Array Value} {t : TypeId} {fr : Nat × Nat} (h : w.ownsRow B e s v n xs) (hg : w.heap[g]? = some (.cells cs t fr)) (hne : e ≠ t) : v.ownBlock ≠ some g := fun hk => by
  rcases h.2 with ⟨h0, _⟩ | ⟨g', cap, cur, h0, _, hg', _⟩
  · rw [h0] at hk; cases hk
  · rw [h0] at hk
    have h1 : g' = g := by simpa [Value.ownBlock] using hk
    rw [h1, hg] at hg'
    injection hg' with hg'
    injection hg' with _ hg' _
    exact hne hg'.symm
theorem int_cell13 {w : World} {a : Option Addr} {n c : Nat} {l : List Int} (h : SlAt Sh.int w a n c l) {i : Nat} (hi : i < n) : ∃ b o x, a = some ⟨b, o, none⟩ ∧ l[i]? = some x ∧ w.cell? ⟨b, o + i, none⟩ = some (.int .i64 x) ∧ i64 x := by
  obtain ⟨y, hy⟩ : ∃ y, l[i]? = some y := ⟨_, List.getElem?_eq_getElem (by rw [h.len]; exact hi)⟩
  obtain ⟨b, o, cs, ha, hE, hc⟩ := h.cell i y hy
  obtain ⟨rfl, hx⟩ := hE
  have h0 := hc 0 _ rfl
  exact ⟨b, o, y, ha, hy, by rw [← h0]; show _ = w.cell? ⟨b, o + i * 1 + 0, none⟩; rw [Nat.mul_one, Nat.add_zero], hx⟩
theorem textS_small (e : Int) (l : List Int) : (textS e l).size ≤ 14 := by
  unfold textS
  split
  · rename_i h
    have h1 : l.length ≤ 10 := by
      simp only [rightB, risingB, Bool.and_eq_true, decide_eq_true_eq] at h
      exact h.2.2
    have h2 : (textP e l).length ≤ 4 + l.length := Nat.le_of_eq (textP_len e l)
    simp only [ByteArray.size, List.size_toArray]
    omega
  · decide
theorem resText_small (c : Int) (b : Nat) : (resText c b).size ≤ 100 := by
  unfold resText
  split
  · simp only [ByteArray.size, List.size_toArray, resQ, List.length_append, beN_len]; omega
  · decide
theorem msgS_eq (m : Mg) (n1 n2 n3 n4 : Nat) (h1 : m.nx.length = n1) (h3 : m.ch.length = n3) (h4 : m.lk.length = n4) : msgS m = wIts (wIt (wIts (wIt (wIts (wIts (wIts (wNew 65536) [itB m.k, itW m.e, itB m.v, itW m.s, itT m.q.text, itT (resText m.c m.r), itT m.t, itB (n1 : Int)]) (m.nx.flatMap fun x => [itB x])) (itSigs m.sg)) (itB (n3 : Int))) (m.ch.flatMap itChange)) (itB (n4 : Int))) (m.lk.flatMap itLink) := by
  subst h1 h3 h4
  rw [show m.nx.flatMap (fun x => [itB x]) = m.nx.map itB from by rw [List.map_eq_flatMap]]
  simp only [msgS, itMsg, itHead, wIts_app]
  rfl
set_option maxHeartbeats 4000000 in
theorem bytes13_any (m : Mg) (a1 : Option Addr) (n1 c1 : Nat) (a2 : Option Addr) (n2 c2 : Nat) (a3 : Option Addr) (n3 c3 : Nat) (a4 : Option Addr) (n4 c4 : Nat) (w : World) (hm : MsgIn w m a1 n1 c1 a2 n2 c2 a3 n3 c3 a4 n4 c4) :
    Calls Try.prog 34 #[.agg (mgCs m a1 n1 c1 a2 n2 c2 a3 n3 c3 a4 n4 c4).toArray] w fun e w' => e = .returned (.tuple #[.string (mgText m), .int .i64 (mgErr m)]) ∧ Below w.heap.size w w' := by
  obtain ⟨w1, hw1⟩ : ∃ u, u = w.alloc (.cells (mgCs m a1 n1 c1 a2 n2 c2 a3 n3 c3 a4 n4 c4).toArray 50 (0, 0)) := ⟨_, rfl⟩
  have b1 : Below w.heap.size w w1 := by rw [hw1]; exact below_alloc _ _
  have k1 : w1.heap[w.heap.size]? = some (.cells (mgCs m a1 n1 c1 a2 n2 c2 a3 n3 c3 a4 n4 c4).toArray 50 (0, 0)) := by rw [hw1]; exact blk_alloc _ _
  have B1 := Lib.hid b1
  have K1 := Lib.hid k1
  have HM := Lib.hid hm
  have CF0 := fits13_any m a1 n1 c1 a2 n2 c2 a3 n3 c3 a4 n4 c4 w1 (hm.old b1)
  have HTX := Lib.hid (show mgText m = if kindB m && fitsP m then (if (msgS m).err = 0 then ⟨(msgS m).out.toArray⟩ else ⟨#[]⟩) else ⟨#[]⟩ from rfl)
  have HER := Lib.hid (show mgErr m = if kindB m = false then 19 else if fitsP m = false then 4 else if (msgS m).err = 0 then 0 else 3 from rfl)
  have HKB := Lib.hid (show kindB m = (decide (1 ≤ m.k) && decide (m.k ≤ 10)) from rfl)
  have HMS := Lib.hid (msgS_eq m n1 n2 n3 n4 hm.nx.len hm.ch.len hm.lk.len)
  generalize mgText m = TX at HTX ⊢
  generalize mgErr m = ER at HER ⊢
  generalize kindB m = KB at *
  generalize fitsP m = FB at *
  generalize msgS m = MS at *
  obtain ⟨CS, hCS⟩ : ∃ CS, CS = (mgCs m a1 n1 c1 a2 n2 c2 a3 n3 c3 a4 n4 c4).toArray := ⟨_, rfl⟩
  rw [← hCS] at hw1 CF0 ⊢
  have CF := Lib.hid CF0
  have HCS := Lib.hid hCS
  have x0 : w1.cell? ⟨w.heap.size, 0, none⟩ = some (.int .i64 m.k) := mgAt_blk k1 0 _ rfl
  clear k1 b1 hm hCS CF0
  go_enter Try.func34, Try.ntmps34
  go_upto_region 1 with (fail)
  rw [← hw1]
  clear hw1
  by_cases g1 : m.k < 1
  · have hkb : KB = false := by rw [HKB.out, show decide (1 ≤ m.k) = false by simpa using g1]; rfl
    have hT : TX = ⟨#[]⟩ := by rw [HTX.out, hkb]; rfl
    have hE : ER = 19 := by rw [HER.out, if_pos hkb]
    have d1 : decide (m.k < 1) = true := by simpa using g1
    clear g1 hkb
    go_wp2_with fail
    go_ret2
    exact ⟨by first | rfl | (rw [hT, hE]; rfl), B1.out⟩
  have d1 : decide (m.k < 1) = false := by simpa using g1
  by_cases g2 : 10 < m.k
  · have hkb : KB = false := by rw [HKB.out, show decide (m.k ≤ 10) = false by simpa using g2, Bool.and_false]
    have hT : TX = ⟨#[]⟩ := by rw [HTX.out, hkb]; rfl
    have hE : ER = 19 := by rw [HER.out, if_pos hkb]
    have d2 : decide (10 < m.k) = true := by simpa using g2
    clear g1 g2 hkb
    go_wp2_with fail
    go_ret2
    exact ⟨by first | rfl | (rw [hT, hE]; rfl), B1.out⟩
  have d2 : decide (10 < m.k) = false := by simpa using g2
  have hkb : KB = true := by rw [HKB.out, show decide (1 ≤ m.k) = true by simp; omega, show decide (m.k ≤ 10) = true by simp; omega]; rfl
  rw [hkb] at HTX HER
  clear g1 g2 hkb HKB
  go_upto_region 3 with (fail)
  refine wp_region_lit ?_
  refine ops_val rfl (w' := w1) (v := .agg CS) (load_row _ _ (.tmp 1) Try.underlying50 rfl (by rw [HCS.out, List.size_toArray]; exact info_mg) rfl rfl (by rw [HCS.out]; exact K1.out)) ?_
  simp only [Act.put, List.setIfInBounds_toArray, List.set_cons_succ, List.set_cons_zero]
  go_wp2_with fail
  refine CF.out.mono ?_
  rintro r w2 ⟨rfl, b2⟩
  have B2 := Lib.hid (bthen B1.out b2)
  have K2 := Lib.hid (blk_below K1.out b2)
  have HM2 := Lib.hid (HM.out.old B2.out)
  clear b2 x0 CF B1 K1 d1 d2
  cases FB with
  | false =>
    have hT : TX = ⟨#[]⟩ := HTX.out
    have hE : ER = 4 := HER.out
    go_wp2_with fail
    go_ret2
    exact ⟨by first | rfl | (rw [hT, hE]; rfl), B2.out⟩
  | true =>
  have HTX2 := Lib.hid (show TX = doneS MS from HTX.out)
  have HER2 := Lib.hid (show ER = if MS.err = 0 then 0 else 3 from HER.out)
  clear HTX HER
  go_wp2_with fail
  refine (wnew_any 65536 w2).mono ?_
  rintro r w3 ⟨rfl, h3, b3⟩
  have H := Lib.hid h3
  obtain ⟨p, hp⟩ : ∃ p, p = w2.heap.size := ⟨_, rfl⟩
  rw [← hp] at H h3 ⊢
  obtain ⟨w4, hw4⟩ : ∃ u, u = w3.alloc (.cells #[.pointer (some ⟨p, 0, none⟩)] 115 (0, 0)) := ⟨_, rfl⟩
  have b4 : Below w3.heap.size w3 w4 := by rw [hw4]; exact below_alloc _ _
  have KW := Lib.hid (show w4.heap[w3.heap.size]? = some (.cells #[.pointer (some ⟨p, 0, none⟩)] 115 (0, 0)) by rw [hw4]; exact blk_alloc _ _)
  replace H := Lib.hid (show PWr w3 w2.heap.size p none (wNew 65536) from hp ▸ H.out)
  have h4 : PWr w4 w2.heap.size p none (wNew 65536) := WAt.below H.out b4
  have b4' := bthen b3 b4
  clear h3 b3 b4 hp
  have q0 : w4.cell? ⟨w.heap.size, 0, none⟩ = some (.int .i64 m.k) := mgAt_blk (blk_below K2.out b4') 0 _ rfl
  have q1 : w4.cell? ⟨w3.heap.size, 0, none⟩ = some (.pointer (some ⟨p, 0, none⟩)) := by rw [blk_cell KW.out]; rfl
  have N0 := Lib.hid mid_new
  have C4 := Lib.hid (wbyte_at w2 p none (wNew 65536) m.k w4 h4 b4' N0.out HM2.out.k)
  generalize wNew 65536 = S0 at *
  obtain ⟨S1, hS1⟩ : ∃ S, S = wIt S0 (itB m.k) := ⟨_, rfl⟩
  have N1 := Lib.hid (N0.out.it (itB m.k))
  rw [← hS1] at N1
  obtain ⟨S2, hS2⟩ : ∃ S, S = wIt S1 (itW m.e) := ⟨_, rfl⟩
  have N2 := Lib.hid (N1.out.it (itW m.e))
  rw [← hS2] at N2
  obtain ⟨S3, hS3⟩ : ∃ S, S = wIt S2 (itB m.v) := ⟨_, rfl⟩
  have N3 := Lib.hid (N2.out.it (itB m.v))
  rw [← hS3] at N3
  obtain ⟨S4, hS4⟩ : ∃ S, S = wIt S3 (itW m.s) := ⟨_, rfl⟩
  have N4 := Lib.hid (N3.out.it (itW m.s))
  rw [← hS4] at N4
  obtain ⟨S5, hS5⟩ : ∃ S, S = wIt S4 (itT m.q.text) := ⟨_, rfl⟩
  have N5 := Lib.hid (N4.out.it (itT m.q.text))
  rw [← hS5] at N5
  obtain ⟨S6, hS6⟩ : ∃ S, S = wIt S5 (itT (resText m.c m.r)) := ⟨_, rfl⟩
  have N6 := Lib.hid (N5.out.it (itT (resText m.c m.r)))
  rw [← hS6] at N6
  obtain ⟨S7, hS7⟩ : ∃ S, S = wIt S6 (itT m.t) := ⟨_, rfl⟩
  have N7 := Lib.hid (N6.out.it (itT m.t))
  rw [← hS7] at N7
  obtain ⟨S8, hS8⟩ : ∃ S, S = wIt S7 (itB (n1 : Int)) := ⟨_, rfl⟩
  have N8 := Lib.hid (N7.out.it (itB (n1 : Int)))
  rw [← hS8] at N8
  have HSN := Lib.hid (show MS = wIts (wIt (wIts (wIt (wIts (wIts S8 (m.nx.flatMap fun x => [itB x])) (itSigs m.sg)) (itB (n3 : Int))) (m.ch.flatMap itChange)) (itB (n4 : Int))) (m.lk.flatMap itLink) from by rw [HMS.out, hS8, hS7, hS6, hS5, hS4, hS3, hS2, hS1]; rfl)
  obtain ⟨S9, hS9⟩ : ∃ S, S = wIts S8 (m.nx.flatMap fun x => [itB x]) := ⟨_, rfl⟩
  have N9 := Lib.hid (N8.out.its (l := m.nx.flatMap fun x => [itB x]))
  rw [← hS9] at N9 HSN
  obtain ⟨S10, hS10⟩ : ∃ S, S = wIts S9 (itSigs m.sg) := ⟨_, rfl⟩
  have N10 := Lib.hid (N9.out.its (l := itSigs m.sg))
  rw [← hS10] at N10 HSN
  obtain ⟨S11, hS11⟩ : ∃ S, S = wIt S10 (itB (n3 : Int)) := ⟨_, rfl⟩
  have N11 := Lib.hid (N10.out.it (itB (n3 : Int)))
  rw [← hS11] at N11 HSN
  obtain ⟨S12, hS12⟩ : ∃ S, S = wIts S11 (m.ch.flatMap itChange) := ⟨_, rfl⟩
  have N12 := Lib.hid (N11.out.its (l := m.ch.flatMap itChange))
  rw [← hS12] at N12 HSN
  obtain ⟨S13, hS13⟩ : ∃ S, S = wIt S12 (itB (n4 : Int)) := ⟨_, rfl⟩
  have N13 := Lib.hid (N12.out.it (itB (n4 : Int)))
  rw [← hS13] at N13 HSN
  have HS1 := Lib.hid hS1
  clear hS1
  have HS2 := Lib.hid hS2
  clear hS2
  have HS3 := Lib.hid hS3
  clear hS3
  have HS4 := Lib.hid hS4
  clear hS4
  have HS5 := Lib.hid hS5
  clear hS5
  have HS6 := Lib.hid hS6
  clear hS6
  have HS7 := Lib.hid hS7
  clear hS7
  have HS8 := Lib.hid hS8
  clear hS8
  have HS9 := Lib.hid hS9
  clear hS9
  have HS10 := Lib.hid hS10
  clear hS10
  have HS11 := Lib.hid hS11
  clear hS11
  have HS12 := Lib.hid hS12
  clear hS12
  have HS13 := Lib.hid hS13
  clear hS13
  have HCQ := Lib.hid (fun o w h b => wreq_at w2 p o S4 m.q w h b N4.out HM2.out.q)
  simp only [Rq.v] at HCQ
  rw [← HS1.out] at C4
  have J4 := Lib.hid (show ∀ s' w', WA w2 w4 p none s' w' → WA w2 w4 p none s' w' from fun _ _ h => h)
  clear h4 b4'
  go_upto_region 6 with (fail)
  rw [← hw4]
  clear hw4
  go_wp2_with fail
  refine C4.out.mono ?_
  rintro e w5 ⟨rfl, x5⟩
  replace x5 := J4.out _ _ x5
  obtain ⟨o5, h5, b5, j5⟩ := x5.call
  have J5 := Lib.hid j5
  have km := blk_below K2.out b5
  have q5_1 : w5.cell? ⟨w.heap.size, 1, none⟩ = some (.int .i64 m.e) := mgAt_blk km 1 _ rfl
  have q5_w : w5.cell? ⟨w3.heap.size, 0, none⟩ = some (.pointer (some ⟨p, 0, none⟩)) := by rw [blk_cell (x5.box H.out (Nat.le_refl _) KW.out)]; rfl
  have c5 := wword_at w2 p o5 S1 m.e w5 h5 b5 N1.out HM2.out.e
  rw [← HS2.out] at c5
  have C5 := Lib.hid c5
  clear c5
  clear q0 q1 km x5 h5 b5 j5 C4 J4
  go_wp2_with fail
  refine C5.out.mono ?_
  rintro e w6 ⟨rfl, x6⟩
  replace x6 := J5.out _ _ x6
  obtain ⟨o6, h6, b6, j6⟩ := x6.call
  have J6 := Lib.hid j6
  have km := blk_below K2.out b6
  have q6_2 : w6.cell? ⟨w.heap.size, 2, none⟩ = some (.int .i64 m.v) := mgAt_blk km 2 _ rfl
  have q6_w : w6.cell? ⟨w3.heap.size, 0, none⟩ = some (.pointer (some ⟨p, 0, none⟩)) := by rw [blk_cell (x6.box H.out (Nat.le_refl _) KW.out)]; rfl
  have c6 := wbyte_at w2 p o6 S2 m.v w6 h6 b6 N2.out HM2.out.v
  rw [← HS3.out] at c6
  have C6 := Lib.hid c6
  clear c6
  clear q5_1 q5_w km x6 h6 b6 j6 C5 J5
  go_wp2_with fail
  refine C6.out.mono ?_
  rintro e w7 ⟨rfl, x7⟩
  replace x7 := J6.out _ _ x7
  obtain ⟨o7, h7, b7, j7⟩ := x7.call
  have J7 := Lib.hid j7
  have km := blk_below K2.out b7
  have q7_3 : w7.cell? ⟨w.heap.size, 3, none⟩ = some (.int .i64 m.s) := mgAt_blk km 3 _ rfl
  have q7_w : w7.cell? ⟨w3.heap.size, 0, none⟩ = some (.pointer (some ⟨p, 0, none⟩)) := by rw [blk_cell (x7.box H.out (Nat.le_refl _) KW.out)]; rfl
  have c7 := wword_at w2 p o7 S3 m.s w7 h7 b7 N3.out HM2.out.s
  rw [← HS4.out] at c7
  have C7 := Lib.hid c7
  clear c7
  clear q6_2 q6_w km x7 h7 b7 j7 C6 J6
  go_wp2_with fail
  refine C7.out.mono ?_
  rintro e w8 ⟨rfl, x8⟩
  replace x8 := J7.out _ _ x8
  obtain ⟨o8, h8, b8, j8⟩ := x8.call
  have J8 := Lib.hid j8
  have km := blk_below K2.out b8
  have q8_4 : w8.cell? ⟨w.heap.size, 4, none⟩ = some (.int .i64 m.q.c) := mgAt_blk km 4 _ rfl
  have q8_5 : w8.cell? ⟨w.heap.size, 5, none⟩ = some (.int .i64 m.q.s) := mgAt_blk km 5 _ rfl
  have q8_6 : w8.cell? ⟨w.heap.size, 6, none⟩ = some (.int .i64 m.q.kind) := mgAt_blk km 6 _ rfl
  have q8_7 : w8.cell? ⟨w.heap.size, 7, none⟩ = some (.string m.q.key) := mgAt_blk km 7 _ rfl
  have q8_8 : w8.cell? ⟨w.heap.size, 8, none⟩ = some (.float .f64 m.q.b) := mgAt_blk km 8 _ rfl
  have q8_9 : w8.cell? ⟨w.heap.size, 9, none⟩ = some (.int .i64 m.q.id) := mgAt_blk km 9 _ rfl
  have q8_w : w8.cell? ⟨w3.heap.size, 0, none⟩ = some (.pointer (some ⟨p, 0, none⟩)) := by rw [blk_cell (x8.box H.out (Nat.le_refl _) KW.out)]; rfl
  have c8 := HCQ.out o8 w8 h8 b8
  rw [← HS5.out] at c8
  have C8 := Lib.hid c8
  clear c8
  clear q7_3 q7_w km x8 h8 b8 j8 C7 J7
  go_wp2_with fail
  refine C8.out.mono ?_
  rintro e w9 ⟨rfl, x9⟩
  replace x9 := J8.out _ _ x9
  obtain ⟨o9, h9, b9, j9⟩ := x9.call
  have J9 := Lib.hid j9
  have km := blk_below K2.out b9
  have q9_10 : w9.cell? ⟨w.heap.size, 10, none⟩ = some (.int .i64 m.c) := mgAt_blk km 10 _ rfl
  have q9_11 : w9.cell? ⟨w.heap.size, 11, none⟩ = some (.float .f64 m.r) := mgAt_blk km 11 _ rfl
  have X9 := Lib.hid x9
  have CR := Lib.hid (restext_any m.c m.r w9 HM2.out.r)
  clear q8_4 q8_5 q8_6 q8_7 q8_8 q8_9 q8_w km x9 h9 b9 j9 C8 J8 J9
  go_wp2_with fail
  refine CR.out.mono ?_
  rintro e wA ⟨rfl, bA⟩
  have xA := X9.out.below bA
  obtain ⟨oA, hA, bA', jA⟩ := xA.call
  have J9 := Lib.hid jA
  have qA : wA.cell? ⟨w3.heap.size, 0, none⟩ = some (.pointer (some ⟨p, 0, none⟩)) := by rw [blk_cell (xA.box H.out (Nat.le_refl _) KW.out)]; rfl
  have c9 := wtext_at w2 p oA S5 (resText m.c m.r) wA hA bA' N5.out (by have := resText_small m.c m.r; omega)
  rw [← HS6.out] at c9
  have C9 := Lib.hid c9
  generalize resText m.c m.r = RT at *
  clear q9_10 q9_11 bA xA hA bA' jA c9 X9 CR
  go_wp2_with fail
  refine C9.out.mono ?_
  rintro e w10 ⟨rfl, x10⟩
  replace x10 := J9.out _ _ x10
  obtain ⟨o10, h10, b10, j10⟩ := x10.call
  have J10 := Lib.hid j10
  have km := blk_below K2.out b10
  have q10_12 : w10.cell? ⟨w.heap.size, 12, none⟩ = some (.string m.t) := mgAt_blk km 12 _ rfl
  have q10_w : w10.cell? ⟨w3.heap.size, 0, none⟩ = some (.pointer (some ⟨p, 0, none⟩)) := by rw [blk_cell (x10.box H.out (Nat.le_refl _) KW.out)]; rfl
  have c10 := wtext_at w2 p o10 S6 m.t w10 h10 b10 N6.out (by have := HM2.out.t; omega)
  rw [← HS7.out] at c10
  have C10 := Lib.hid c10
  clear c10
  clear qA km x10 h10 b10 j10 C9 J9
  go_wp2_with fail
  refine C10.out.mono ?_
  rintro e w11 ⟨rfl, x11⟩
  replace x11 := J10.out _ _ x11
  obtain ⟨o11, h11, b11, j11⟩ := x11.call
  have J11 := Lib.hid j11
  have km := blk_below K2.out b11
  have q11_13 : w11.cell? ⟨w.heap.size, 13, none⟩ = some (.slice a1 n1 c1) := mgAt_blk km 13 _ rfl
  have q11_w : w11.cell? ⟨w3.heap.size, 0, none⟩ = some (.pointer (some ⟨p, 0, none⟩)) := by rw [blk_cell (x11.box H.out (Nat.le_refl _) KW.out)]; rfl
  have hcap1 := HM2.out.nx.cap
  have hmax1 := HM2.out.nx.max
  have hlen1 := HM2.out.nx.len
  have hcap3 := HM2.out.ch.cap
  have hmax3 := HM2.out.ch.max
  have hlen3 := HM2.out.ch.len
  have hcap4 := HM2.out.lk.cap
  have hmax4 := HM2.out.lk.max
  have hlen4 := HM2.out.lk.len
  have c11 := wbyte_at w2 p o11 S7 (n1 : Int) w11 h11 b11 N7.out ⟨by omega, by omega⟩
  rw [← HS8.out] at c11
  have C11 := Lib.hid c11
  clear c11
  clear q10_12 q10_w km x11 h11 b11 j11 C10 J10
  go_wp2_with fail
  refine C11.out.mono ?_
  rintro e w12 ⟨rfl, x12⟩
  replace x12 := J11.out _ _ x12
  obtain ⟨o12, h12, b12, j12⟩ := x12.call
  have J12 := Lib.hid j12
  have km := blk_below K2.out b12
  have q12_13 : w12.cell? ⟨w.heap.size, 13, none⟩ = some (.slice a1 n1 c1) := mgAt_blk km 13 _ rfl
  have X12 := Lib.hid x12
  clear q11_13 q11_w km x12 h12 b12 j12 C11 J11 J12
  go_wp2_with fail
  go_loopw [80] (fun i wr => ∃ k : Nat, k ≤ n1 ∧ i = .int .i64 k ∧ Hid (WA w2 w4 p none (wIts S8 ((m.nx.take k).flatMap fun x => [itB x])) wr)) (fun i _ => n1 - (intOf i).toNat)
  case atStart => exact ⟨0, by omega, rfl, X12⟩
  case round =>
    clear X12 q12_13
    obtain ⟨k, hk, rfl, HX⟩ := hrel
    by_cases hlt : k < n1
    · have hd : decide ((k : Int) < (n1 : Int)) = true := by simp; omega
      obtain ⟨bb, o, x, rfl, hy, z0, hxi⟩ := int_cell13 HM2.out.nx hlt
      replace z0 := below_cell HX.out.1 z0
      obtain ⟨o3, h3, b3, j3⟩ := HX.out.call
      have JX := Lib.hid j3
      have HST := Lib.hid (its_flat_snoc (f := fun x => [itB x]) S8 hy)
      have CX := Lib.hid (wbyte_at w2 p o3 _ x wr h3 b3 (N8.out.its (l := (m.nx.take k).flatMap fun x => [itB x])) hxi)
      have y0 : wr.cell? ⟨w3.heap.size, 0, none⟩ = some (.pointer (some ⟨p, 0, none⟩)) := by rw [blk_cell (HX.out.box H.out (Nat.le_refl _) KW.out)]; rfl
      clear h3 b3 j3 hy hxi
      go_wp2_with fail
      refine CX.out.mono ?_
      rintro e w13 ⟨rfl, x13⟩
      have X13 := Lib.hid (show WA w2 w4 p none (wIts S8 ((m.nx.take (k + 1)).flatMap fun x => [itB x])) w13 from by rw [← HST.out]; exact JX.out _ _ x13)
      clear x13 y0 z0 CX JX
      go_wp2_with fail
      go_roundw
      case rel => exact ⟨k + 1, by omega, by go_num, X13⟩
      case measure => simp [intOf]; omega
    · have hd : decide ((k : Int) < (n1 : Int)) = false := by simp; omega
      have hT : m.nx.take k = m.nx := List.take_of_length_le (by omega)
      rw [hT, ← HS9.out] at HX
      obtain ⟨o12, h12, b12, j12⟩ := HX.out.call
      have J12 := Lib.hid j12
      have y0 : wr.cell? ⟨w3.heap.size, 0, none⟩ = some (.pointer (some ⟨p, 0, none⟩)) := by rw [blk_cell (HX.out.box H.out (Nat.le_refl _) KW.out)]; rfl
      have y1 : wr.cell? ⟨w.heap.size, 14, none⟩ = some (.slice a2 n2 c2) := mgAt_blk (blk_below K2.out b12) 14 _ rfl
      have c12 := wsigs_at w2 p o12 S9 a2 n2 c2 m.sg wr h12 b12 N9.out HM2.out.sg
      rw [← HS10.out] at c12
      have C12 := Lib.hid c12
      clear h12 b12 j12 c12 hT HX
      go_wp2_with fail
      refine C12.out.mono ?_
      rintro e w13 ⟨rfl, x13⟩
      replace x13 := J12.out _ _ x13
      obtain ⟨o13, h13, b13, j13⟩ := x13.call
      have J13 := Lib.hid j13
      have km := blk_below K2.out b13
      have q13_15 : w13.cell? ⟨w.heap.size, 15, none⟩ = some (.slice a3 n3 c3) := mgAt_blk km 15 _ rfl
      have q13_w : w13.cell? ⟨w3.heap.size, 0, none⟩ = some (.pointer (some ⟨p, 0, none⟩)) := by rw [blk_cell (x13.box H.out (Nat.le_refl _) KW.out)]; rfl
      have c13 := wbyte_at w2 p o13 S10 (n3 : Int) w13 h13 b13 N10.out ⟨by omega, by omega⟩
      rw [← HS11.out] at c13
      have C13 := Lib.hid c13
      clear c13
      clear y0 y1 km x13 h13 b13 j13 C12 J12
      go_wp2_with fail
      refine C13.out.mono ?_
      rintro e w14 ⟨rfl, x14⟩
      replace x14 := J13.out _ _ x14
      obtain ⟨o14, h14, b14, j14⟩ := x14.call
      have J14 := Lib.hid j14
      have km := blk_below K2.out b14
      have q14_15 : w14.cell? ⟨w.heap.size, 15, none⟩ = some (.slice a3 n3 c3) := mgAt_blk km 15 _ rfl
      have X14 := Lib.hid x14
      clear q13_15 q13_w km x14 h14 b14 j14 C13 J13 J14
      go_wp2_with fail
      go_loopw [102] (fun i wr => ∃ k : Nat, k ≤ n3 ∧ i = .int .i64 k ∧ Hid (WA w2 w4 p none (wIts S11 ((m.ch.take k).flatMap itChange)) wr)) (fun i _ => n3 - (intOf i).toNat)
      case atStart => exact ⟨0, by omega, rfl, X14⟩
      case round =>
        clear X14 q14_15
        obtain ⟨k, hk, rfl, HX⟩ := hrel
        by_cases hlt : k < n3
        · have hd : decide ((k : Int) < (n3 : Int)) = true := by simp; omega
          obtain ⟨bb, o, y, sa, sn, sc, rfl, hy, z0, z1, z2, z3, z4, hfr, hv, hce, hs1, hs2⟩ := change_cells HM2.out.ch hlt
          have bx := HX.out.1
          replace z0 := below_cell bx z0; replace z1 := below_cell bx z1; replace z2 := below_cell bx z2; replace z3 := below_cell bx z3; replace z4 := below_cell bx z4
          obtain ⟨wl, hwl⟩ : ∃ u, u = wr.alloc (.cells #[.int .i64 y.fr, .int .i64 y.v, .slice sa sn sc, .int .i64 y.sg.1, .string y.sg.2] 122 (0, 0)) := ⟨_, rfl⟩
          have bl : Below wr.heap.size wr wl := by rw [hwl]; exact below_alloc _ _
          have kl : wl.heap[wr.heap.size]? = some (.cells #[.int .i64 y.fr, .int .i64 y.v, .slice sa sn sc, .int .i64 y.sg.1, .string y.sg.2] 122 (0, 0)) := by rw [hwl]; exact blk_alloc _ _
          have xl := HX.out.below bl
          obtain ⟨o3, h3, b3, j3⟩ := xl.call
          have JX := Lib.hid j3
          have HST := Lib.hid (its_flat_snoc (f := itChange) S11 hy)
          have CX := Lib.hid (wchange_at w2 p o3 _ y sa sn sc wl h3 b3 (N11.out.its (l := (m.ch.take k).flatMap itChange)) hfr hv hce hs1 hs2)
          have y0 : wl.cell? ⟨w3.heap.size, 0, none⟩ = some (.pointer (some ⟨p, 0, none⟩)) := by rw [blk_cell (xl.box H.out (Nat.le_refl _) KW.out)]; rfl
          have v0 : wl.cell? ⟨wr.heap.size, 0, none⟩ = some (.int .i64 y.fr) := by rw [blk_cell kl]; rfl
          have v1 : wl.cell? ⟨wr.heap.size, 1, none⟩ = some (.int .i64 y.v) := by rw [blk_cell kl]; rfl
          have v2 : wl.cell? ⟨wr.heap.size, 2, none⟩ = some (.slice sa sn sc) := by rw [blk_cell kl]; rfl
          have v3 : wl.cell? ⟨wr.heap.size, 3, none⟩ = some (.int .i64 y.sg.1) := by rw [blk_cell kl]; rfl
          have v4 : wl.cell? ⟨wr.heap.size, 4, none⟩ = some (.string y.sg.2) := by rw [blk_cell kl]; rfl
          clear h3 b3 j3 hy hfr hv hce hs1 hs2 bx kl xl bl
          go_upto_region 25 with (fail)
          rw [← hwl]
          clear hwl z0 z1 z2 z3 z4
          go_wp2_with fail
          refine CX.out.mono ?_
          rintro e w15 ⟨rfl, x15⟩
          have X15 := Lib.hid (show WA w2 w4 p none (wIts S11 ((m.ch.take (k + 1)).flatMap itChange)) w15 from by rw [← HST.out]; exact JX.out _ _ x15)
          clear x15 y0 v0 v1 v2 v3 v4 CX JX
          go_wp2_with fail
          go_roundw
          case rel => exact ⟨k + 1, by omega, by go_num, X15⟩
          case measure => simp [intOf]; omega
        · have hd : decide ((k : Int) < (n3 : Int)) = false := by simp; omega
          have hT : m.ch.take k = m.ch := List.take_of_length_le (by omega)
          rw [hT, ← HS12.out] at HX
          obtain ⟨o14, h14, b14, j14⟩ := HX.out.call
          have J14 := Lib.hid j14
          have y0 : wr.cell? ⟨w3.heap.size, 0, none⟩ = some (.pointer (some ⟨p, 0, none⟩)) := by rw [blk_cell (HX.out.box H.out (Nat.le_refl _) KW.out)]; rfl
          have y1 : wr.cell? ⟨w.heap.size, 16, none⟩ = some (.slice a4 n4 c4) := mgAt_blk (blk_below K2.out b14) 16 _ rfl
          have c14 := wbyte_at w2 p o14 S12 (n4 : Int) wr h14 b14 N12.out ⟨by omega, by omega⟩
          rw [← HS13.out] at c14
          have C14 := Lib.hid c14
          clear h14 b14 j14 c14 hT HX
          go_wp2_with fail
          refine C14.out.mono ?_
          rintro e w15 ⟨rfl, x15⟩
          replace x15 := J14.out _ _ x15
          obtain ⟨o15, h15, b15, j15⟩ := x15.call
          have J15 := Lib.hid j15
          have km := blk_below K2.out b15
          have q15_16 : w15.cell? ⟨w.heap.size, 16, none⟩ = some (.slice a4 n4 c4) := mgAt_blk km 16 _ rfl
          have X15 := Lib.hid x15
          clear y0 y1 km x15 h15 b15 j15 C14 J14 J15
          go_wp2_with fail
          go_loopw [119] (fun i wr => ∃ k : Nat, k ≤ n4 ∧ i = .int .i64 k ∧ Hid (WA w2 w4 p none (wIts S13 ((m.lk.take k).flatMap itLink)) wr)) (fun i _ => n4 - (intOf i).toNat)
          case atStart => exact ⟨0, by omega, rfl, X15⟩
          case round =>
            clear X15 q15_16
            obtain ⟨k, hk, rfl, HX⟩ := hrel
            by_cases hlt : k < n4
            · have hd : decide ((k : Int) < (n4 : Int)) = true := by simp; omega
              obtain ⟨bb, o, e, ms, sg, ma, mn, mc, sa, sn, sc, rfl, hy, z0, z1, z2, hie, hms, hsg⟩ := link_cells13 HM2.out.lk hlt
              have bx := HX.out.1
              replace z0 := below_cell bx z0; replace z1 := below_cell bx z1; replace z2 := below_cell bx z2
              obtain ⟨wl, hwl⟩ : ∃ u, u = wr.alloc (.cells #[.int .i64 e, .slice ma mn mc, .slice sa sn sc] 61 (0, 0)) := ⟨_, rfl⟩
              have bl : Below wr.heap.size wr wl := by rw [hwl]; exact below_alloc _ _
              have KL := Lib.hid (show wl.heap[wr.heap.size]? = some (.cells #[.int .i64 e, .slice ma mn mc, .slice sa sn sc] 61 (0, 0)) by rw [hwl]; exact blk_alloc _ _)
              have XL := Lib.hid (HX.out.below bl)
              have HST := Lib.hid (its_flat_snoc (f := itLink) S13 hy)
              have NX := Lib.hid (N13.out.its (l := (m.lk.take k).flatMap itLink))
              obtain ⟨T0, hT0⟩ : ∃ T, T = wIts S13 ((m.lk.take k).flatMap itLink) := ⟨_, rfl⟩
              rw [← hT0] at NX HST XL
              have HLK := Lib.hid (show wIts T0 (itLink ((e, ms), sg)) = wIts (wIt T0 (itT (textS e ms))) (itSigs sg) from rfl)
              have HTL := Lib.hid (textS_small e ms)
              have CT := Lib.hid (text_any e ma mn mc ms wl (ints_of_sl (hms.old (bthen bx bl))))
              have HSG := Lib.hid hsg
              have v0 : wl.cell? ⟨wr.heap.size, 0, none⟩ = some (.int .i64 e) := by rw [blk_cell KL.out]; rfl
              have v1 : wl.cell? ⟨wr.heap.size, 1, none⟩ = some (.slice ma mn mc) := by rw [blk_cell KL.out]; rfl
              generalize wIts T0 (itLink ((e, ms), sg)) = TF at *
              generalize textS e ms = TT at *
              generalize textE e ms = TE at *
              clear hy hie hms hsg bx bl hT0 HX
              go_upto_region 31 with (fail)
              rw [← hwl]
              clear hwl z0 z1 z2
              go_wp2_with fail
              refine CT.out.mono ?_
              rintro r w16 ⟨rfl, b16⟩
              have x16 := XL.out.below b16
              obtain ⟨o16, h16, b16', j16⟩ := x16.call
              have J16 := Lib.hid j16
              have KL16 := Lib.hid (blk_below KL.out b16)
              have y0 : w16.cell? ⟨w3.heap.size, 0, none⟩ = some (.pointer (some ⟨p, 0, none⟩)) := by rw [blk_cell (x16.box H.out (Nat.le_refl _) KW.out)]; rfl
              have C16 := Lib.hid (wtext_at w2 p o16 T0 TT w16 h16 b16' NX.out (by have := HTL.out; omega))
              have H16 := Lib.hid h16
              have ZL := Lib.hid (show wr.heap.size < w16.heap.size from blk_lt KL16.out)
              have HNB := Lib.hid (show ∀ k, o16 = some k → k ≠ wr.heap.size from fun k hk hc => by
                subst hc hk
                have := KL16.out
                obtain ⟨_, _, v, _, ho, hv⟩ := h16
                exact own_ne_w ho this (by decide) hv)
              have HNP := Lib.hid (show wr.heap.size ≠ p from fun hc => by
                have := KL16.out
                obtain ⟨_, _, v, hv, _⟩ := h16
                rw [hc, hv] at this
                injection this with this
                injection this with _ this _
                revert this; decide)
              clear b16 x16 h16 b16' j16 v0 v1 KL XL CT
              go_wp2_with fail
              refine C16.out.mono ?_
              rintro e w17 ⟨rfl, x17⟩
              have kl17 : w17.heap[wr.heap.size]? = _ := (x17.2.1.block _ ZL.out HNP.out (fun hc => HNB.out _ hc rfl)).trans KL16.out
              replace x17 := J16.out _ _ x17
              obtain ⟨o17, h17, b17, j17⟩ := x17.call
              have J17 := Lib.hid j17
              have u0 : w17.cell? ⟨w3.heap.size, 0, none⟩ = some (.pointer (some ⟨p, 0, none⟩)) := by rw [blk_cell (x17.box H.out (Nat.le_refl _) KW.out)]; rfl
              have u1 : w17.cell? ⟨wr.heap.size, 2, none⟩ = some (.slice sa sn sc) := by rw [blk_cell kl17]; rfl
              have C17 := Lib.hid (wsigs_at w2 p o17 _ sa sn sc sg w17 h17 b17 (NX.out.it (itT TT)) HSG.out)
              clear x17 h17 b17 j17 kl17 y0 J16 C16 H16 KL16
              go_wp2_with fail
              refine C17.out.mono ?_
              rintro e w18 ⟨rfl, x18⟩
              have X18 := Lib.hid (show WA w2 w4 p none (wIts S13 ((m.lk.take (k + 1)).flatMap itLink)) w18 from by rw [← HST.out, HLK.out]; exact J17.out _ _ x18)
              clear x18 u0 u1 C17 J17
              go_wp2_with fail
              go_roundw
              case rel => exact ⟨k + 1, by omega, by go_num, X18⟩
              case measure => simp [intOf]; omega
            · have hd : decide ((k : Int) < (n4 : Int)) = false := by simp; omega
              have hT : m.lk.take k = m.lk := List.take_of_length_le (by omega)
              rw [hT, ← HSN.out] at HX
              obtain ⟨oz, hz, bz, jz⟩ := HX.out.call
              have y0 : wr.cell? ⟨w3.heap.size, 0, none⟩ = some (.pointer (some ⟨p, 0, none⟩)) := by rw [blk_cell (HX.out.box H.out (Nat.le_refl _) KW.out)]; rfl
              have CD := Lib.hid (wdone_any _ _ _ _ wr hz)
              have BZ := Lib.hid (bthen B2.out bz)
              clear hz bz jz hT HX
              by_cases herr : MS.err = 0
              · have hE : ER = 0 := by rw [HER2.out, if_pos herr]
                have HT2 := Lib.hid HTX2.out
                rw [herr] at CD
                generalize doneS MS = DT at *
                clear herr HER2 HTX2
                go_wp2_with fail
                refine CD.out.mono ?_
                rintro r w9 ⟨rfl, b9⟩
                have B9 := Lib.hid (bthen BZ.out b9)
                clear b9
                go_wp2_with fail
                go_ret2
                exact ⟨by rw [HT2.out, hE]; rfl, B9.out⟩
              · have hE : ER = 3 := by rw [HER2.out, if_neg herr]
                have hT3 : TX = ⟨#[]⟩ := by rw [HTX2.out, doneS, if_neg herr]
                have hne : (MS.err != 0) = true := by simpa using herr
                generalize doneS MS = DT at *
                generalize MS.err = ME at *
                clear herr HER2 HTX2
                go_wp2_with fail
                refine CD.out.mono ?_
                rintro r w9 ⟨rfl, b9⟩
                have B9 := Lib.hid (bthen BZ.out b9)
                clear b9
                go_wp2_with fail
                go_ret2
                exact ⟨by rw [hT3, hE]; rfl, B9.out⟩
end Go.Proofs.Ytijeieamodjgbab
