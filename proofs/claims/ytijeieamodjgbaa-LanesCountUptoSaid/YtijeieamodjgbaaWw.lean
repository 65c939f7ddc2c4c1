
/- Wire: the writer's walks: sig, sigs, request, change. -/
import Derived.Test.YtijeieamodjgbaaWm
import Derived.Test.YtijeieamodjgbaaDh
namespace Go.Proofs.Ytijeieamodjgbaa
set_option maxRecDepth 100000
open Go.RowKit Go.Deep
set_option linter.unusedVariables false
set_option linter.unusedSimpArgs false
attribute [local go_sem] run_store_float

/-- A writer at work since the world w1: what it changed are its own blocks. -/
def WA (w0 w1 : World) (p : Nat) (ob : Option Nat) (s : W) (wk : World) : Prop :=
  Below w0.heap.size w0 wk ∧ Only p ob w1 wk ∧ ∃ obk, (obk = ob ∨ ∃ k, obk = some k ∧ w1.heap.size ≤ k) ∧ PWr wk w0.heap.size p obk s
theorem WA.start {w0 w : World} {p : Nat} {ob : Option Nat} {s : W} (h : PWr w w0.heap.size p ob s) (hb : Below w0.heap.size w0 w) : WA w0 w p ob s w := ⟨hb, Only.refl _ _ _, ob, .inl rfl, h⟩
theorem WA.post {w0 w w' : World} {p : Nat} {ob : Option Nat} {s s' : W} {e : Ending} (h : PWr w w0.heap.size p ob s) (hb : Below w0.heap.size w0 w) (hp : PWPost w w0.heap.size p ob s' e w') : e = .returned (.tuple #[]) ∧ WA w0 w p ob s' w' := by
  obtain ⟨rfl, ob', h1, h2, h3⟩ := hp
  exact ⟨rfl, h3.below hb h.1 (fun k hk => (WAt.ob_lt h k hk).1), h3, ob', h1, h2⟩
theorem WA.call {w0 w1 wk : World} {p : Nat} {ob : Option Nat} {s : W} (X : WA w0 w1 p ob s wk) : ∃ obk, PWr wk w0.heap.size p obk s ∧ Below w0.heap.size w0 wk ∧ ∀ s' w', WA w0 wk p obk s' w' → WA w0 w1 p ob s' w' := by
  obtain ⟨hb, ho, obk, hor, hp⟩ := X
  refine ⟨obk, hp, hb, fun s' w' ⟨hb', ho', ob', hor', hp'⟩ => ⟨hb', ho.trans ho' hor, ob', ?_, hp'⟩⟩
  have hsz := ho.size
  rcases hor' with rfl | ⟨k, rfl, hk⟩
  · exact hor
  · exact .inr ⟨k, rfl, by omega⟩
theorem WA.pre {w0 w w1 wk : World} {p : Nat} {ob : Option Nat} {s : W} (hb : Below w.heap.size w w1) (X : WA w0 w1 p ob s wk) : WA w0 w p ob s wk := by
  obtain ⟨hb', ho, obk, hor, hp⟩ := X
  refine ⟨hb', (Only.of_below hb).trans ho (.inl rfl), obk, ?_, hp⟩
  have := hb.size
  rcases hor with rfl | ⟨k, rfl, hk⟩
  · exact .inl rfl
  · exact .inr ⟨k, rfl, by omega⟩
theorem WA.alloc {w0 w1 wk : World} {p : Nat} {ob : Option Nat} {s : W} (X : WA w0 w1 p ob s wk) (o : Obj) : WA w0 w1 p ob s (wk.alloc o) := by
  obtain ⟨hb', ho, obk, hor, hp⟩ := X
  exact ⟨balloc hb' o, ho.alloc o, obk, hor, WAt.below hp (below_alloc _ _)⟩
theorem WA.below {w0 w1 wk w' : World} {p : Nat} {ob : Option Nat} {s : W} (X : WA w0 w1 p ob s wk) (hb : Below wk.heap.size wk w') : WA w0 w1 p ob s w' := by
  obtain ⟨hb', ho, obk, hor, hp⟩ := X
  exact ⟨bthen hb' hb, ho.trans (Only.of_below (ob := ob) hb) (.inl rfl), obk, hor, WAt.below hp hb⟩
/-- What was new to the writer stays. -/
theorem WA.box {w0 w w1 wk : World} {p : Nat} {ob : Option Nat} {s s0 : W} {h : Nat} {c : Obj} (X : WA w0 w1 p ob s wk) (H : PWr w w0.heap.size p ob s0) (hh : w.heap.size ≤ h) (hk : w1.heap[h]? = some c) : wk.heap[h]? = some c := by
  have hp := WAt.lt H
  have hl : h < w1.heap.size := by
    rcases Nat.lt_or_ge h w1.heap.size with h1 | h1
    · exact h1
    · rw [Array.getElem?_eq_none (by omega)] at hk; cases hk
  rw [X.2.1.block h hl (by omega) (fun hc => by have := (WAt.ob_lt H h hc).2; omega)]
  exact hk
theorem Mid.it {s : W} (h : Mid s) (i : Ith) : Mid (wIt s i) := h.put i.1 i.2
theorem wbyte_at (w0 : World) (p : Nat) (ob : Option Nat) (s : W) (n : Int) (w : World) (h : PWr w w0.heap.size p ob s) (hb : Below w0.heap.size w0 w) (hs : Mid s) (hn : i64 n) :
    Calls Try.prog 46 #[.pointer (some ⟨p, 0, none⟩), .int .i64 n] w fun e w' => e = .returned (.tuple #[]) ∧ WA w0 w p ob (wIt s (itB n)) w' := by
  have := hs.room; have := hs.size; have := hs.err
  exact (wbyte_any w0.heap.size p ob s n w h hb.size ⟨⟨by omega, by omega⟩, by omega, by omega⟩ (fits_of (by omega)) hn).mono fun e w' hp => WA.post h hb hp
theorem wword_at (w0 : World) (p : Nat) (ob : Option Nat) (s : W) (n : Int) (w : World) (h : PWr w w0.heap.size p ob s) (hb : Below w0.heap.size w0 w) (hs : Mid s) (hn : i64 n) :
    Calls Try.prog 47 #[.pointer (some ⟨p, 0, none⟩), .int .i64 n] w fun e w' => e = .returned (.tuple #[]) ∧ WA w0 w p ob (wIt s (itW n)) w' := by
  have := hs.room; have := hs.size; have := hs.err
  exact (wword_any w0.heap.size p ob s n w h hb.size ⟨⟨by omega, by omega⟩, by omega, by omega⟩ (fits_of (by omega)) hn).mono fun e w' hp => WA.post h hb hp
theorem wtext_at (w0 : World) (p : Nat) (ob : Option Nat) (s : W) (t : ByteArray) (w : World) (h : PWr w w0.heap.size p ob s) (hb : Below w0.heap.size w0 w) (hs : Mid s) (ht : t.size ≤ 1125899906842624) :
    Calls Try.prog 50 #[.pointer (some ⟨p, 0, none⟩), .string t] w fun e w' => e = .returned (.tuple #[]) ∧ WA w0 w p ob (wIt s (itT t)) w' := by
  have := hs.room; have := hs.size; have := hs.err
  exact (wtext_any w0.heap.size p ob s t w h hb.size ⟨⟨by omega, by omega⟩, by omega, by omega⟩ (fun hf => by omega) ht).mono fun e w' hp => WA.post h hb hp

set_option maxHeartbeats 400000 in
theorem wsig_at (w0 : World) (p : Nat) (ob : Option Nat) (s : W) (x : Int) (t : ByteArray) (w : World) (h : PWr w w0.heap.size p ob s) (hb : Below w0.heap.size w0 w) (hs : Mid s) (hx : i64 x) (ht : t.size ≤ 1125899906842624) :
    Calls Try.prog 113 #[.agg #[.pointer (some ⟨p, 0, none⟩)], .agg #[.int .i64 x, .string t]] w fun e w' => e = .returned (.tuple #[]) ∧ WA w0 w p ob (wIts s (itSig (x, t))) w' := by
  obtain ⟨w1, hw1⟩ : ∃ u, u = w.alloc (.cells #[.pointer (some ⟨p, 0, none⟩)] 98 (0, 0)) := ⟨_, rfl⟩
  obtain ⟨w2, hw2⟩ : ∃ u, u = w1.alloc (.cells #[.int .i64 x, .string t] 49 (0, 0)) := ⟨_, rfl⟩
  have b1 : Below w.heap.size w w1 := by rw [hw1]; exact below_alloc _ _
  have hz1 : w1.heap.size = w.heap.size + 1 := by rw [hw1]; simp
  have b2 : Below w1.heap.size w1 w2 := by rw [hw2]; exact below_alloc _ _
  have K1 := Lib.hid (show w2.heap[w.heap.size]? = some (.cells #[.pointer (some ⟨p, 0, none⟩)] 98 (0, 0)) from blk_below (by rw [hw1]; exact blk_alloc _ _) b2)
  have K2 := Lib.hid (show w2.heap[w.heap.size + 1]? = some (.cells #[.int .i64 x, .string t] 49 (0, 0)) by rw [← hz1, hw2]; exact blk_alloc _ _)
  have B2 := Lib.hid (bthen b1 b2)
  have H := Lib.hid h
  have h2 := WAt.below h B2.out
  have X2 := Lib.hid (WA.start h2 (bthen hb B2.out))
  have Z1 := Lib.hid (show w.heap.size ≤ w.heap.size + 1 by omega)
  have C1 := Lib.hid (wbyte_at w0 p ob s x w2 h2 (bthen hb B2.out) hs hx)
  have a0 : w2.cell? ⟨w.heap.size, 0, none⟩ = some (.pointer (some ⟨p, 0, none⟩)) := by rw [blk_cell K1.out]; rfl
  have a1 : w2.cell? ⟨w.heap.size + 1, 0, none⟩ = some (.int .i64 x) := by rw [blk_cell K2.out]; rfl
  clear h hb b1 b2 h2 hx hz1
  have HS := Lib.hid hs; have HT := Lib.hid ht
  clear hs ht
  go_enter Try.func113, Try.ntmps113
  go_upto_region 1 with (fail)
  rw [← hw1, ← hw2]
  clear hw1 hw2
  go_wp2_with fail
  refine C1.out.mono ?_
  rintro e w3 ⟨rfl, x3⟩
  obtain ⟨o3, h3, b3, j3⟩ := x3.call
  have k1 := x3.box H.out (Nat.le_refl _) K1.out
  have k2 := x3.box H.out Z1.out K2.out
  have C2 := Lib.hid (wtext_at w0 p o3 _ t w3 h3 b3 (HS.out.it _) HT.out)
  have J3 := Lib.hid j3
  have c0 : w3.cell? ⟨w.heap.size, 0, none⟩ = some (.pointer (some ⟨p, 0, none⟩)) := by rw [blk_cell k1]; rfl
  have c1 : w3.cell? ⟨w.heap.size + 1, 1, none⟩ = some (.string t) := by rw [blk_cell k2]; rfl
  clear x3 h3 b3 j3 k1 k2 a0 a1 C1
  go_wp2_with fail
  refine C2.out.mono ?_
  rintro e w4 ⟨rfl, x4⟩
  have X4 := Lib.hid (WA.pre B2.out (J3.out _ _ x4))
  clear x4
  go_wp2_with fail
  go_end0
  exact ⟨rfl, X4.out⟩

theorem its_flat_snoc {α : Type} {l : List α} {f : α → List Ith} {k : Nat} {y : α} (s : W) (hy : l[k]? = some y) : wIts (wIts s ((l.take k).flatMap f)) (f y) = wIts s ((l.take (k + 1)).flatMap f) := by
  rw [← wIts_app, List.take_add_one, hy, List.flatMap_append]
  simp
set_option maxHeartbeats 1000000 in
theorem wsigs_at (w0 : World) (p : Nat) (ob : Option Nat) (s : W) (a : Option Addr) (n c : Nat) (l : List Sg) (w : World) (h : PWr w w0.heap.size p ob s) (hb : Below w0.heap.size w0 w) (hs : Mid s) (hl : SlAt shSig w0 a n c l) :
    Calls Try.prog 51 #[.agg #[.pointer (some ⟨p, 0, none⟩)], .slice a n c] w fun e w' => e = .returned (.tuple #[]) ∧ WA w0 w p ob (wIts s (itSigs l)) w' := by
  obtain ⟨w1, hw1⟩ : ∃ u, u = w.alloc (.cells #[.pointer (some ⟨p, 0, none⟩)] 98 (0, 0)) := ⟨_, rfl⟩
  have b1 : Below w.heap.size w w1 := by rw [hw1]; exact below_alloc _ _
  have K1 := Lib.hid (show w1.heap[w.heap.size]? = some (.cells #[.pointer (some ⟨p, 0, none⟩)] 98 (0, 0)) by rw [hw1]; exact blk_alloc _ _)
  have hlen := hl.len; have hcap := hl.cap; have hmax := hl.max
  have HL := Lib.hid hl; have B1 := Lib.hid b1; have H := Lib.hid h
  have h1 := WAt.below h b1
  have C1 := Lib.hid (wbyte_at w0 p ob s (n : Int) w1 h1 (bthen hb b1) hs ⟨by omega, by omega⟩)
  have HE := Lib.hid (show wIts s (itSigs l) = wIts (wIt s (itB (n : Int))) (l.flatMap itSig) by rw [itSigs, hlen]; rfl)
  have HM := Lib.hid (hs.it (itB (n : Int)))
  have a0 : w1.cell? ⟨w.heap.size, 0, none⟩ = some (.pointer (some ⟨p, 0, none⟩)) := by rw [blk_cell K1.out]; rfl
  generalize wIts s (itSigs l) = SF at HE ⊢
  generalize wIt s (itB (n : Int)) = S1 at *
  clear h hb hs hl b1 h1
  go_enter Try.func51, Try.ntmps51
  go_upto_region 1 with (fail)
  rw [← hw1]
  clear hw1
  go_wp2_with fail
  refine C1.out.mono ?_
  rintro e w3 ⟨rfl, x3⟩
  have X3 := Lib.hid x3
  clear x3 a0 C1
  go_wp2_with fail
  go_loopw [13] (fun i wr => ∃ k : Nat, k ≤ n ∧ i = .int .i64 k ∧ Hid (WA w0 w1 p ob (wIts S1 ((l.take k).flatMap itSig)) wr)) (fun i _ => n - (intOf i).toNat)
  case atStart => exact ⟨0, by omega, rfl, X3⟩
  case round =>
    clear X3
    obtain ⟨k, hk, rfl, HX⟩ := hrel
    by_cases hlt : k < n
    · have hd : decide ((k : Int) < (n : Int)) = true := by simp; omega
      obtain ⟨bb, o, x, t, rfl, hy, x0, x1, hx, ht⟩ := sig_cells (HL.out.old HX.out.1) hlt
      obtain ⟨wl, hwl⟩ : ∃ u, u = wr.alloc (.cells #[.int .i64 x, .string t] 49 (0, 0)) := ⟨_, rfl⟩
      have bl : Below wr.heap.size wr wl := by rw [hwl]; exact below_alloc _ _
      have kl : wl.heap[wr.heap.size]? = some (.cells #[.int .i64 x, .string t] 49 (0, 0)) := by rw [hwl]; exact blk_alloc _ _
      have XL := Lib.hid (HX.out.below bl)
      obtain ⟨o3, h3, b3, j3⟩ := XL.out.call
      have CS := Lib.hid (wsig_at w0 p o3 _ x t wl h3 b3 (HM.out.its (l := (l.take k).flatMap itSig)) hx ht)
      have J3 := Lib.hid j3
      have HST := Lib.hid (its_flat_snoc (f := itSig) S1 hy)
      have l0 : wl.cell? ⟨w.heap.size, 0, none⟩ = some (.pointer (some ⟨p, 0, none⟩)) := by rw [blk_cell (XL.out.box H.out (Nat.le_refl _) K1.out)]; rfl
      have l1 : wl.cell? ⟨wr.heap.size, 0, none⟩ = some (.int .i64 x) := by rw [blk_cell kl]; rfl
      have l2 : wl.cell? ⟨wr.heap.size, 1, none⟩ = some (.string t) := by rw [blk_cell kl]; rfl
      clear h3 b3 j3 hy bl kl
      go_upto_region 5 with (fail)
      rw [← hwl]
      clear hwl x0 x1
      go_wp2_with fail
      refine CS.out.mono ?_
      rintro e w4 ⟨rfl, x4⟩
      have X4 := Lib.hid (show WA w0 w1 p ob (wIts S1 ((l.take (k + 1)).flatMap itSig)) w4 from by rw [← HST.out]; exact J3.out _ _ x4)
      clear x4 l0 l1 l2 CS
      go_wp2_with fail
      go_roundw
      case rel => exact ⟨k + 1, by omega, by go_num, X4⟩
      case measure => simp [intOf]; omega
    · have hd : decide ((k : Int) < (n : Int)) = false := by simp; omega
      have hT : l.take k = l := List.take_of_length_le (by omega)
      rw [hT, ← HE.out] at HX
      have XF := Lib.hid (WA.pre B1.out HX.out)
      go_wp2_with fail
      go_end0
      exact ⟨rfl, XF.out⟩

set_option maxHeartbeats 400000 in
theorem wreq_at (w0 : World) (p : Nat) (ob : Option Nat) (s : W) (r : Rq) (w : World) (h : PWr w w0.heap.size p ob s) (hb : Below w0.heap.size w0 w) (hs : Mid s) (hr : r.Ok) :
    Calls Try.prog 48 #[.agg #[.pointer (some ⟨p, 0, none⟩)], r.v] w fun e w' => e = .returned (.tuple #[]) ∧ WA w0 w p ob (wIt s (itT r.text)) w' := by
  have HT := Lib.hid r.text_size
  have CT := Lib.hid (fun w => text_rq r hr w)
  obtain ⟨w1, hw1⟩ : ∃ u, u = w.alloc (.cells #[.pointer (some ⟨p, 0, none⟩)] 98 (0, 0)) := ⟨_, rfl⟩
  have b1 : Below w.heap.size w w1 := by rw [hw1]; exact below_alloc _ _
  have k1 : w1.heap[w.heap.size]? = some (.cells #[.pointer (some ⟨p, 0, none⟩)] 98 (0, 0)) := by rw [hw1]; exact blk_alloc _ _
  generalize r.text = T at *
  generalize r.err = E at *
  obtain ⟨c, st, kind, key, b, id⟩ := r
  unfold Rq.v at *
  dsimp only at *
  clear hr
  obtain ⟨w2, hw2⟩ : ∃ u, u = w1.alloc (.cells #[.int .i64 c, .int .i64 st, .int .i64 kind, .string key, .float .f64 b, .int .i64 id] 26 (0, 0)) := ⟨_, rfl⟩
  have b2 : Below w1.heap.size w1 w2 := by rw [hw2]; exact below_alloc _ _
  have hz1 : w1.heap.size = w.heap.size + 1 := by rw [hw1]; simp
  have kq : w2.heap[w.heap.size + 1]? = some (.cells #[.int .i64 c, .int .i64 st, .int .i64 kind, .string key, .float .f64 b, .int .i64 id] 26 (0, 0)) := by rw [← hz1, hw2]; exact blk_alloc _ _
  obtain ⟨q0, q1, q2, q3, q4, q5⟩ := rqAt_blk kq
  have K1 := Lib.hid (blk_below k1 b2)
  have B2 := Lib.hid (bthen b1 b2)
  have H := Lib.hid h; have HB := Lib.hid hb; have HS := Lib.hid hs
  clear h hb hs b1 b2 k1 kq hz1
  go_enter Try.func48, Try.ntmps48
  go_upto_region 1 with (fail)
  rw [← hw1, ← hw2]
  clear hw1 hw2
  go_wp2_with fail
  refine (CT.out w2).mono ?_
  rintro e w3 ⟨rfl, b3⟩
  have B3 := Lib.hid (bthen B2.out b3)
  have k3 := blk_below K1.out b3
  have a0 : w3.cell? ⟨w.heap.size, 0, none⟩ = some (.pointer (some ⟨p, 0, none⟩)) := by rw [blk_cell k3]; rfl
  have C1 := Lib.hid (wtext_at w0 p ob s T w3 (WAt.below H.out B3.out) (bthen HB.out B3.out) HS.out (by have := HT.out; omega))
  clear q0 q1 q2 q3 q4 q5 b3 k3 B2 K1 CT
  go_wp2_with fail
  refine C1.out.mono ?_
  rintro e w4 ⟨rfl, x4⟩
  have X4 := Lib.hid (WA.pre B3.out x4)
  clear x4
  go_wp2_with fail
  go_end0
  exact ⟨rfl, X4.out⟩

set_option maxHeartbeats 2000000 in
theorem wchange_at (w0 : World) (p : Nat) (ob : Option Nat) (s : W) (y : Ch) (ca : Option Addr) (cn cc : Nat) (w : World) (h : PWr w w0.heap.size p ob s) (hb : Below w0.heap.size w0 w) (hs : Mid s)
    (hf : i64 y.fr) (hv : i64 y.v) (hc : SlAt shCert w0 ca cn cc y.ce) (hx : i64 y.sg.1) (ht : y.sg.2.size ≤ 1125899906842624) :
    Calls Try.prog 52 #[.agg #[.pointer (some ⟨p, 0, none⟩)], .agg #[.int .i64 y.fr, .int .i64 y.v, .slice ca cn cc, .int .i64 y.sg.1, .string y.sg.2]] w fun e w' => e = .returned (.tuple #[]) ∧ WA w0 w p ob (wIts s (itChange y)) w' := by
  have hlen := hc.len; have hcap := hc.cap; have hmax := hc.max
  have HE := Lib.hid (show wIts s (itChange y) = wIts (wIts (wIt (wIt (wIt s (itB y.fr)) (itB y.v)) (itB (cn : Int))) (y.ce.flatMap itCert)) (itSig y.sg) by rw [itChange, hlen, ← wIts_app]; rfl)
  obtain ⟨fr, v, ce, sx, st⟩ := y
  dsimp only at *
  obtain ⟨w1, hw1⟩ : ∃ u, u = w.alloc (.cells #[.pointer (some ⟨p, 0, none⟩)] 98 (0, 0)) := ⟨_, rfl⟩
  obtain ⟨w2, hw2⟩ : ∃ u, u = w1.alloc (.cells #[.int .i64 fr, .int .i64 v, .slice ca cn cc, .int .i64 sx, .string st] 106 (0, 0)) := ⟨_, rfl⟩
  have b1 : Below w.heap.size w w1 := by rw [hw1]; exact below_alloc _ _
  have hz1 : w1.heap.size = w.heap.size + 1 := by rw [hw1]; simp
  have b2 : Below w1.heap.size w1 w2 := by rw [hw2]; exact below_alloc _ _
  have K1 := Lib.hid (show w2.heap[w.heap.size]? = some (.cells #[.pointer (some ⟨p, 0, none⟩)] 98 (0, 0)) from blk_below (by rw [hw1]; exact blk_alloc _ _) b2)
  have K2 := Lib.hid (show w2.heap[w.heap.size + 1]? = some (.cells #[.int .i64 fr, .int .i64 v, .slice ca cn cc, .int .i64 sx, .string st] 106 (0, 0)) by rw [← hz1, hw2]; exact blk_alloc _ _)
  have B2 := Lib.hid (bthen b1 b2)
  have H := Lib.hid h
  have h2 := WAt.below h B2.out
  have Z1 := Lib.hid (show w.heap.size ≤ w.heap.size + 1 by omega)
  have C1 := Lib.hid (wbyte_at w0 p ob s fr w2 h2 (bthen hb B2.out) hs hf)
  have a0 : w2.cell? ⟨w.heap.size, 0, none⟩ = some (.pointer (some ⟨p, 0, none⟩)) := by rw [blk_cell K1.out]; rfl
  have a1 : w2.cell? ⟨w.heap.size + 1, 0, none⟩ = some (.int .i64 fr) := by rw [blk_cell K2.out]; rfl
  have HL := Lib.hid hc
  have HV := Lib.hid hv; have HSX := Lib.hid hx; have HST := Lib.hid ht
  obtain ⟨S1, hS1⟩ : ∃ S, S = wIt s (itB fr) := ⟨_, rfl⟩
  obtain ⟨S2, hS2⟩ : ∃ S, S = wIt S1 (itB v) := ⟨_, rfl⟩
  obtain ⟨S3, hS3⟩ : ∃ S, S = wIt S2 (itB (cn : Int)) := ⟨_, rfl⟩
  have M1 := Lib.hid (show Mid S1 from by rw [hS1]; exact hs.it (itB fr))
  have M2 := Lib.hid (show Mid S2 from by rw [hS2]; exact M1.out.it (itB v))
  have M3 := Lib.hid (show Mid S3 from by rw [hS3]; exact M2.out.it (itB (cn : Int)))
  rw [← hS1, ← hS2, ← hS3] at HE
  rw [← hS1] at C1
  have HS1 := Lib.hid hS1; have HS2 := Lib.hid hS2; have HS3 := Lib.hid hS3
  clear hS1 hS2 hS3
  generalize wIts s (itChange ⟨fr, v, ce, sx, st⟩) = SF at HE ⊢
  clear h hb hs hc hf hv hx ht b1 b2 h2 hz1
  go_enter Try.func52, Try.ntmps52
  go_upto_region 1 with (fail)
  rw [← hw1, ← hw2]
  clear hw1 hw2
  go_wp2_with fail
  refine C1.out.mono ?_
  rintro e w3 ⟨rfl, x3⟩
  obtain ⟨o3, h3, b3, j3⟩ := x3.call
  have J3 := Lib.hid j3
  have k1 := x3.box H.out (Nat.le_refl _) K1.out
  have k2 := x3.box H.out Z1.out K2.out
  have c0 : w3.cell? ⟨w.heap.size, 0, none⟩ = some (.pointer (some ⟨p, 0, none⟩)) := by rw [blk_cell k1]; rfl
  have c1 : w3.cell? ⟨w.heap.size + 1, 1, none⟩ = some (.int .i64 v) := by rw [blk_cell k2]; rfl
  have c := wbyte_at w0 p o3 S1 v w3 h3 b3 M1.out HV.out
  rw [← HS2.out] at c
  have C3 := Lib.hid c
  clear a0 a1 c x3 h3 b3 j3 C1 k1 k2
  go_wp2_with fail
  refine C3.out.mono ?_
  rintro e w4 ⟨rfl, x4⟩
  replace x4 := J3.out _ _ x4
  obtain ⟨o4, h4, b4, j4⟩ := x4.call
  have J4 := Lib.hid j4
  have k1 := x4.box H.out (Nat.le_refl _) K1.out
  have k2 := x4.box H.out Z1.out K2.out
  have d0 : w4.cell? ⟨w.heap.size, 0, none⟩ = some (.pointer (some ⟨p, 0, none⟩)) := by rw [blk_cell k1]; rfl
  have d2 : w4.cell? ⟨w.heap.size + 1, 2, none⟩ = some (.slice ca cn cc) := by rw [blk_cell k2]; rfl
  have c := wbyte_at w0 p o4 S2 (cn : Int) w4 h4 b4 M2.out ⟨by omega, by omega⟩
  rw [← HS3.out] at c
  have C4 := Lib.hid c
  clear c0 c1 c x4 h4 b4 j4 C3 J3 k1 k2
  go_wp2_with fail
  refine C4.out.mono ?_
  rintro e w5 ⟨rfl, x5⟩
  replace x5 := J4.out _ _ x5
  obtain ⟨o5, h5, b5, j5⟩ := x5.call
  have J5 := Lib.hid j5
  have k2 := x5.box H.out Z1.out K2.out
  have e2 : w5.cell? ⟨w.heap.size + 1, 2, none⟩ = some (.slice ca cn cc) := by rw [blk_cell k2]; rfl
  have X5 := Lib.hid x5
  clear d0 d2 x5 h5 b5 j5 C4 J4 k2 J5
  go_wp2_with fail
  go_loopw [25] (fun i wr => ∃ k : Nat, k ≤ cn ∧ i = .int .i64 k ∧ Hid (WA w0 w2 p ob (wIts S3 ((ce.take k).flatMap itCert)) wr)) (fun i _ => cn - (intOf i).toNat)
  case atStart => exact ⟨0, by omega, rfl, X5⟩
  case round =>
    clear X5 e2
    obtain ⟨k, hk, rfl, HX⟩ := hrel
    by_cases hlt : k < cn
    · have hd : decide ((k : Int) < (cn : Int)) = true := by simp; omega
      obtain ⟨bb, o, ⟨yv, ys, ⟨qc, qs, qk, qt, qb, qi⟩, sg⟩, sa, sn, sc, rfl, hy, z0, z1, z2, z3, z4, z5, z6, z7, z8, hyv, hys, hq, hsg⟩ := cert_cells HL.out hlt
      dsimp only at z0 z1 z2 z3 z4 z5 z6 z7 z8 hyv hys hsg
      have bx := HX.out.1
      replace z0 := below_cell bx z0; replace z1 := below_cell bx z1; replace z2 := below_cell bx z2; replace z3 := below_cell bx z3; replace z4 := below_cell bx z4; replace z5 := below_cell bx z5; replace z6 := below_cell bx z6; replace z7 := below_cell bx z7; replace z8 := below_cell bx z8
      have HSN := Lib.hid (its_flat_snoc (f := itCert) S3 hy)
      obtain ⟨wl, hwl⟩ : ∃ u, u = wr.alloc (.cells #[.int .i64 yv, .int .i64 ys, .int .i64 qc, .int .i64 qs, .int .i64 qk, .string qt, .float .f64 qb, .int .i64 qi, .slice sa sn sc] 118 (0, 0)) := ⟨_, rfl⟩
      have bl : Below wr.heap.size wr wl := by rw [hwl]; exact below_alloc _ _
      have KL := Lib.hid (show wl.heap[wr.heap.size]? = some (.cells #[.int .i64 yv, .int .i64 ys, .int .i64 qc, .int .i64 qs, .int .i64 qk, .string qt, .float .f64 qb, .int .i64 qi, .slice sa sn sc] 118 (0, 0)) by rw [hwl]; exact blk_alloc _ _)
      obtain ⟨or, hr0, br0, jr0⟩ := HX.out.call
      have HR := Lib.hid hr0
      have hl0 := WAt.below hr0 bl
      have bl0 := bthen br0 bl
      have JR := Lib.hid jr0
      have BL := Lib.hid bl
      have KW := Lib.hid (blk_below (HX.out.box H.out (Nat.le_refl _) K1.out) bl)
      have ZR := Lib.hid (show w.heap.size ≤ wr.heap.size from by have h1 := B2.out.size; have h2 := HX.out.2.1.size; omega)
      have N0 := Lib.hid (M3.out.its (l := (ce.take k).flatMap itCert))
      obtain ⟨T0, hT0⟩ : ∃ T, T = wIts S3 ((ce.take k).flatMap itCert) := ⟨_, rfl⟩
      rw [← hT0] at N0 HSN hl0 HR
      obtain ⟨T1, hT1⟩ : ∃ T, T = wIt T0 (itB yv) := ⟨_, rfl⟩
      obtain ⟨T2, hT2⟩ : ∃ T, T = wIt T1 (itW ys) := ⟨_, rfl⟩
      obtain ⟨T3, hT3⟩ : ∃ T, T = wIt T2 (itT (⟨qc, qs, qk, qt, qb, qi⟩ : Rq).text) := ⟨_, rfl⟩
      have HTC := Lib.hid (show wIts T0 (itCert ⟨yv, ys, ⟨qc, qs, qk, qt, qb, qi⟩, sg⟩) = wIts T3 (itSigs sg) from by rw [hT3, hT2, hT1]; rfl)
      have N1 := Lib.hid (show Mid T1 from by rw [hT1]; exact N0.out.it (itB yv))
      have N2 := Lib.hid (show Mid T2 from by rw [hT2]; exact N1.out.it (itW ys))
      have N3 := Lib.hid (show Mid T3 from by rw [hT3]; exact N2.out.it (itT (⟨qc, qs, qk, qt, qb, qi⟩ : Rq).text))
      have CQ := Lib.hid (fun o w h b => wreq_at w0 p o T2 ⟨qc, qs, qk, qt, qb, qi⟩ w h b N2.out hq)
      simp only [Rq.v] at CQ
      have HT1 := Lib.hid hT1; have HT2 := Lib.hid hT2; have HT3 := Lib.hid hT3
      clear hT1 hT2 hT3
      generalize wIts T0 (itCert ⟨yv, ys, ⟨qc, qs, qk, qt, qb, qi⟩, sg⟩) = TF at *
      generalize (⟨qc, qs, qk, qt, qb, qi⟩ : Rq).text = QT at *
      have HSG := Lib.hid hsg; have HYS := Lib.hid hys
      have c := wbyte_at w0 p or T0 yv wl hl0 bl0 N0.out hyv
      rw [← HT1.out] at c
      have C6 := Lib.hid c
      have m0 : wl.cell? ⟨w.heap.size, 0, none⟩ = some (.pointer (some ⟨p, 0, none⟩)) := by rw [blk_cell KW.out]; rfl
      have m1 : wl.cell? ⟨wr.heap.size, 0, none⟩ = some (.int .i64 yv) := by rw [blk_cell KL.out]; rfl
      clear hr0 br0 jr0 hl0 bl0 bl hy hyv hys hq hsg hT0 HX bx c
      go_upto_region 7 with (fail)
      rw [← hwl]
      clear hwl z0 z1 z2 z3 z4 z5 z6 z7 z8
      go_wp2_with fail
      refine C6.out.mono ?_
      rintro e w7 ⟨rfl, x7⟩
      obtain ⟨o7, h7, b7, j7⟩ := x7.call
      have J7 := Lib.hid j7
      have k1 := (JR.out _ _ (WA.pre BL.out x7)).box H.out (Nat.le_refl _) K1.out
      have k2 := x7.box HR.out (Nat.le_refl _) KL.out
      have n0 : w7.cell? ⟨w.heap.size, 0, none⟩ = some (.pointer (some ⟨p, 0, none⟩)) := by rw [blk_cell k1]; rfl
      have n1 : w7.cell? ⟨wr.heap.size, 1, none⟩ = some (.int .i64 ys) := by rw [blk_cell k2]; rfl
      have c := wword_at w0 p o7 T1 ys w7 h7 b7 N1.out HYS.out
      rw [← HT2.out] at c
      have C7 := Lib.hid c
      clear m0 m1 c x7 h7 b7 j7 C6 k1 k2
      go_wp2_with fail
      refine C7.out.mono ?_
      rintro e w8 ⟨rfl, x8⟩
      replace x8 := J7.out _ _ x8
      obtain ⟨o8, h8, b8, j8⟩ := x8.call
      have J8 := Lib.hid j8
      have k1 := (JR.out _ _ (WA.pre BL.out x8)).box H.out (Nat.le_refl _) K1.out
      have k2 := x8.box HR.out (Nat.le_refl _) KL.out
      have p0 : w8.cell? ⟨w.heap.size, 0, none⟩ = some (.pointer (some ⟨p, 0, none⟩)) := by rw [blk_cell k1]; rfl
      have p1 : w8.cell? ⟨wr.heap.size, 2, none⟩ = some (.int .i64 qc) := by rw [blk_cell k2]; rfl
      have p2 : w8.cell? ⟨wr.heap.size, 3, none⟩ = some (.int .i64 qs) := by rw [blk_cell k2]; rfl
      have p3 : w8.cell? ⟨wr.heap.size, 4, none⟩ = some (.int .i64 qk) := by rw [blk_cell k2]; rfl
      have p4 : w8.cell? ⟨wr.heap.size, 5, none⟩ = some (.string qt) := by rw [blk_cell k2]; rfl
      have p5 : w8.cell? ⟨wr.heap.size, 6, none⟩ = some (.float .f64 qb) := by rw [blk_cell k2]; rfl
      have p6 : w8.cell? ⟨wr.heap.size, 7, none⟩ = some (.int .i64 qi) := by rw [blk_cell k2]; rfl
      have c := CQ.out o8 w8 h8 b8
      rw [← HT3.out] at c
      have C8 := Lib.hid c
      clear n0 n1 c x8 h8 b8 j8 C7 k1 k2 J7
      go_wp2_with fail
      refine C8.out.mono ?_
      rintro e w9 ⟨rfl, x9⟩
      replace x9 := J8.out _ _ x9
      obtain ⟨o9, h9, b9, j9⟩ := x9.call
      have J9 := Lib.hid j9
      have k1 := (JR.out _ _ (WA.pre BL.out x9)).box H.out (Nat.le_refl _) K1.out
      have k2 := x9.box HR.out (Nat.le_refl _) KL.out
      have q0 : w9.cell? ⟨w.heap.size, 0, none⟩ = some (.pointer (some ⟨p, 0, none⟩)) := by rw [blk_cell k1]; rfl
      have q1 : w9.cell? ⟨wr.heap.size, 8, none⟩ = some (.slice sa sn sc) := by rw [blk_cell k2]; rfl
      have c := wsigs_at w0 p o9 T3 sa sn sc sg w9 h9 b9 N3.out HSG.out
      rw [← HTC.out] at c
      have C9 := Lib.hid c
      clear p0 p1 p2 p3 p4 p5 p6 CQ c x9 h9 b9 j9 C8 k1 k2 J8
      go_wp2_with fail
      refine C9.out.mono ?_
      rintro e w10 ⟨rfl, x10⟩
      replace x10 := J9.out _ _ x10
      rw [HSN.out] at x10
      have X10 := Lib.hid (JR.out _ _ (WA.pre BL.out x10))
      clear x10 q0 q1 C9 J9 JR
      go_wp2_with fail
      go_roundw
      case rel => exact ⟨k + 1, by omega, by go_num, X10⟩
      case measure => simp [intOf]; omega
    · have hd : decide ((k : Int) < (cn : Int)) = false := by simp; omega
      have hT : ce.take k = ce := List.take_of_length_le (by omega)
      rw [hT] at HX
      obtain ⟨oz, hz, bz, jz⟩ := HX.out.call
      have JZ := Lib.hid jz
      have k1 := HX.out.box H.out (Nat.le_refl _) K1.out
      have k2 := HX.out.box H.out Z1.out K2.out
      have s0 : wr.cell? ⟨w.heap.size, 0, none⟩ = some (.pointer (some ⟨p, 0, none⟩)) := by rw [blk_cell k1]; rfl
      have s1 : wr.cell? ⟨w.heap.size + 1, 3, none⟩ = some (.int .i64 sx) := by rw [blk_cell k2]; rfl
      have s2 : wr.cell? ⟨w.heap.size + 1, 4, none⟩ = some (.string st) := by rw [blk_cell k2]; rfl
      have CZ := Lib.hid (wsig_at w0 p oz _ sx st wr hz bz (M3.out.its (l := ce.flatMap itCert)) HSX.out HST.out)
      clear hT HX hz bz jz k1 k2
      go_wp2_with fail
      refine CZ.out.mono ?_
      rintro e wz ⟨rfl, xz⟩
      replace xz := WA.pre B2.out (JZ.out _ _ xz)
      rw [← HE.out] at xz
      have XZ := Lib.hid xz
      clear xz s0 s1 s2 CZ JZ
      go_wp2_with fail
      go_end0
      exact ⟨rfl, XZ.out⟩
end Go.Proofs.Ytijeieamodjgbaa
