
/- Wire: the reference's writer at work: put, ask, Bytes. (printed by mkRb.py) -/
import Derived.Test.YtijeieamodjgbaaWtd
import Derived.Test.YtijeieamodjgbaaWw
import Derived.Test.YtijeieamodjgbaaIt
import Derived.Test.YtijeieamodjgbaaTxP
namespace Go.Proofs.Ytijeieamodjgbaa
set_option maxRecDepth 100000
open Go.RowKit Go.Deep
set_option linter.unusedVariables false
set_option linter.unusedSimpArgs false
attribute [local go_sem] run_store_float

/-- A writer at work since the world w1: what it changed are its own blocks. -/
def RA (w0 w1 : World) (p : Nat) (ob : Option Nat) (s : W) (wk : World) : Prop :=
  Below w0.heap.size w0 wk ∧ Only p ob w1 wk ∧ ∃ obk, (obk = ob ∨ ∃ k, obk = some k ∧ w1.heap.size ≤ k) ∧ RWr wk w0.heap.size p obk s
theorem RA.start {w0 w : World} {p : Nat} {ob : Option Nat} {s : W} (h : RWr w w0.heap.size p ob s) (hb : Below w0.heap.size w0 w) : RA w0 w p ob s w := ⟨hb, Only.refl _ _ _, ob, .inl rfl, h⟩
theorem RA.post {w0 w w' : World} {p : Nat} {ob : Option Nat} {s s' : W} {e : Ending} (h : RWr w w0.heap.size p ob s) (hb : Below w0.heap.size w0 w) (hp : RWPost w w0.heap.size p ob s' e w') : e = .returned (.tuple #[]) ∧ RA w0 w p ob s' w' := by
  obtain ⟨rfl, ob', h1, h2, h3⟩ := hp
  exact ⟨rfl, h3.below hb h.1 (fun k hk => (WAt.ob_lt h k hk).1), h3, ob', h1, h2⟩
theorem RA.call {w0 w1 wk : World} {p : Nat} {ob : Option Nat} {s : W} (X : RA w0 w1 p ob s wk) : ∃ obk, RWr wk w0.heap.size p obk s ∧ Below w0.heap.size w0 wk ∧ ∀ s' w', RA w0 wk p obk s' w' → RA w0 w1 p ob s' w' := by
  obtain ⟨hb, ho, obk, hor, hp⟩ := X
  refine ⟨obk, hp, hb, fun s' w' ⟨hb', ho', ob', hor', hp'⟩ => ⟨hb', ho.trans ho' hor, ob', ?_, hp'⟩⟩
  have hsz := ho.size
  rcases hor' with rfl | ⟨k, rfl, hk⟩
  · exact hor
  · exact .inr ⟨k, rfl, by omega⟩
theorem RA.pre {w0 w w1 wk : World} {p : Nat} {ob : Option Nat} {s : W} (hb : Below w.heap.size w w1) (X : RA w0 w1 p ob s wk) : RA w0 w p ob s wk := by
  obtain ⟨hb', ho, obk, hor, hp⟩ := X
  refine ⟨hb', (Only.of_below hb).trans ho (.inl rfl), obk, ?_, hp⟩
  have := hb.size
  rcases hor with rfl | ⟨k, rfl, hk⟩
  · exact .inl rfl
  · exact .inr ⟨k, rfl, by omega⟩
theorem RA.alloc {w0 w1 wk : World} {p : Nat} {ob : Option Nat} {s : W} (X : RA w0 w1 p ob s wk) (o : Obj) : RA w0 w1 p ob s (wk.alloc o) := by
  obtain ⟨hb', ho, obk, hor, hp⟩ := X
  exact ⟨balloc hb' o, ho.alloc o, obk, hor, WAt.below hp (below_alloc _ _)⟩
theorem RA.below {w0 w1 wk w' : World} {p : Nat} {ob : Option Nat} {s : W} (X : RA w0 w1 p ob s wk) (hb : Below wk.heap.size wk w') : RA w0 w1 p ob s w' := by
  obtain ⟨hb', ho, obk, hor, hp⟩ := X
  exact ⟨bthen hb' hb, ho.trans (Only.of_below (ob := ob) hb) (.inl rfl), obk, hor, WAt.below hp hb⟩
/-- What was new to the writer stays. -/
theorem RA.box {w0 w w1 wk : World} {p : Nat} {ob : Option Nat} {s s0 : W} {h : Nat} {c : Obj} (X : RA w0 w1 p ob s wk) (H : RWr w w0.heap.size p ob s0) (hh : w.heap.size ≤ h) (hk : w1.heap[h]? = some c) : wk.heap[h]? = some c := by
  have hp := WAt.lt H
  have hl : h < w1.heap.size := by
    rcases Nat.lt_or_ge h w1.heap.size with h1 | h1
    · exact h1
    · rw [Array.getElem?_eq_none (by omega)] at hk; cases hk
  rw [X.2.1.block h hl (by omega) (fun hc => by have := (WAt.ob_lt H h hc).2; omega)]
  exact hk
theorem Mid.it_r {s : W} (h : Mid s) (i : Ith) : Mid (wIt s i) := h.put i.1 i.2
theorem rnum1_at (w0 : World) (p : Nat) (ob : Option Nat) (s : W) (n : Int) (w : World) (h : RWr w w0.heap.size p ob s) (hb : Below w0.heap.size w0 w) (hs : Mid s) (hn : i64 n) :
    Calls Try.prog 56 #[.pointer (some ⟨p, 0, none⟩), .int .i64 n, .int .i64 1] w fun e w' => e = .returned (.tuple #[]) ∧ RA w0 w p ob (wIt s (itB n)) w' := by
  have := hs.room; have := hs.size; have := hs.err
  have he : wIt s (itB n) = wPut s (decide (0 ≤ n ∧ n < ((256 ^ 1 : Nat) : Int))) (beN n.toNat 1) := by
    show wPut s (decide (0 ≤ n ∧ n ≤ 255)) (beN n.toNat 1) = _
    rw [show decide (0 ≤ n ∧ n ≤ 255) = decide (0 ≤ n ∧ n < ((256 ^ 1 : Nat) : Int)) from decide_eq_decide.2 (by constructor <;> (rintro ⟨h1, h2⟩; refine ⟨h1, ?_⟩; simp at *; omega))]
  rw [he]
  exact (rnum_any w0.heap.size p ob s n 1 w h hb.size (by decide) hn ⟨by omega, by omega⟩ (by omega)).mono fun e w' hp => RA.post h hb hp
theorem rnum2_at (w0 : World) (p : Nat) (ob : Option Nat) (s : W) (n : Int) (w : World) (h : RWr w w0.heap.size p ob s) (hb : Below w0.heap.size w0 w) (hs : Mid s) (hn : i64 n) :
    Calls Try.prog 56 #[.pointer (some ⟨p, 0, none⟩), .int .i64 n, .int .i64 2] w fun e w' => e = .returned (.tuple #[]) ∧ RA w0 w p ob (wIt s (itW n)) w' := by
  have := hs.room; have := hs.size; have := hs.err
  have he : wIt s (itW n) = wPut s (decide (0 ≤ n ∧ n < ((256 ^ 2 : Nat) : Int))) (beN n.toNat 2) := by
    show wPut s (decide (0 ≤ n ∧ n ≤ 65535)) (beN n.toNat 2) = _
    rw [show decide (0 ≤ n ∧ n ≤ 65535) = decide (0 ≤ n ∧ n < ((256 ^ 2 : Nat) : Int)) from decide_eq_decide.2 (by constructor <;> (rintro ⟨h1, h2⟩; refine ⟨h1, ?_⟩; simp at *; omega))]
  rw [he]
  exact (rnum_any w0.heap.size p ob s n 2 w h hb.size (by decide) hn ⟨by omega, by omega⟩ (by omega)).mono fun e w' hp => RA.post h hb hp
set_option maxHeartbeats 1000000 in
theorem rwtext_at (w0 : World) (p : Nat) (ob : Option Nat) (s : W) (t : ByteArray) (w : World) (h : RWr w w0.heap.size p ob s) (hb : Below w0.heap.size w0 w) (hs : Mid s) (ht : t.size ≤ 1125899906842624) :
    Calls Try.prog 59 #[.pointer (some ⟨p, 0, none⟩), .string t] w fun e w' => e = .returned (.tuple #[]) ∧ RA w0 w p ob (wIt s (itT t)) w' := by
  have := hs.room; have := hs.size; have := hs.err
  by_cases hhi : 65535 < t.size
  · have hput := Lib.hid (show wIt s (itT t) = wPut s false [] by
      show wPut s (decide (t.size ≤ 65535)) (beN t.size 2 ++ t.data.toList) = _
      rw [show decide (t.size ≤ 65535) = false by simp; omega]
      by_cases he : s.err = 0
      · rw [wPut_bad he, wPut_bad he]
      · rw [wPut_err he, wPut_err he])
    have H := Lib.hid h; have HB := Lib.hid hb
    have CP := Lib.hid (rput_any w0.heap.size p ob s none 0 0 [] false w h ⟨rfl, fun _ => ⟨rfl, rfl⟩, fun ad had => (by cases had)⟩ hb.size ⟨by omega, by omega⟩ (by simp; omega))
    generalize wIt s (itT t) = SF at *
    clear h hb hs
    go_enter Try.func59, Try.ntmps59
    go_wp2_with fail
    refine CP.out.mono ?_
    rintro e w' hp
    obtain ⟨he, hp2⟩ := RA.post H.out HB.out hp
    have Hp := Lib.hid hp2
    subst he
    clear hp hp2
    go_wp2_with fail
    refine bodyPost_ret (results_none rfl _ _ _) rfl ?_
    rw [hput.out]
    exact ⟨rfl, Hp.out⟩
  · exact (rwtext_any w0.heap.size p ob s t w h hb.size (by omega) ⟨by omega, by omega⟩ (by omega)).mono fun e w' hp => RA.post h hb hp
set_option maxHeartbeats 1000000 in
theorem rput13_at (w0 : World) (p : Nat) (ob : Option Nat) (s : W) (a : Option Addr) (n c : Nat) (l : List Sg) (w : World) (h : RWr w w0.heap.size p ob s) (hb : Below w0.heap.size w0 w) (hs : Mid s) (hl : SlAt shSig w0 a n c l) :
    Calls Try.prog 60 #[.pointer (some ⟨p, 0, none⟩), .slice a n c] w fun e w' => e = .returned (.tuple #[]) ∧ RA w0 w p ob (wIts s (itSigs l)) w' := by
  have hlen := hl.len; have hcap := hl.cap; have hmax := hl.max
  have HL := Lib.hid hl; have H := Lib.hid h
  have C1 := Lib.hid (rnum1_at w0 p ob s (n : Int) w h hb hs ⟨by omega, by omega⟩)
  have HE := Lib.hid (show wIts s (itSigs l) = wIts (wIt s (itB (n : Int))) (l.flatMap itSig) by rw [itSigs, hlen]; rfl)
  have HM := Lib.hid (hs.it (itB (n : Int)))
  generalize wIts s (itSigs l) = SF at HE ⊢
  generalize wIt s (itB (n : Int)) = S1 at *
  clear h hb hs hl
  go_enter Try.func60, Try.ntmps60
  go_wp2_with fail
  refine C1.out.mono ?_
  rintro e w3 ⟨rfl, x3⟩
  have X3 := Lib.hid x3
  clear x3 C1
  go_wp2_with fail
  go_loopw [4] (fun i wr => ∃ k : Nat, k ≤ n ∧ i = .int .i64 k ∧ Hid (RA w0 w p ob (wIts S1 ((l.take k).flatMap itSig)) wr)) (fun i _ => n - (intOf i).toNat)
  case atStart => exact ⟨0, by omega, rfl, X3⟩
  case round =>
    clear X3
    obtain ⟨k, hk, rfl, HX⟩ := hrel
    by_cases hlt : k < n
    · have hd : decide ((k : Int) < (n : Int)) = true := by simp; omega
      have hj0 : (0 : Int) ≤ (k : Int) := by omega
      have hj1 : (k : Int) < (n : Int) := by omega
      obtain ⟨bb, o, x, t, rfl, hy, x0, x1, hx, ht⟩ := sig_cells (HL.out.old HX.out.1) hlt
      obtain ⟨o3, h3, b3, j3⟩ := HX.out.call
      have N3 := Lib.hid (HM.out.its (l := (l.take k).flatMap itSig))
      have CS := Lib.hid (rnum1_at w0 p o3 _ x wr h3 b3 N3.out hx)
      have J3 := Lib.hid j3
      have HST := Lib.hid (its_flat_snoc (f := itSig) S1 hy)
      obtain ⟨T0, hT0⟩ : ∃ T, T = wIts S1 ((l.take k).flatMap itSig) := ⟨_, rfl⟩
      have SL := Lib.hid (fun (u : World) (hu : Below w0.heap.size w0 u) => sig_cells (HL.out.old hu) hlt)
      have HY := Lib.hid hy
      rw [← hT0] at N3 HST CS
      have lb := World.block_lt x0
      clear h3 b3 j3 hy hT0
      go_wp2_with fail
      refine CS.out.mono ?_
      rintro e w4 ⟨rfl, x4⟩
      replace x4 := J3.out _ _ x4
      obtain ⟨bb', o', x', t', ha', hy', y0, y1, _, _⟩ := SL.out w4 x4.1
      injection ha' with ha'
      injection ha' with g1 g2 _
      subst g1 g2
      rw [HY.out] at hy'
      injection hy' with hy'
      injection hy' with g3 g4
      subst g3 g4
      obtain ⟨o5, h5, b5, j5⟩ := x4.call
      have J5 := Lib.hid j5
      have CT := Lib.hid (rwtext_at w0 p o5 _ t w4 h5 b5 (N3.out.it (itB x)) ht)
      have HT2 := Lib.hid (show wIts T0 (itSig (x, t)) = wIt (wIt T0 (itB x)) (itT t) from rfl)
      generalize wIt (wIt T0 (itB x)) (itT t) = T2 at *
      clear x4 h5 b5 j5 CS J3 SL HY x0 x1 HX
      go_wp2_with fail
      refine CT.out.mono ?_
      rintro e w5 ⟨rfl, x5⟩
      have X5 := Lib.hid (show RA w0 w p ob (wIts S1 ((l.take (k + 1)).flatMap itSig)) w5 from by rw [← HST.out, HT2.out]; exact J5.out _ _ x5)
      clear x5 CT J5 y0 y1
      go_wp2_with fail
      go_roundw
      case rel => exact ⟨k + 1, by omega, by go_num, X5⟩
      case measure => simp [intOf]; omega
    · have hd : decide ((k : Int) < (n : Int)) = false := by simp; omega
      have hT : l.take k = l := List.take_of_length_le (by omega)
      rw [hT, ← HE.out] at HX
      go_wp2_with fail
      go_end0
      exact ⟨rfl, HX.out⟩
set_option maxHeartbeats 1000000 in
theorem rask13_at (w0 : World) (p : Nat) (ob : Option Nat) (s : W) (r : Rq) (w : World) (h : RWr w w0.heap.size p ob s) (hb : Below w0.heap.size w0 w) (hs : Mid s) (hr : r.Ok) :
    Calls Try.prog 57 #[.pointer (some ⟨p, 0, none⟩), r.v] w fun e w' => e = .returned (.tuple #[]) ∧ RA w0 w p ob (wIt s (itT r.text)) w' := by
  have HT := Lib.hid r.text_size
  have CT := Lib.hid (show ∀ u, Calls Try.prog 116 #[r.v] u fun e w' => e = .returned (.tuple #[.string r.text, .int .i64 r.err]) ∧ Below u.heap.size u w' from fun u => qrtext_any r.c r.s r.kind r.key r.b r.id u hr.c hr.s hr.kind hr.id hr.b hr.key)
  generalize r.text = T at *
  generalize r.err = E at *
  obtain ⟨c, st, kind, key, b, id⟩ := r
  unfold Rq.v at *
  dsimp only at *
  clear hr
  obtain ⟨w2, hw2⟩ : ∃ u, u = w.alloc (.cells #[.int .i64 c, .int .i64 st, .int .i64 kind, .string key, .float .f64 b, .int .i64 id] 26 (0, 0)) := ⟨_, rfl⟩
  have b2 : Below w.heap.size w w2 := by rw [hw2]; exact below_alloc _ _
  have kq : w2.heap[w.heap.size]? = some (.cells #[.int .i64 c, .int .i64 st, .int .i64 kind, .string key, .float .f64 b, .int .i64 id] 26 (0, 0)) := by rw [hw2]; exact blk_alloc _ _
  obtain ⟨q0, q1, q2, q3, q4, q5⟩ := rqAt_blk kq
  have B2 := Lib.hid b2
  have H := Lib.hid h; have HB := Lib.hid hb; have HS := Lib.hid hs
  clear h hb hs b2 kq
  go_enter Try.func57, Try.ntmps57
  go_upto_region 1 with (fail)
  rw [← hw2]
  clear hw2
  go_wp2_with fail
  refine (CT.out w2).mono ?_
  rintro e w3 ⟨rfl, b3⟩
  have B3 := bthen B2.out b3
  have C3 := Lib.hid (rwtext_at w0 p ob s T w3 (WAt.below H.out B3) (bthen HB.out B3) HS.out (by have := HT.out; omega))
  have HB3 := Lib.hid B3
  clear q0 q1 q2 q3 q4 q5 b3 B3
  go_wp2_with fail
  refine C3.out.mono ?_
  rintro e w4 ⟨rfl, x4⟩
  have X4 := Lib.hid (RA.pre HB3.out x4)
  clear x4
  go_wp2_with fail
  go_end0
  exact ⟨rfl, X4.out⟩
end Go.Proofs.Ytijeieamodjgbaa
