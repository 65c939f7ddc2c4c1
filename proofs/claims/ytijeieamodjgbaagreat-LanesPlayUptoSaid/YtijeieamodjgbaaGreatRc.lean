
/- Wire: walk of the reference's Bytes. (printed by mkRc.py) -/
import Derived.Test.YtijeieamodjgbaaGreatWta
import Derived.Test.YtijeieamodjgbaaGreatWw
import Derived.Test.YtijeieamodjgbaaGreatIt
import Derived.Test.YtijeieamodjgbaaGreatTxP
import Derived.Test.YtijeieamodjgbaaGreatWfp
namespace Go.Proofs.YtijeieamodjgbaaGreat
set_option maxRecDepth 100000
open Go.RowKit Go.Deep
set_option linter.unusedVariables false
set_option linter.unusedSimpArgs false
attribute [local go_sem] run_store_float
def RA (w0 w1 : World) (p : Nat) (ob : Option Nat) (s : W) (wk : World) : Prop :=
  Below w0.heap.size w0 wk ∧ Only p ob w1 wk ∧ ∃ obk, (obk = ob ∨ ∃ k, obk = some k ∧ w1.heap.size ≤ k) ∧ RWr wk w0.heap.size p obk s
theorem RA.start {w0 w : World} {p : Nat} {ob : Option Nat} {s : W} (h : RWr w w0.heap.size p ob s) (hb : Below w0.heap.size w0 w) : RA w0 w p ob s w := ⟨hb, Only.refl _ _ _, ob, .inl rfl, h⟩
theorem RA.post {w0 w w' : World} {p : Nat} {ob : Option Nat} {s s' : W} {e : Ending} (h : RWr w w0.heap.size p ob s) (hb : Below w0.heap.size w0 w) (hp : RWPost w w0.heap.size p ob s' e w') : e = .returned (.tuple #[]) ∧ RA w0 w p ob s' w' := by
  obtain ⟨rfl, ob', h1, h2, h3⟩ := hp
  exact ⟨rfl, h3.below hb h.1 (fun k hk => (WAt.ob_lt h k hk).1), h3, ob', h1, h2⟩
theorem RA.call {w0 w1 wk : World} {p : Nat} {ob : Option Nat} {s : W} (X : RA w0 w1 p ob s wk) : ∃ obk, RWr wk w0.heap.size p obk s ∧ Below w0.heap.size w0 wk ∧ ∀ s' w', RA w0 wk p obk s' w' → RA w0 w1 p ob s' w' := by
  obtain ⟨hb, ho, obk, hor, hp⟩ := X
  refine ⟨obk, hp, hb, fun s' w' ⟨hb', ho', ob', hor', hp'⟩ => ⟨hb', ho.trans ho' hor, ob', ?_, hp'⟩⟩
  have hsz := ho.size
  rcases hor' with rfl | ⟨k, rfl, hk⟩
  · exact hor
  · exact .inr ⟨k, rfl, by omega⟩
theorem RA.pre {w0 w w1 wk : World} {p : Nat} {ob : Option Nat} {s : W} (hb : Below w.heap.size w w1) (X : RA w0 w1 p ob s wk) : RA w0 w p ob s wk := by
  obtain ⟨hb', ho, obk, hor, hp⟩ := X
  refine ⟨hb', (Only.of_below hb).trans ho (.inl rfl), obk, ?_, hp⟩
  have := hb.size
  rcases hor with rfl | ⟨k, rfl, hk⟩
  · exact .inl rfl
  · exact .inr ⟨k, rfl, by omega⟩
theorem RA.alloc {w0 w1 wk : World} {p : Nat} {ob : Option Nat} {s : W} (X : RA w0 w1 p ob s wk) (o : Obj) : RA w0 w1 p ob s (wk.alloc o) := by
  obtain ⟨hb', ho, obk, hor, hp⟩ := X
  exact ⟨balloc hb' o, ho.alloc o, obk, hor, WAt.below hp (below_alloc _ _)⟩
theorem RA.below {w0 w1 wk w' : World} {p : Nat} {ob : Option Nat} {s : W} (X : RA w0 w1 p ob s wk) (hb : Below wk.heap.size wk w') : RA w0 w1 p ob s w' := by
  obtain ⟨hb', ho, obk, hor, hp⟩ := X
  exact ⟨bthen hb' hb, ho.trans (Only.of_below (ob := ob) hb) (.inl rfl), obk, hor, WAt.below hp hb⟩
theorem RA.box {w0 w w1 wk : World} {p : Nat} {ob : Option Nat} {s s0 : W} {h : Nat} {c : Obj} (X : RA w0 w1 p ob s wk) (H : RWr w w0.heap.size p ob s0) (hh : w.heap.size ≤ h) (hk : w1.heap[h]? = some c) : wk.heap[h]? = some c := by
  have hp := WAt.lt H
  have hl : h < w1.heap.size := by
    rcases Nat.lt_or_ge h w1.heap.size with h1 | h1
    · exact h1
    · rw [Array.getElem?_eq_none (by omega)] at hk; cases hk
  rw [X.2.1.block h hl (by omega) (fun hc => by have := (WAt.ob_lt H h hc).2; omega)]
  exact hk
theorem rnum1_at (w0 : World) (p : Nat) (ob : Option Nat) (s : W) (n : Int) (w : World) (h : RWr w w0.heap.size p ob s) (hb : Below w0.heap.size w0 w) (hs : Mid s) (hn : i64 n) :
    Calls Tryz.prog 102 #[.pointer (some ⟨p, 0, none⟩), .int .i64 n, .int .i64 1] w fun e w' => e = .returned (.tuple #[]) ∧ RA w0 w p ob (wIt s (itB n)) w' := by
  have := hs.room; have := hs.size; have := hs.err
  have he : wIt s (itB n) = wPut s (decide (0 ≤ n ∧ n < ((256 ^ 1 : Nat) : Int))) (beN n.toNat 1) := by
    show wPut s (decide (0 ≤ n ∧ n ≤ 255)) (beN n.toNat 1) = _
    rw [show decide (0 ≤ n ∧ n ≤ 255) = decide (0 ≤ n ∧ n < ((256 ^ 1 : Nat) : Int)) from decide_eq_decide.2 (by constructor <;> (rintro ⟨h1, h2⟩; refine ⟨h1, ?_⟩; simp at *; omega))]
  rw [he]
  exact (rnum_any w0.heap.size p ob s n 1 w h hb.size (by decide) hn ⟨by omega, by omega⟩ (by omega)).mono fun e w' hp => RA.post h hb hp
theorem rnum2_at (w0 : World) (p : Nat) (ob : Option Nat) (s : W) (n : Int) (w : World) (h : RWr w w0.heap.size p ob s) (hb : Below w0.heap.size w0 w) (hs : Mid s) (hn : i64 n) :
    Calls Tryz.prog 102 #[.pointer (some ⟨p, 0, none⟩), .int .i64 n, .int .i64 2] w fun e w' => e = .returned (.tuple #[]) ∧ RA w0 w p ob (wIt s (itW n)) w' := by
  have := hs.room; have := hs.size; have := hs.err
  have he : wIt s (itW n) = wPut s (decide (0 ≤ n ∧ n < ((256 ^ 2 : Nat) : Int))) (beN n.toNat 2) := by
    show wPut s (decide (0 ≤ n ∧ n ≤ 65535)) (beN n.toNat 2) = _
    rw [show decide (0 ≤ n ∧ n ≤ 65535) = decide (0 ≤ n ∧ n < ((256 ^ 2 : Nat) : Int)) from decide_eq_decide.2 (by constructor <;> (rintro ⟨h1, h2⟩; refine ⟨h1, ?_⟩; simp at *; omega))]
  rw [he]
  exact (rnum_any w0.heap.size p ob s n 2 w h hb.size (by decide) hn ⟨by omega, by omega⟩ (by omega)).mono fun e w' hp => RA.post h hb hp
set_option maxHeartbeats 1000000 in
theorem rwtext_at (w0 : World) (p : Nat) (ob : Option Nat) (s : W) (t : ByteArray) (w : World) (h : RWr w w0.heap.size p ob s) (hb : Below w0.heap.size w0 w) (hs : Mid s) (ht : t.size ≤ 1125899906842624) :
    Calls Tryz.prog 104 #[.pointer (some ⟨p, 0, none⟩), .string t] w fun e w' => e = .returned (.tuple #[]) ∧ RA w0 w p ob (wIt s (itT t)) w' := by
  have := hs.room; have := hs.size; have := hs.err
  by_cases hhi : 65535 < t.size
  · have hput := Lib.hid (show wIt s (itT t) = wPut s false [] by
      show wPut s (decide (t.size ≤ 65535)) (beN t.size 2 ++ t.data.toList) = _
      rw [show decide (t.size ≤ 65535) = false by simp; omega]
      by_cases he : s.err = 0
      · rw [wPut_bad he, wPut_bad he]
      · rw [wPut_err he, wPut_err he])
    have H := Lib.hid h; have HB := Lib.hid hb; have CP := Lib.hid (rput_any w0.heap.size p ob s none 0 0 [] false w h ⟨rfl, fun _ => ⟨rfl, rfl⟩, fun ad had => (by cases had)⟩ hb.size ⟨by omega, by omega⟩ (by simp; omega))
    generalize wIt s (itT t) = SF at *
    clear h hb hs
    go_enter Tryz.func104, Tryz.ntmps104
    go_wp2_with fail
    refine CP.out.mono ?_
    rintro e w' hp
    obtain ⟨he, hp2⟩ := RA.post H.out HB.out hp; have Hp := Lib.hid hp2; subst he; clear hp hp2
    go_wp2_with fail
    refine bodyPost_ret (results_none rfl _ _ _) rfl ?_
    rw [hput.out]
    exact ⟨rfl, Hp.out⟩
  · exact (rwtext_any w0.heap.size p ob s t w h hb.size (by omega) ⟨by omega, by omega⟩ (by omega)).mono fun e w' hp => RA.post h hb hp
set_option maxHeartbeats 1000000 in
theorem rput13_at (w0 : World) (p : Nat) (ob : Option Nat) (s : W) (a : Option Addr) (n c : Nat) (l : List Sg) (w : World) (h : RWr w w0.heap.size p ob s) (hb : Below w0.heap.size w0 w) (hs : Mid s) (hl : SlAt shSig w0 a n c l) :
    Calls Tryz.prog 105 #[.pointer (some ⟨p, 0, none⟩), .slice a n c] w fun e w' => e = .returned (.tuple #[]) ∧ RA w0 w p ob (wIts s (itSigs l)) w' := by
  have hlen := hl.len; have hcap := hl.cap; have hmax := hl.max; have HL := Lib.hid hl; have H := Lib.hid h; have C1 := Lib.hid (rnum1_at w0 p ob s (n : Int) w h hb hs ⟨by omega, by omega⟩); have HE := Lib.hid (show wIts s (itSigs l) = wIts (wIt s (itB (n : Int))) (l.flatMap itSig) by rw [itSigs, hlen]; rfl); have HM := Lib.hid (hs.it (itB (n : Int)))
  generalize wIts s (itSigs l) = SF at HE ⊢
  generalize wIt s (itB (n : Int)) = S1 at *
  clear h hb hs hl
  go_enter Tryz.func105, Tryz.ntmps105
  go_wp2_with fail
  refine C1.out.mono ?_
  rintro e w3 ⟨rfl, x3⟩
  have X3 := Lib.hid x3; clear x3 C1
  go_wp2_with fail
  go_loopw [4] (fun i wr => ∃ k : Nat, k ≤ n ∧ i = .int .i64 k ∧ Hid (RA w0 w p ob (wIts S1 ((l.take k).flatMap itSig)) wr)) (fun i _ => n - (intOf i).toNat)
  case atStart => exact ⟨0, by omega, rfl, X3⟩
  case round =>
    clear X3; obtain ⟨k, hk, rfl, HX⟩ := hrel
    by_cases hlt : k < n
    · have hd : decide ((k : Int) < (n : Int)) = true := by simp; omega
      have hj0 : (0 : Int) ≤ (k : Int) := by omega
      have hj1 : (k : Int) < (n : Int) := by omega
      obtain ⟨bb, o, x, t, rfl, hy, x0, x1, hx, ht⟩ := sig_cells (HL.out.old HX.out.1) hlt; obtain ⟨o3, h3, b3, j3⟩ := HX.out.call; have N3 := Lib.hid (HM.out.its (l := (l.take k).flatMap itSig)); have CS := Lib.hid (rnum1_at w0 p o3 _ x wr h3 b3 N3.out hx); have J3 := Lib.hid j3; have HST := Lib.hid (its_flat_snoc (f := itSig) S1 hy)
      obtain ⟨T0, hT0⟩ : ∃ T, T = wIts S1 ((l.take k).flatMap itSig) := ⟨_, rfl⟩
      have SL := Lib.hid (fun (u : World) (hu : Below w0.heap.size w0 u) => sig_cells (HL.out.old hu) hlt); have HY := Lib.hid hy
      rw [← hT0] at N3 HST CS
      have lb := World.block_lt x0; clear h3 b3 j3 hy hT0
      go_wp2_with fail
      refine CS.out.mono ?_
      rintro e w4 ⟨rfl, x4⟩
      replace x4 := J3.out _ _ x4
      obtain ⟨bb', o', x', t', ha', hy', y0, y1, _, _⟩ := SL.out w4 x4.1; injection ha' with ha'; injection ha' with g1 g2 _; subst g1 g2
      rw [HY.out] at hy'
      injection hy' with hy'; injection hy' with g3 g4; subst g3 g4; obtain ⟨o5, h5, b5, j5⟩ := x4.call; have J5 := Lib.hid j5; have CT := Lib.hid (rwtext_at w0 p o5 _ t w4 h5 b5 (N3.out.it (itB x)) ht); have HT2 := Lib.hid (show wIts T0 (itSig (x, t)) = wIt (wIt T0 (itB x)) (itT t) from rfl)
      generalize wIt (wIt T0 (itB x)) (itT t) = T2 at *
      clear x4 h5 b5 j5 CS J3 SL HY x0 x1 HX
      go_wp2_with fail
      refine CT.out.mono ?_
      rintro e w5 ⟨rfl, x5⟩
      have X5 := Lib.hid (show RA w0 w p ob (wIts S1 ((l.take (k + 1)).flatMap itSig)) w5 from by rw [← HST.out, HT2.out]; exact J5.out _ _ x5); clear x5 CT J5 y0 y1
      go_wp2_with fail
      go_roundw
      case rel => exact ⟨k + 1, by omega, by go_num, X5⟩
      case measure => simp [intOf]; omega
    · have hd : decide ((k : Int) < (n : Int)) = false := by simp; omega
      have hT : l.take k = l := List.take_of_length_le (by omega)
      rw [hT, ← HE.out] at HX
      go_wp2_with fail
      go_end0
      exact ⟨rfl, HX.out⟩
set_option maxHeartbeats 1000000 in
theorem rask13_at (w0 : World) (p : Nat) (ob : Option Nat) (s : W) (r : Rq) (w : World) (h : RWr w w0.heap.size p ob s) (hb : Below w0.heap.size w0 w) (hs : Mid s) (hr : r.Ok) :
    Calls Tryz.prog 103 #[.pointer (some ⟨p, 0, none⟩), r.v] w fun e w' => e = .returned (.tuple #[]) ∧ RA w0 w p ob (wIt s (itT r.text)) w' := by
  have HT := Lib.hid r.text_size; have CT := Lib.hid (show ∀ u, Calls Tryz.prog 138 #[r.v] u fun e w' => e = .returned (.tuple #[.string r.text, .int .i64 r.err]) ∧ Below u.heap.size u w' from fun u => qrtext_any r.c r.s r.kind r.key r.b r.id u hr.c hr.s hr.kind hr.id hr.b hr.key)
  generalize r.text = T at *
  generalize r.err = E at *
  obtain ⟨c, st, kind, key, b, id⟩ := r
  unfold Rq.v at *
  dsimp only at *
  clear hr
  obtain ⟨w2, hw2⟩ : ∃ u, u = w.alloc (.cells #[.int .i64 c, .int .i64 st, .int .i64 kind, .string key, .float .f64 b, .int .i64 id] 27 (0, 0)) := ⟨_, rfl⟩
  have b2 : Below w.heap.size w w2 := by rw [hw2]; exact below_alloc _ _
  have kq : w2.heap[w.heap.size]? = some (.cells #[.int .i64 c, .int .i64 st, .int .i64 kind, .string key, .float .f64 b, .int .i64 id] 27 (0, 0)) := by rw [hw2]; exact blk_alloc _ _
  obtain ⟨q0, q1, q2, q3, q4, q5⟩ := rqAt_blk kq; have B2 := Lib.hid b2; have H := Lib.hid h; have HB := Lib.hid hb; have HS := Lib.hid hs; clear h hb hs b2 kq
  go_enter Tryz.func103, Tryz.ntmps103
  go_upto_region 1 with (fail)
  rw [← hw2]; clear hw2
  go_wp2_with fail
  refine (CT.out w2).mono ?_
  rintro e w3 ⟨rfl, b3⟩
  have B3 := bthen B2.out b3; have C3 := Lib.hid (rwtext_at w0 p ob s T w3 (WAt.below H.out B3) (bthen HB.out B3) HS.out (by have := HT.out; omega)); have HB3 := Lib.hid B3; clear q0 q1 q2 q3 q4 q5 b3 B3
  go_wp2_with fail
  refine C3.out.mono ?_
  rintro e w4 ⟨rfl, x4⟩
  have X4 := Lib.hid (RA.pre HB3.out x4); clear x4
  go_wp2_with fail
  go_end0
  exact ⟨rfl, X4.out⟩
end Go.Proofs.YtijeieamodjgbaaGreat
namespace Go.Proofs.YtijeieamodjgbaaGreat
set_option maxRecDepth 100000
open Go.RowKit Go.Deep
set_option linter.unusedVariables false
set_option linter.unusedSimpArgs false
attribute [local go_sem] run_store_float
set_option maxHeartbeats 4000000 in
theorem rbytes13_any (m : Mg) (a1 : Option Addr) (n1 c1 : Nat) (a2 : Option Addr) (n2 c2 : Nat) (a3 : Option Addr) (n3 c3 : Nat) (a4 : Option Addr) (n4 c4 : Nat) (w : World) (hm : MsgIn w m a1 n1 c1 a2 n2 c2 a3 n3 c3 a4 n4 c4) :
    Calls Tryz.prog 55 #[.agg (mgCs m a1 n1 c1 a2 n2 c2 a3 n3 c3 a4 n4 c4).toArray] w fun e w' => e = .returned (.tuple #[.string (mgText m), .int .i64 (mgErr m)]) ∧ Below w.heap.size w w' := by
  obtain ⟨w1, hw1⟩ : ∃ u, u = w.alloc (.cells (mgCs m a1 n1 c1 a2 n2 c2 a3 n3 c3 a4 n4 c4).toArray 35 (0, 0)) := ⟨_, rfl⟩
  have b1 : Below w.heap.size w w1 := by rw [hw1]; exact below_alloc _ _
  have k1 : w1.heap[w.heap.size]? = some (.cells (mgCs m a1 n1 c1 a2 n2 c2 a3 n3 c3 a4 n4 c4).toArray 35 (0, 0)) := by rw [hw1]; exact blk_alloc _ _
  have B1 := Lib.hid b1; have K1 := Lib.hid k1; have HM := Lib.hid hm; have CF0 := rfits_any m a1 n1 c1 a2 n2 c2 a3 n3 c3 a4 n4 c4 w1 (hm.old b1)
  rw [fitR_eq] at CF0
  have HTX := Lib.hid (show mgText m = if kindB m && fitsP m then (if (msgS m).err = 0 then ⟨(msgS m).out.toArray⟩ else ⟨#[]⟩) else ⟨#[]⟩ from rfl); have HER := Lib.hid (show mgErr m = if kindB m = false then 19 else if fitsP m = false then 4 else if (msgS m).err = 0 then 0 else 3 from rfl); have HMS := Lib.hid (msgS_eq m n1 n2 n3 n4 hm.nx.len hm.ch.len hm.lk.len)
  generalize mgText m = TX at HTX ⊢
  generalize mgErr m = ER at HER ⊢
  generalize kindB m = KB at *
  generalize fitsP m = FB at *
  generalize msgS m = MS at *
  obtain ⟨CS, hCS⟩ : ∃ CS, CS = (mgCs m a1 n1 c1 a2 n2 c2 a3 n3 c3 a4 n4 c4).toArray := ⟨_, rfl⟩
  rw [← hCS] at hw1 CF0 ⊢
  have HCS := Lib.hid hCS
  obtain ⟨FE, hFE⟩ : ∃ F : Int, F = if KB = true then (if FB = true then 0 else 4) else 19 := ⟨_, rfl⟩
  rw [← hFE] at CF0
  have HFE := Lib.hid hFE; have CF := Lib.hid CF0; clear k1 b1 hm hCS CF0 hFE
  go_enter Tryz.func55, Tryz.ntmps55
  go_upto_region 1 with (fail)
  rw [← hw1]; clear hw1
  refine wp_region_lit ?_
  refine ops_val rfl (w' := w1) (v := .agg CS) (load_row _ _ (.tmp 1) Tryz.underlying35 rfl (by rw [HCS.out, List.size_toArray]; exact info_mg) rfl rfl (by rw [HCS.out]; exact K1.out)) ?_
  simp only [Act.put, List.setIfInBounds_toArray, List.set_cons_succ, List.set_cons_zero]
  go_wp2_with fail
  refine CF.out.mono ?_
  rintro r w2 ⟨rfl, b2⟩
  have B2 := Lib.hid (bthen B1.out b2); have K2 := Lib.hid (blk_below K1.out b2); have HM2 := Lib.hid (HM.out.old B2.out); clear b2 CF B1 K1
  by_cases hfe : ¬ FE = 0
  · have hne : (FE != 0) = true := by simpa using hfe
    have hT : TX = ⟨#[]⟩ ∧ ER = FE := by
      rw [HTX.out, HER.out, HFE.out]
      rw [HFE.out] at hfe
      cases KB with
      | false => exact ⟨rfl, rfl⟩
      | true =>
        cases FB with
        | false => exact ⟨rfl, rfl⟩
        | true => exact absurd rfl hfe
    have HT := Lib.hid hT; clear hT hfe
    go_wp2_with fail
    go_ret2
    exact ⟨by rw [HT.out.1, HT.out.2]; rfl, B2.out⟩
  replace hfe := Classical.not_not.1 hfe
  have hkf : KB = true ∧ FB = true := by
    rw [HFE.out] at hfe
    cases KB with
    | false => simp at hfe
    | true =>
      cases FB with
      | false => simp at hfe
      | true => exact ⟨rfl, rfl⟩
  obtain ⟨rfl, rfl⟩ := hkf; subst hfe; have HTX2 := Lib.hid (show TX = doneS MS from HTX.out); have HER2 := Lib.hid (show ER = if MS.err = 0 then 0 else 3 from HER.out); clear HTX HER HFE
  go_wp2_with fail
  refine (rnew_any 65536 w2).mono ?_
  rintro r w3 ⟨rfl, h3, b3⟩
  obtain ⟨p, hp⟩ : ∃ p, p = w2.heap.size := ⟨_, rfl⟩
  rw [← hp] at h3 ⊢
  have h3' : RWr w3 w2.heap.size p none (wNew 65536) := by rw [hp] at h3 ⊢; exact h3
  have N0 := Lib.hid mid_new; have X0 := Lib.hid (RA.start h3' b3); clear h3 h3' b3 hp
  generalize wNew 65536 = S0 at *
  obtain ⟨S1, hS1⟩ : ∃ S, S = wIt S0 (itB m.k) := ⟨_, rfl⟩
  have N1 := Lib.hid (N0.out.it (itB m.k))
  rw [← hS1] at N1
  obtain ⟨S2, hS2⟩ : ∃ S, S = wIt S1 (itW m.e) := ⟨_, rfl⟩
  have N2 := Lib.hid (N1.out.it (itW m.e))
  rw [← hS2] at N2
  obtain ⟨S3, hS3⟩ : ∃ S, S = wIt S2 (itB m.v) := ⟨_, rfl⟩
  have N3 := Lib.hid (N2.out.it (itB m.v))
  rw [← hS3] at N3
  obtain ⟨S4, hS4⟩ : ∃ S, S = wIt S3 (itW m.s) := ⟨_, rfl⟩
  have N4 := Lib.hid (N3.out.it (itW m.s))
  rw [← hS4] at N4
  obtain ⟨S5, hS5⟩ : ∃ S, S = wIt S4 (itT m.q.text) := ⟨_, rfl⟩
  have N5 := Lib.hid (N4.out.it (itT m.q.text))
  rw [← hS5] at N5
  obtain ⟨S6, hS6⟩ : ∃ S, S = wIt S5 (itT (resText m.c m.r)) := ⟨_, rfl⟩
  have N6 := Lib.hid (N5.out.it (itT (resText m.c m.r)))
  rw [← hS6] at N6
  obtain ⟨S7, hS7⟩ : ∃ S, S = wIt S6 (itT m.t) := ⟨_, rfl⟩
  have N7 := Lib.hid (N6.out.it (itT m.t))
  rw [← hS7] at N7
  obtain ⟨S8, hS8⟩ : ∃ S, S = wIt S7 (itB (n1 : Int)) := ⟨_, rfl⟩
  have N8 := Lib.hid (N7.out.it (itB (n1 : Int)))
  rw [← hS8] at N8
  have HSN := Lib.hid (show MS = wIts (wIt (wIts (wIt (wIts (wIts S8 (m.nx.flatMap fun x => [itB x])) (itSigs m.sg)) (itB (n3 : Int))) (m.ch.flatMap itChange)) (itB (n4 : Int))) (m.lk.flatMap itLink) from by rw [HMS.out, hS8, hS7, hS6, hS5, hS4, hS3, hS2, hS1]; rfl)
  obtain ⟨S9, hS9⟩ : ∃ S, S = wIts S8 (m.nx.flatMap fun x => [itB x]) := ⟨_, rfl⟩
  have N9 := Lib.hid (N8.out.its (l := m.nx.flatMap fun x => [itB x]))
  rw [← hS9] at N9 HSN
  obtain ⟨S10, hS10⟩ : ∃ S, S = wIts S9 (itSigs m.sg) := ⟨_, rfl⟩
  have N10 := Lib.hid (N9.out.its (l := itSigs m.sg))
  rw [← hS10] at N10 HSN
  obtain ⟨S11, hS11⟩ : ∃ S, S = wIt S10 (itB (n3 : Int)) := ⟨_, rfl⟩
  have N11 := Lib.hid (N10.out.it (itB (n3 : Int)))
  rw [← hS11] at N11 HSN
  obtain ⟨S12, hS12⟩ : ∃ S, S = wIts S11 (m.ch.flatMap itChange) := ⟨_, rfl⟩
  have N12 := Lib.hid (N11.out.its (l := m.ch.flatMap itChange))
  rw [← hS12] at N12 HSN
  obtain ⟨S13, hS13⟩ : ∃ S, S = wIt S12 (itB (n4 : Int)) := ⟨_, rfl⟩
  have N13 := Lib.hid (N12.out.it (itB (n4 : Int)))
  rw [← hS13] at N13 HSN
  have HS1 := Lib.hid hS1; clear hS1; have HS2 := Lib.hid hS2; clear hS2; have HS3 := Lib.hid hS3; clear hS3; have HS4 := Lib.hid hS4; clear hS4; have HS5 := Lib.hid hS5; clear hS5; have HS6 := Lib.hid hS6; clear hS6; have HS7 := Lib.hid hS7; clear hS7; have HS8 := Lib.hid hS8; clear hS8; have HS9 := Lib.hid hS9; clear hS9; have HS10 := Lib.hid hS10; clear hS10; have HS11 := Lib.hid hS11; clear hS11; have HS12 := Lib.hid hS12; clear hS12; have HS13 := Lib.hid hS13; clear hS13; have hcap1 := HM2.out.nx.cap; have hmax1 := HM2.out.nx.max; have hlen1 := HM2.out.nx.len; have hcap3 := HM2.out.ch.cap; have hmax3 := HM2.out.ch.max; have hlen3 := HM2.out.ch.len; have hcap4 := HM2.out.lk.cap; have hmax4 := HM2.out.lk.max; have hlen4 := HM2.out.lk.len; have HCQ := Lib.hid (fun (o : Option Nat) (u : World) (h : RWr u w2.heap.size p o S4) (b : Below w2.heap.size w2 u) => rask13_at w2 p o S4 m.q u h b N4.out HM2.out.q)
  simp only [Rq.v] at HCQ
  obtain ⟨oo, ho, bo, jo⟩ := X0.out.call; have JO := Lib.hid jo; have co := rnum1_at w2 p oo S0 m.k w3 ho bo N0.out HM2.out.k
  rw [← HS1.out] at co
  have CO := Lib.hid co; have q0 : w3.cell? ⟨w.heap.size, 0, none⟩ = some (.int .i64 m.k) := mgAt_blk (blk_below K2.out X0.out.1) 0 _ rfl; clear ho bo jo co
  go_wp2_with fail
  refine CO.out.mono ?_
  rintro e u1 ⟨rfl, xo⟩
  have X1 := Lib.hid (JO.out _ _ xo); clear xo CO JO q0 X0; obtain ⟨oo, ho, bo, jo⟩ := X1.out.call; have JO := Lib.hid jo; have co := rnum2_at w2 p oo S1 m.e u1 ho bo N1.out HM2.out.e
  rw [← HS2.out] at co
  have CO := Lib.hid co; have q1 : u1.cell? ⟨w.heap.size, 1, none⟩ = some (.int .i64 m.e) := mgAt_blk (blk_below K2.out X1.out.1) 1 _ rfl; clear ho bo jo co
  go_wp2_with fail
  refine CO.out.mono ?_
  rintro e u2 ⟨rfl, xo⟩
  have X2 := Lib.hid (JO.out _ _ xo); clear xo CO JO q1 X1; obtain ⟨oo, ho, bo, jo⟩ := X2.out.call; have JO := Lib.hid jo; have co := rnum1_at w2 p oo S2 m.v u2 ho bo N2.out HM2.out.v
  rw [← HS3.out] at co
  have CO := Lib.hid co; have q2 : u2.cell? ⟨w.heap.size, 2, none⟩ = some (.int .i64 m.v) := mgAt_blk (blk_below K2.out X2.out.1) 2 _ rfl; clear ho bo jo co
  go_wp2_with fail
  refine CO.out.mono ?_
  rintro e u3 ⟨rfl, xo⟩
  have X3 := Lib.hid (JO.out _ _ xo); clear xo CO JO q2 X2; obtain ⟨oo, ho, bo, jo⟩ := X3.out.call; have JO := Lib.hid jo; have co := rnum2_at w2 p oo S3 m.s u3 ho bo N3.out HM2.out.s
  rw [← HS4.out] at co
  have CO := Lib.hid co; have q3 : u3.cell? ⟨w.heap.size, 3, none⟩ = some (.int .i64 m.s) := mgAt_blk (blk_below K2.out X3.out.1) 3 _ rfl; clear ho bo jo co
  go_wp2_with fail
  refine CO.out.mono ?_
  rintro e u4 ⟨rfl, xo⟩
  have X4 := Lib.hid (JO.out _ _ xo); clear xo CO JO q3 X3; obtain ⟨oo, ho, bo, jo⟩ := X4.out.call; have JO := Lib.hid jo; have co := HCQ.out oo u4 ho bo
  rw [← HS5.out] at co
  have CO := Lib.hid co; have q4 : u4.cell? ⟨w.heap.size, 4, none⟩ = some (.int .i64 m.q.c) := mgAt_blk (blk_below K2.out X4.out.1) 4 _ rfl; have q5 : u4.cell? ⟨w.heap.size, 5, none⟩ = some (.int .i64 m.q.s) := mgAt_blk (blk_below K2.out X4.out.1) 5 _ rfl; have q6 : u4.cell? ⟨w.heap.size, 6, none⟩ = some (.int .i64 m.q.kind) := mgAt_blk (blk_below K2.out X4.out.1) 6 _ rfl; have q7 : u4.cell? ⟨w.heap.size, 7, none⟩ = some (.string m.q.key) := mgAt_blk (blk_below K2.out X4.out.1) 7 _ rfl; have q8 : u4.cell? ⟨w.heap.size, 8, none⟩ = some (.float .f64 m.q.b) := mgAt_blk (blk_below K2.out X4.out.1) 8 _ rfl; have q9 : u4.cell? ⟨w.heap.size, 9, none⟩ = some (.int .i64 m.q.id) := mgAt_blk (blk_below K2.out X4.out.1) 9 _ rfl; clear ho bo jo co
  go_wp2_with fail
  refine CO.out.mono ?_
  rintro e u5 ⟨rfl, xo⟩
  have X5 := Lib.hid (JO.out _ _ xo); clear xo CO JO q4 q5 q6 q7 q8 q9 X4; have CR := Lib.hid (rrestext_any m.c m.r u5 HM2.out.r); have q10 : u5.cell? ⟨w.heap.size, 10, none⟩ = some (.int .i64 m.c) := mgAt_blk (blk_below K2.out X5.out.1) 10 _ rfl; have q11 : u5.cell? ⟨w.heap.size, 11, none⟩ = some (.float .f64 m.r) := mgAt_blk (blk_below K2.out X5.out.1) 11 _ rfl
  go_wp2_with fail
  refine CR.out.mono ?_
  rintro e u6 ⟨rfl, b6⟩
  have X6 := Lib.hid (X5.out.below b6); clear b6 q10 q11 X5 CR; obtain ⟨oo, ho, bo, jo⟩ := X6.out.call; have JO := Lib.hid jo; have co := rwtext_at w2 p oo S5 (resText m.c m.r) u6 ho bo N5.out (by have := resText_small m.c m.r; omega)
  rw [← HS6.out] at co
  have CO := Lib.hid co
  generalize resText m.c m.r = RT at *
  clear ho bo jo co
  go_wp2_with fail
  refine CO.out.mono ?_
  rintro e u7 ⟨rfl, xo⟩
  have X7 := Lib.hid (JO.out _ _ xo); clear xo CO JO  X6; obtain ⟨oo, ho, bo, jo⟩ := X7.out.call; have JO := Lib.hid jo; have co := rwtext_at w2 p oo S6 m.t u7 ho bo N6.out (by have := HM2.out.t; omega)
  rw [← HS7.out] at co
  have CO := Lib.hid co; have q12 : u7.cell? ⟨w.heap.size, 12, none⟩ = some (.string m.t) := mgAt_blk (blk_below K2.out X7.out.1) 12 _ rfl; clear ho bo jo co
  go_wp2_with fail
  refine CO.out.mono ?_
  rintro e u8 ⟨rfl, xo⟩
  have X8 := Lib.hid (JO.out _ _ xo); clear xo CO JO q12 X7; obtain ⟨oo, ho, bo, jo⟩ := X8.out.call; have JO := Lib.hid jo; have co := rnum1_at w2 p oo S7 (n1 : Int) u8 ho bo N7.out ⟨by omega, by omega⟩
  rw [← HS8.out] at co
  have CO := Lib.hid co; have q13 : u8.cell? ⟨w.heap.size, 13, none⟩ = some (.slice a1 n1 c1) := mgAt_blk (blk_below K2.out X8.out.1) 13 _ rfl; clear ho bo jo co
  go_wp2_with fail
  refine CO.out.mono ?_
  rintro e u9 ⟨rfl, xo⟩
  have X9 := Lib.hid (JO.out _ _ xo); clear xo CO JO q13 X8
  go_wp2_with fail
  go_loopw [8] (fun i wr => ∃ k : Nat, k ≤ n1 ∧ i = .int .i64 k ∧ Hid (RA w2 w3 p none (wIts S8 ((m.nx.take k).flatMap fun x => [itB x])) wr)) (fun i _ => n1 - (intOf i).toNat)
  case atStart => exact ⟨0, by omega, rfl, X9⟩
  case round =>
    clear X9; obtain ⟨k, hk, rfl, HX⟩ := hrel; have q13 : wr.cell? ⟨w.heap.size, 13, none⟩ = some (.slice a1 n1 c1) := mgAt_blk (blk_below K2.out HX.out.1) 13 _ rfl
    by_cases hlt : k < n1
    · have hd : decide ((k : Int) < (n1 : Int)) = true := by simp; omega
      have hj0 : (0 : Int) ≤ (k : Int) := by omega
      have hj1 : (k : Int) < (n1 : Int) := by omega
      obtain ⟨bb, o, x, rfl, hy, z0, hxi⟩ := int_cell13 HM2.out.nx hlt
      replace z0 := below_cell HX.out.1 z0
      have HST := Lib.hid (its_flat_snoc (f := fun x => [itB x]) S8 hy); have lz := World.block_lt z0; obtain ⟨oo, ho, bo, jo⟩ := HX.out.call; have JO := Lib.hid jo; have co := rnum1_at w2 p oo _ x wr ho bo (N8.out.its (l := (m.nx.take k).flatMap fun x => [itB x])) hxi; have CO := Lib.hid co; clear ho bo jo co
      go_wp2_with fail
      refine CO.out.mono ?_
      rintro e v1 ⟨rfl, xo⟩
      have X13 := Lib.hid (show RA w2 w3 p none (wIts S8 ((m.nx.take (k + 1)).flatMap fun x => [itB x])) v1 from by rw [← HST.out]; exact JO.out _ _ xo); clear xo CO JO z0 q13 hy lz HX
      go_wp2_with fail
      go_roundw
      case rel => exact ⟨k + 1, by omega, by go_num, X13⟩
      case measure => simp [intOf]; omega
    · have hd : decide ((k : Int) < (n1 : Int)) = false := by simp; omega
      have hT : m.nx.take k = m.nx := List.take_of_length_le (by omega)
      rw [hT, ← HS9.out] at HX
      clear hT; obtain ⟨oo, ho, bo, jo⟩ := HX.out.call; have JO := Lib.hid jo; have co := rput13_at w2 p oo S9 a2 n2 c2 m.sg wr ho bo N9.out HM2.out.sg
      rw [← HS10.out] at co
      have CO := Lib.hid co; have q14 : wr.cell? ⟨w.heap.size, 14, none⟩ = some (.slice a2 n2 c2) := mgAt_blk (blk_below K2.out HX.out.1) 14 _ rfl; clear ho bo jo co
      go_wp2_with fail
      refine CO.out.mono ?_
      rintro e v1 ⟨rfl, xo⟩
      have Y1 := Lib.hid (JO.out _ _ xo); clear xo CO JO q14 q13 HX; obtain ⟨oo, ho, bo, jo⟩ := Y1.out.call; have JO := Lib.hid jo; have co := rnum1_at w2 p oo S10 (n3 : Int) v1 ho bo N10.out ⟨by omega, by omega⟩
      rw [← HS11.out] at co
      have CO := Lib.hid co; have q15 : v1.cell? ⟨w.heap.size, 15, none⟩ = some (.slice a3 n3 c3) := mgAt_blk (blk_below K2.out Y1.out.1) 15 _ rfl; clear ho bo jo co
      go_wp2_with fail
      refine CO.out.mono ?_
      rintro e v2 ⟨rfl, xo⟩
      have Y2 := Lib.hid (JO.out _ _ xo); clear xo CO JO q15 Y1
      go_wp2_with fail
      go_loopw [9] (fun i wr => ∃ k : Nat, k ≤ n3 ∧ i = .int .i64 k ∧ Hid (RA w2 w3 p none (wIts S11 ((m.ch.take k).flatMap itChange)) wr)) (fun i _ => n3 - (intOf i).toNat)
      case atStart => exact ⟨0, by omega, rfl, Y2⟩
      case round =>
        clear Y2
        obtain ⟨wo, hwo⟩ : ∃ u : World, u = wr := ⟨_, rfl⟩
        subst hwo; obtain ⟨k, hk, rfl, HX⟩ := hrel; have q15 : wo.cell? ⟨w.heap.size, 15, none⟩ = some (.slice a3 n3 c3) := mgAt_blk (blk_below K2.out HX.out.1) 15 _ rfl
        by_cases hlt : k < n3
        · have hd : decide ((k : Int) < (n3 : Int)) = true := by simp; omega
          have hj0 : (0 : Int) ≤ (k : Int) := by omega
          have hj1 : (k : Int) < (n3 : Int) := by omega
          obtain ⟨bb, o, y, sa, sn, sc, rfl, hy, z0, z1, z2, z3, z4, hfr, hv, hce, hs1, hs2⟩ := change_cells HM2.out.ch hlt; have bx := HX.out.1
          replace z0 := below_cell bx z0; replace z1 := below_cell bx z1; replace z2 := below_cell bx z2; replace z3 := below_cell bx z3; replace z4 := below_cell bx z4
          have lz := World.block_lt z0
          obtain ⟨wl, hwl⟩ : ∃ u, u = wo.alloc (.cells #[.int .i64 y.fr, .int .i64 y.v, .slice sa sn sc, .int .i64 y.sg.1, .string y.sg.2] 86 (0, 0)) := ⟨_, rfl⟩
          have bl : Below wo.heap.size wo wl := by rw [hwl]; exact below_alloc _ _
          have KL := Lib.hid (show wl.heap[wo.heap.size]? = some (.cells #[.int .i64 y.fr, .int .i64 y.v, .slice sa sn sc, .int .i64 y.sg.1, .string y.sg.2] 86 (0, 0)) by rw [hwl]; exact blk_alloc _ _); have HST := Lib.hid (its_flat_snoc (f := itChange) S11 hy); obtain ⟨o3, h3, b3, j3⟩ := HX.out.call; have H3 := Lib.hid h3; have J3 := Lib.hid j3; have BL := Lib.hid bl; have M0 := Lib.hid (N11.out.its (l := (m.ch.take k).flatMap itChange))
          obtain ⟨T0, hT0⟩ : ∃ T, T = wIts S11 ((m.ch.take k).flatMap itChange) := ⟨_, rfl⟩
          rw [← hT0] at M0 HST H3
          have Z0 := Lib.hid (show RA w2 wl p o3 T0 wl from RA.start (WAt.below H3.out bl) (bthen b3 bl)); have HCE := Lib.hid hce; have hnc := hce.len; have hncap := Nat.le_trans hce.cap hce.max; have M1 := Lib.hid (M0.out.it (itB y.fr)); have M2 := Lib.hid (M1.out.it (itB y.v)); have M3 := Lib.hid (M2.out.it (itB (sn : Int))); have M4 := Lib.hid (M3.out.its (l := y.ce.flatMap itCert)); have M5 := Lib.hid (M4.out.it (itB y.sg.1)); have HCH := Lib.hid (show wIts T0 (itChange y) = wIt (wIt (wIts (wIt (wIt (wIt T0 (itB y.fr)) (itB y.v)) (itB (sn : Int))) (y.ce.flatMap itCert)) (itB y.sg.1)) (itT y.sg.2) by rw [← hnc]; simp only [itChange, itSig, wIts, List.foldl_cons, List.foldl_append, List.foldl_nil])
          obtain ⟨T1, hT1⟩ : ∃ T, T = wIt T0 (itB y.fr) := ⟨_, rfl⟩
          rw [← hT1] at M1 M2 M3 M4 M5 HCH
          obtain ⟨T2, hT2⟩ : ∃ T, T = wIt T1 (itB y.v) := ⟨_, rfl⟩
          rw [← hT2] at M2 M3 M4 M5 HCH
          obtain ⟨T3, hT3⟩ : ∃ T, T = wIt T2 (itB (sn : Int)) := ⟨_, rfl⟩
          rw [← hT3] at M3 M4 M5 HCH
          obtain ⟨T4, hT4⟩ : ∃ T, T = wIts T3 (y.ce.flatMap itCert) := ⟨_, rfl⟩
          rw [← hT4] at M4 M5 HCH
          obtain ⟨T5, hT5⟩ : ∃ T, T = wIt T4 (itB y.sg.1) := ⟨_, rfl⟩
          rw [← hT5] at M5 HCH
          have HT1 := Lib.hid hT1; have HT2 := Lib.hid hT2; have HT3 := Lib.hid hT3; have HT4 := Lib.hid hT4; have HT5 := Lib.hid hT5; have HFR := Lib.hid (⟨hfr, hv, hs1, hs2⟩ : i64 y.fr ∧ i64 y.v ∧ i64 y.sg.1 ∧ y.sg.2.size ≤ 1125899906842624); have HBX := Lib.hid (fun (u : World) (s : W) (X : RA w2 wl p o3 s u) => X.box H3.out (Nat.le_refl _) KL.out); clear h3 b3 j3 hy hfr hv hce hs1 hs2 bx bl hT0 hT1 hT2 hT3 hT4 hT5 HX
          go_upto_region 24 with (fail)
          rw [← hwl]; clear hwl z0 z1 z2 z3 z4 q15 lz; obtain ⟨oo, ho, bo, jo⟩ := Z0.out.call; have JO := Lib.hid jo; have co := rnum1_at w2 p oo T0 y.fr wl ho bo M0.out HFR.out.1
          rw [← HT1.out] at co
          have CO := Lib.hid co
          have c0 : wl.cell? ⟨wo.heap.size, 0, none⟩ = some (.int .i64 y.fr) := by rw [blk_cell (HBX.out _ _ Z0.out)]; rfl
          clear ho bo jo co
          go_wp2_with fail
          refine CO.out.mono ?_
          rintro e t1 ⟨rfl, xo⟩
          have Z1 := Lib.hid (JO.out _ _ xo); clear xo CO JO c0 Z0; obtain ⟨oo, ho, bo, jo⟩ := Z1.out.call; have JO := Lib.hid jo; have co := rnum1_at w2 p oo T1 y.v t1 ho bo M1.out HFR.out.2.1
          rw [← HT2.out] at co
          have CO := Lib.hid co
          have c1 : t1.cell? ⟨wo.heap.size, 1, none⟩ = some (.int .i64 y.v) := by rw [blk_cell (HBX.out _ _ Z1.out)]; rfl
          clear ho bo jo co
          go_wp2_with fail
          refine CO.out.mono ?_
          rintro e t2 ⟨rfl, xo⟩
          have Z2 := Lib.hid (JO.out _ _ xo); clear xo CO JO c1 Z1; obtain ⟨oo, ho, bo, jo⟩ := Z2.out.call; have JO := Lib.hid jo; have co := rnum1_at w2 p oo T2 (sn : Int) t2 ho bo M2.out ⟨by omega, by omega⟩
          rw [← HT3.out] at co
          have CO := Lib.hid co
          have c2 : t2.cell? ⟨wo.heap.size, 2, none⟩ = some (.slice sa sn sc) := by rw [blk_cell (HBX.out _ _ Z2.out)]; rfl
          clear ho bo jo co
          go_wp2_with fail
          refine CO.out.mono ?_
          rintro e t3 ⟨rfl, xo⟩
          have Z3 := Lib.hid (JO.out _ _ xo); clear xo CO JO c2 Z2
          go_wp2_with fail
          go_loopw [11] (fun i wr => ∃ j : Nat, j ≤ sn ∧ i = .int .i64 j ∧ Hid (RA w2 wl p o3 (wIts T3 ((y.ce.take j).flatMap itCert)) wr)) (fun i _ => sn - (intOf i).toNat)
          case atStart => exact ⟨0, by omega, rfl, Z3⟩
          case round =>
            clear Z3; obtain ⟨j, hj, rfl, HY⟩ := hrel
            have c2 : wr.cell? ⟨wo.heap.size, 2, none⟩ = some (.slice sa sn sc) := by rw [blk_cell (HBX.out _ _ HY.out)]; rfl
            by_cases hlt2 : j < sn
            · have hd2 : decide ((j : Int) < (sn : Int)) = true := by simp; omega
              have hi0 : (0 : Int) ≤ (j : Int) := by omega
              have hi1 : (j : Int) < (sn : Int) := by omega
              obtain ⟨cb, co, x, xa, xn, xc, rfl, hx, e0, e1, e2, e3, e4, e5, e6, e7, e8, hxv, hxs, hxq, hss⟩ := cert_cells HCE.out hlt2
              have by' := HY.out.1
              replace e0 := below_cell by' e0; replace e1 := below_cell by' e1; replace e2 := below_cell by' e2; replace e3 := below_cell by' e3; replace e4 := below_cell by' e4; replace e5 := below_cell by' e5; replace e6 := below_cell by' e6; replace e7 := below_cell by' e7; replace e8 := below_cell by' e8
              have le := World.block_lt e0
              obtain ⟨wm, hwm⟩ : ∃ u, u = wr.alloc (.cells #[.int .i64 x.v, .int .i64 x.s, .int .i64 x.q.c, .int .i64 x.q.s, .int .i64 x.q.kind, .string x.q.key, .float .f64 x.q.b, .int .i64 x.q.id, .slice xa xn xc] 144 (0, 0)) := ⟨_, rfl⟩
              have bm : Below wr.heap.size wr wm := by rw [hwm]; exact below_alloc _ _
              have KM := Lib.hid (show wm.heap[wr.heap.size]? = some (.cells #[.int .i64 x.v, .int .i64 x.s, .int .i64 x.q.c, .int .i64 x.q.s, .int .i64 x.q.kind, .string x.q.key, .float .f64 x.q.b, .int .i64 x.q.id, .slice xa xn xc] 144 (0, 0)) by rw [hwm]; exact blk_alloc _ _); have HSU := Lib.hid (its_flat_snoc (f := itCert) T3 hx); obtain ⟨o4, h4, b4, j4⟩ := HY.out.call; have H4 := Lib.hid h4; have J4 := Lib.hid j4; have BM := Lib.hid bm; have R0 := Lib.hid (M3.out.its (l := (y.ce.take j).flatMap itCert))
              obtain ⟨U0, hU0⟩ : ∃ T, T = wIts T3 ((y.ce.take j).flatMap itCert) := ⟨_, rfl⟩
              rw [← hU0] at R0 HSU H4
              have Q0 := Lib.hid (show RA w2 wm p o4 U0 wm from RA.start (WAt.below H4.out bm) (bthen b4 bm)); have R1 := Lib.hid (R0.out.it (itB x.v)); have R2 := Lib.hid (R1.out.it (itW x.s)); have R3 := Lib.hid (R2.out.it (itT x.q.text)); have HCT := Lib.hid (show wIts U0 (itCert x) = wIts (wIt (wIt (wIt U0 (itB x.v)) (itW x.s)) (itT x.q.text)) (itSigs x.sg) from rfl)
              obtain ⟨U1, hU1⟩ : ∃ T, T = wIt U0 (itB x.v) := ⟨_, rfl⟩
              rw [← hU1] at R1 R2 R3 HCT
              obtain ⟨U2, hU2⟩ : ∃ T, T = wIt U1 (itW x.s) := ⟨_, rfl⟩
              rw [← hU2] at R2 R3 HCT
              obtain ⟨U3, hU3⟩ : ∃ T, T = wIt U2 (itT x.q.text) := ⟨_, rfl⟩
              rw [← hU3] at R3 HCT
              have HU1 := Lib.hid hU1; have HU2 := Lib.hid hU2; have HU3 := Lib.hid hU3; have HXV := Lib.hid (⟨hxv, hxs⟩ : i64 x.v ∧ i64 x.s); have HSS := Lib.hid hss; have HCX := Lib.hid (fun (o : Option Nat) (u : World) (h : RWr u w2.heap.size p o U2) (b : Below w2.heap.size w2 u) => rask13_at w2 p o U2 x.q u h b R2.out hxq)
              simp only [Rq.v] at HCX
              have HBY := Lib.hid (fun (u : World) (s : W) (X : RA w2 wm p o4 s u) => X.box H4.out (Nat.le_refl _) KM.out)
              clear h4 b4 j4 hx hxv hxs hxq hss by' bm hU0 hU1 hU2 hU3 HY
              go_upto_region 31 with (fail)
              rw [← hwm]; clear hwm e0 e1 e2 e3 e4 e5 e6 e7 e8 c2 le; obtain ⟨oo, ho, bo, jo⟩ := Q0.out.call; have JO := Lib.hid jo; have co := rnum1_at w2 p oo U0 x.v wm ho bo R0.out HXV.out.1
              rw [← HU1.out] at co
              have CO := Lib.hid co
              have c0 : wm.cell? ⟨wr.heap.size, 0, none⟩ = some (.int .i64 x.v) := by rw [blk_cell (HBY.out _ _ Q0.out)]; rfl
              clear ho bo jo co
              go_wp2_with fail
              refine CO.out.mono ?_
              rintro e s1 ⟨rfl, xo⟩
              have Q1 := Lib.hid (JO.out _ _ xo); clear xo CO JO c0 Q0; obtain ⟨oo, ho, bo, jo⟩ := Q1.out.call; have JO := Lib.hid jo; have co := rnum2_at w2 p oo U1 x.s s1 ho bo R1.out HXV.out.2
              rw [← HU2.out] at co
              have CO := Lib.hid co
              have c1 : s1.cell? ⟨wr.heap.size, 1, none⟩ = some (.int .i64 x.s) := by rw [blk_cell (HBY.out _ _ Q1.out)]; rfl
              clear ho bo jo co
              go_wp2_with fail
              refine CO.out.mono ?_
              rintro e s2 ⟨rfl, xo⟩
              have Q2 := Lib.hid (JO.out _ _ xo); clear xo CO JO c1 Q1; obtain ⟨oo, ho, bo, jo⟩ := Q2.out.call; have JO := Lib.hid jo; have co := HCX.out oo s2 ho bo
              rw [← HU3.out] at co
              have CO := Lib.hid co
              have c2 : s2.cell? ⟨wr.heap.size, 2, none⟩ = some (.int .i64 x.q.c) := by rw [blk_cell (HBY.out _ _ Q2.out)]; rfl
              have c3 : s2.cell? ⟨wr.heap.size, 3, none⟩ = some (.int .i64 x.q.s) := by rw [blk_cell (HBY.out _ _ Q2.out)]; rfl
              have c4 : s2.cell? ⟨wr.heap.size, 4, none⟩ = some (.int .i64 x.q.kind) := by rw [blk_cell (HBY.out _ _ Q2.out)]; rfl
              have c5 : s2.cell? ⟨wr.heap.size, 5, none⟩ = some (.string x.q.key) := by rw [blk_cell (HBY.out _ _ Q2.out)]; rfl
              have c6 : s2.cell? ⟨wr.heap.size, 6, none⟩ = some (.float .f64 x.q.b) := by rw [blk_cell (HBY.out _ _ Q2.out)]; rfl
              have c7 : s2.cell? ⟨wr.heap.size, 7, none⟩ = some (.int .i64 x.q.id) := by rw [blk_cell (HBY.out _ _ Q2.out)]; rfl
              clear ho bo jo co
              go_wp2_with fail
              refine CO.out.mono ?_
              rintro e s3 ⟨rfl, xo⟩
              have Q3 := Lib.hid (JO.out _ _ xo); clear xo CO JO c2 c3 c4 c5 c6 c7 Q2; obtain ⟨oo, ho, bo, jo⟩ := Q3.out.call; have JO := Lib.hid jo; have co := rput13_at w2 p oo U3 xa xn xc x.sg s3 ho bo R3.out HSS.out
              rw [← HCT.out] at co
              have CO := Lib.hid co
              have c8 : s3.cell? ⟨wr.heap.size, 8, none⟩ = some (.slice xa xn xc) := by rw [blk_cell (HBY.out _ _ Q3.out)]; rfl
              clear ho bo jo co
              go_wp2_with fail
              refine CO.out.mono ?_
              rintro e s4 ⟨rfl, xo⟩
              have Q4 := Lib.hid (JO.out _ _ xo); clear xo CO JO c8 Q3; have Q5 := Lib.hid (show RA w2 wl p o3 (wIts T3 ((y.ce.take (j + 1)).flatMap itCert)) s4 from by rw [← HSU.out]; exact J4.out _ _ (RA.pre BM.out Q4.out)); clear Q4 J4 BM H4 HBY HSU
              go_wp2_with fail
              go_roundw
              case rel => exact ⟨j + 1, by omega, by go_num, Q5⟩
              case measure => simp [intOf]; omega
            · have hd2 : decide ((j : Int) < (sn : Int)) = false := by simp; omega
              have hTc : y.ce.take j = y.ce := List.take_of_length_le (by omega)
              rw [hTc, ← HT4.out] at HY
              clear hTc; obtain ⟨oo, ho, bo, jo⟩ := HY.out.call; have JO := Lib.hid jo; have co := rnum1_at w2 p oo T4 y.sg.1 wr ho bo M4.out HFR.out.2.2.1
              rw [← HT5.out] at co
              have CO := Lib.hid co
              have c3 : wr.cell? ⟨wo.heap.size, 3, none⟩ = some (.int .i64 y.sg.1) := by rw [blk_cell (HBX.out _ _ HY.out)]; rfl
              clear ho bo jo co
              go_wp2_with fail
              refine CO.out.mono ?_
              rintro e t5 ⟨rfl, xo⟩
              have Z5 := Lib.hid (JO.out _ _ xo); clear xo CO JO c3 c2 HY; obtain ⟨oo, ho, bo, jo⟩ := Z5.out.call; have JO := Lib.hid jo; have co := rwtext_at w2 p oo T5 y.sg.2 t5 ho bo M5.out HFR.out.2.2.2
              rw [← HCH.out] at co
              have CO := Lib.hid co
              have c4 : t5.cell? ⟨wo.heap.size, 4, none⟩ = some (.string y.sg.2) := by rw [blk_cell (HBX.out _ _ Z5.out)]; rfl
              clear ho bo jo co
              go_wp2_with fail
              refine CO.out.mono ?_
              rintro e t6 ⟨rfl, xo⟩
              have Z6 := Lib.hid (JO.out _ _ xo); clear xo CO JO c4 Z5; have Z7 := Lib.hid (show RA w2 w3 p none (wIts S11 ((m.ch.take (k + 1)).flatMap itChange)) t6 from by rw [← HST.out]; exact J3.out _ _ (RA.pre BL.out Z6.out)); clear Z6 J3 BL H3 HBX HST
              go_wp2_with fail
              go_roundw
              case rel => exact ⟨k + 1, by omega, by go_num, Z7⟩
              case measure => simp [intOf]; omega
        · have hd : decide ((k : Int) < (n3 : Int)) = false := by simp; omega
          have hT : m.ch.take k = m.ch := List.take_of_length_le (by omega)
          rw [hT, ← HS12.out] at HX
          clear hT; obtain ⟨oo, ho, bo, jo⟩ := HX.out.call; have JO := Lib.hid jo; have co := rnum1_at w2 p oo S12 (n4 : Int) wo ho bo N12.out ⟨by omega, by omega⟩
          rw [← HS13.out] at co
          have CO := Lib.hid co; have q16 : wo.cell? ⟨w.heap.size, 16, none⟩ = some (.slice a4 n4 c4) := mgAt_blk (blk_below K2.out HX.out.1) 16 _ rfl; clear ho bo jo co
          go_wp2_with fail
          refine CO.out.mono ?_
          rintro e v3 ⟨rfl, xo⟩
          have V1 := Lib.hid (JO.out _ _ xo); clear xo CO JO q16 q15 HX
          go_wp2_with fail
          go_loopw [13] (fun i wr => ∃ k : Nat, k ≤ n4 ∧ i = .int .i64 k ∧ Hid (RA w2 w3 p none (wIts S13 ((m.lk.take k).flatMap itLink)) wr)) (fun i _ => n4 - (intOf i).toNat)
          case atStart => exact ⟨0, by omega, rfl, V1⟩
          case round =>
            clear V1; obtain ⟨k, hk, rfl, HX⟩ := hrel; have q16 : wr.cell? ⟨w.heap.size, 16, none⟩ = some (.slice a4 n4 c4) := mgAt_blk (blk_below K2.out HX.out.1) 16 _ rfl
            by_cases hlt : k < n4
            · have hd : decide ((k : Int) < (n4 : Int)) = true := by simp; omega
              have hj0 : (0 : Int) ≤ (k : Int) := by omega
              have hj1 : (k : Int) < (n4 : Int) := by omega
              have SL := Lib.hid (fun (u : World) (hu : Below w2.heap.size w2 u) => link_cells13 (HM2.out.lk.old hu) hlt); obtain ⟨bb, o, e, ms, sg, ma, mn, mc, sa, sn, sc, rfl, hy, z0, z1, z2, hie, hms, hsg⟩ := link_cells13 HM2.out.lk hlt; have HZ2 := Lib.hid z2
              replace z0 := below_cell HX.out.1 z0; replace z1 := below_cell HX.out.1 z1
              have lz := World.block_lt z0; have HST := Lib.hid (its_flat_snoc (f := itLink) S13 hy); have G0 := Lib.hid (N13.out.its (l := (m.lk.take k).flatMap itLink))
              obtain ⟨T0, hT0⟩ : ∃ T, T = wIts S13 ((m.lk.take k).flatMap itLink) := ⟨_, rfl⟩
              rw [← hT0] at G0 HST HX
              have HLK := Lib.hid (show wIts T0 (itLink ((e, ms), sg)) = wIts (wIt T0 (itT (textS e ms))) (itSigs sg) from rfl); have HTL := Lib.hid (textS_small e ms); have CT := Lib.hid (rtext_any e ma mn mc ms wr (ints_of_sl (hms.old HX.out.1))); have HSG := Lib.hid hsg
              generalize wIts T0 (itLink ((e, ms), sg)) = TF at *
              generalize textS e ms = TT at *
              generalize textE e ms = TE at *
              have G1 := Lib.hid (G0.out.it (itT TT))
              obtain ⟨T1, hT1⟩ : ∃ T, T = wIt T0 (itT TT) := ⟨_, rfl⟩
              rw [← hT1] at G1 HLK
              have HT1 := Lib.hid hT1; clear hy hie hms hsg hT0 hT1 z2 SL
              go_wp2_with fail
              refine CT.out.mono ?_
              rintro r t1 ⟨rfl, b1⟩
              have V2 := Lib.hid (HX.out.below b1); clear b1 CT z0 z1 q16 HX lz; obtain ⟨oo, ho, bo, jo⟩ := V2.out.call; have JO := Lib.hid jo; have co := rwtext_at w2 p oo T0 TT t1 ho bo G0.out (by have := HTL.out; omega)
              rw [← HT1.out] at co
              have CO := Lib.hid co; clear ho bo jo co
              go_wp2_with fail
              refine CO.out.mono ?_
              rintro e t2 ⟨rfl, xo⟩
              have V3 := Lib.hid (JO.out _ _ xo); clear xo CO JO  V2; obtain ⟨oo, ho, bo, jo⟩ := V3.out.call; have JO := Lib.hid jo; have co := rput13_at w2 p oo T1 sa sn sc sg t2 ho bo G1.out HSG.out
              rw [← HLK.out] at co
              have CO := Lib.hid co; have q16 : t2.cell? ⟨w.heap.size, 16, none⟩ = some (.slice (some ⟨bb, o, none⟩) n4 c4) := mgAt_blk (blk_below K2.out V3.out.1) 16 _ rfl; have z2 := below_cell V3.out.1 HZ2.out; have lz := World.block_lt z2; clear ho bo jo co
              go_wp2_with fail
              refine CO.out.mono ?_
              rintro e t3 ⟨rfl, xo⟩
              have V4 := Lib.hid (JO.out _ _ xo); clear xo CO JO z2 lz q16 V3; have V5 := Lib.hid (show RA w2 w3 p none (wIts S13 ((m.lk.take (k + 1)).flatMap itLink)) t3 from by rw [← HST.out]; exact V4.out); clear V4
              go_wp2_with fail
              go_roundw
              case rel => exact ⟨k + 1, by omega, by go_num, V5⟩
              case measure => simp [intOf]; omega
            · have hd : decide ((k : Int) < (n4 : Int)) = false := by simp; omega
              have hT : m.lk.take k = m.lk := List.take_of_length_le (by omega)
              rw [hT, ← HSN.out] at HX
              obtain ⟨oz, hz, bz, jz⟩ := HX.out.call; have CD := Lib.hid (rdone_any _ _ _ _ wr hz); have BZ := Lib.hid (bthen B2.out bz); clear hz bz jz hT HX
              by_cases herr : MS.err = 0
              · have hE : ER = 0 := by rw [HER2.out, if_pos herr]
                have HT2 := Lib.hid HTX2.out
                rw [herr] at CD
                generalize doneS MS = DT at *
                clear herr HER2 HTX2
                go_wp2_with fail
                refine CD.out.mono ?_
                rintro r w9 ⟨rfl, b9⟩
                have B9 := Lib.hid (bthen BZ.out b9); clear b9
                go_wp2_with fail
                go_ret2
                exact ⟨by rw [HT2.out, hE]; rfl, B9.out⟩
              · have hE : ER = 3 := by rw [HER2.out, if_neg herr]
                have hT3 : TX = ⟨#[]⟩ := by rw [HTX2.out, doneS, if_neg herr]
                have hne : (MS.err != 0) = true := by simpa using herr
                generalize doneS MS = DT at *
                generalize MS.err = ME at *
                clear herr HER2 HTX2
                go_wp2_with fail
                refine CD.out.mono ?_
                rintro r w9 ⟨rfl, b9⟩
                have B9 := Lib.hid (bthen BZ.out b9); clear b9
                go_wp2_with fail
                go_ret2
                exact ⟨by rw [hT3, hE]; rfl, B9.out⟩
end Go.Proofs.YtijeieamodjgbaaGreat
