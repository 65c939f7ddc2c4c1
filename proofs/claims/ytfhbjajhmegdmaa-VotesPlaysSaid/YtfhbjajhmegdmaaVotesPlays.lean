
/- VotesPlays: a tally takes, refuses and settles what the document says, vote by vote, of any configuration, and what is handed in isn't kept: for every input the law returns true, and its arguments read as before. No condition. -/
import Derived.Test.YtfhbjajhmegdmaaVpS
import Derived.Test.YtfhbjajhmegdmaaVtQ
import Derived.Test.YtfhbjajhmegdmaaLift
namespace Go.Proofs.Ytfhbjajhmegdmaa.votesPlays
set_option maxRecDepth 100000
open Go.ChangeShapes Go.WideShapes Go.ChangeAt Go.RowKit
attribute [local irreducible] wpQuiet
set_option linter.unusedVariables false
set_option linter.unusedSimpArgs false

/-- While both tallies hear a vote: which has heard it. -/
def vpJ (B : Nat) (e : Int) (l : List Int) (p q lo : Nat) (V V' : List Vt) (w5 : World) (d : Nat → Bool) (w : World) : Prop :=
  Pl B e l p q lo w5.heap.size (d 7) (d 18) w (if d 7 = true then V' else V) (if d 18 = true then V' else V) ∧ Keep (Wr B lo) w5 w
section
variable {B : Nat} {e : Int} {l : List Int} {p q lo : Nat} {V V' : List Vt} {w5 w w' : World} {d : Nat → Bool}
theorem vpJ_skip {i : Nat} (h7 : i ≠ 7) (h18 : i ≠ 18) (h : vpJ B e l p q lo V V' w5 d w) : vpJ B e l p q lo V V' w5 (setD d i) w := by
  unfold vpJ setD
  rw [if_neg (Ne.symm h7), if_neg (Ne.symm h18)]
  exact h
theorem vpJ_old (h : vpJ B e l p q lo V V' w5 d w) (hb : Below w.heap.size w w') : vpJ B e l p q lo V V' w5 d w' := ⟨h.1.old hb, h.2.trans (X' := fun _ => False) (Keep.of_below hb) (fun _ _ h => h.elim)⟩
theorem vpJ_add {U : List Vt} (h : vpJ B e l p q lo V V' w5 d w) (hd : d 7 = false) (hk : Keep (Wr B lo) w w') (hp : Pl B e l p q lo w5.heap.size true (d 18) w' U (if d 18 = true then V' else V)) (hU : U = V' := by rfl) : vpJ B e l p q lo V V' w5 (setD d 7) w' := by
  unfold vpJ setD
  rw [if_pos rfl, if_neg (by decide), if_pos rfl]
  rw [hU] at hp
  exact ⟨hp, h.2.trans hk (fun _ _ h => h)⟩
theorem vpJ_radd {U : List Vt} (h : vpJ B e l p q lo V V' w5 d w) (hd : d 18 = false) (hk : Keep (Wr B lo) w w') (hp : Pl B e l p q lo w5.heap.size (d 7) true w' (if d 7 = true then V' else V) U) (hU : U = V' := by rfl) : vpJ B e l p q lo V V' w5 (setD d 18) w' := by
  unfold vpJ setD
  rw [if_pos rfl, if_neg (by decide), if_pos rfl]
  rw [hU] at hp
  exact ⟨hp, h.2.trans hk (fun _ _ h => h)⟩
end
def vpR (W lo p q vb : Nat) (x : Int) (t : ByteArray) (ao : Option Addr) (no co : Nat) (so : Option Addr) (ns sc : Nat) (a' : Option Addr) (n' c' : Nat) (g e : Int) (a : Option Addr) (n c : Nat) (l nx : List Int) (V : List Vt) : Nat → World → Value → Prop
  | 0 => fun _ v => v = .pointer (some ⟨p, 0, none⟩)
  | 1 => fun _ v => v = .pointer (some ⟨vb, 0, none⟩)
  | 2 => fun _ v => v = .int .i64 x
  | 3 => fun _ v => v = .pointer (some ⟨vb, 1, none⟩)
  | 4 => fun _ v => v = .string t
  | 5 => fun _ v => v = .slice ao no co
  | 6 => fun _ v => v = .slice so ns sc
  | 7 => fun w v => v = .int .i64 (addE e l V x t nx (sgOf g x (vS e l t nx) (vC e l t nx)))
  | 8 => fun _ v => v = .pointer (some ⟨q, 0, none⟩)
  | 9 => fun _ v => v = .pointer (some ⟨vb, 0, none⟩)
  | 10 => fun _ v => v = .int .i64 x
  | 11 => fun _ v => v = .pointer (some ⟨vb, 1, none⟩)
  | 12 => fun _ v => v = .string t
  | 13 => fun _ v => v = .pointer (some ⟨vb, 2, none⟩)
  | 14 => fun _ v => v = .slice a' n' c'
  | 15 => fun _ v => v = .agg #[.int .i64 x, .string t, .slice a' n' c', .int .i64 g]
  | 16 => fun _ v => v = .agg #[.int .i64 e, .slice a n c]
  | 17 => fun w v => ∃ a8 n8 c8, v = .slice a8 n8 c8 ∧ Rob (Wr (W + 1) lo) (fun w' => SlAt shSig w' a8 n8 c8 (sgOf g x (vS e l t nx) (vC e l t nx))) w
  | 18 => fun w v => v = .int .i64 (addE e l V x t nx (sgOf g x (vS e l t nx) (vC e l t nx)))
  | 19 => fun _ v => v = .bool false
  | 20 => fun _ v => v = .bool false
  | _ => fun _ _ => False
theorem vpR_stab {W lo p q vb : Nat} {x : Int} {t : ByteArray} {ao : Option Addr} {no co : Nat} {so : Option Addr} {ns sc : Nat} {a' : Option Addr} {n' c' : Nat} {g e : Int} {a : Option Addr} {n c : Nat} {l nx : List Int} {V : List Vt} : ∀ i w w' v, vpR W lo p q vb x t ao no co so ns sc a' n' c' g e a n c l nx V i w v → Keep (Wr (W + 1) lo) w w' → vpR W lo p q vb x t ao no co so ns sc a' n' c' g e a n c l nx V i w' v
  | 0, w, w', v, h, hk => h
  | 1, w, w', v, h, hk => h
  | 2, w, w', v, h, hk => h
  | 3, w, w', v, h, hk => h
  | 4, w, w', v, h, hk => h
  | 5, w, w', v, h, hk => h
  | 6, w, w', v, h, hk => h
  | 7, w, w', v, h, hk => h
  | 8, w, w', v, h, hk => h
  | 9, w, w', v, h, hk => h
  | 10, w, w', v, h, hk => h
  | 11, w, w', v, h, hk => h
  | 12, w, w', v, h, hk => h
  | 13, w, w', v, h, hk => h
  | 14, w, w', v, h, hk => h
  | 15, w, w', v, h, hk => h
  | 16, w, w', v, h, hk => h
  | 17, w, w', v, ⟨a8, n8, c8, h1, h2⟩, hk => ⟨a8, n8, c8, h1, h2.step hk (fun _ _ h => h) (fun _ _ h => h)⟩
  | 18, w, w', v, h, hk => h
  | 19, w, w', v, h, hk => h
  | 20, w, w', v, h, hk => h
  | _ + 21, w, w', v, h, hk => h

set_option maxHeartbeats 4000000 in
theorem walk (w : World) (e : Int) (a : Option Addr) (n c : Nat) (l : List Int) (he : i64 e) (hl : SlAt Sh.int w a n c l) (b : Option Addr) (m d : Nat) (scr : List Hv) (hx : SlAt shVote w b m d scr) :
    Calls Try.prog 4 #[.agg #[.int .i64 e, .slice a n c], .slice b m d] w fun e w' => e = .returned (.bool true) ∧ Below w.heap.size w w' := by
  have BX := Lib.hid (below_alloc w (.cells #[.int .i64 e, .slice a n c] 24 (0, 0)))
  have KX := Lib.hid (blk_alloc w (.cells #[.int .i64 e, .slice a n c] 24 (0, 0)))
  have HL := Lib.hid (ints_of_sl hl); have HX := Lib.hid hx
  have hlen := hl.len
  have hnm : n ≤ 9223372036854775807 := Nat.le_trans hl.cap hl.max
  have hmm : m ≤ 9223372036854775807 := Nat.le_trans hx.cap hx.max
  have hnb : n * 8 ≤ 140737488355328 := hl.bytes
  have hnil : a = none → c = 0 ∧ n = 0 := fun h => ⟨hl.nil h, by have := hl.nil h; have := hl.cap; omega⟩
  have CL := Lib.hid lives15_any
  obtain ⟨i1, hi1, hc0, hc1, hc2⟩ := info_parts info_int'
  clear hl hx
  go_enter Try.func4, Try.ntmps4
  go_wp2_with fail
  refine (CL.out _).mono ?_
  rintro r w1 ⟨rfl, b1⟩
  have B1 := Lib.hid (bthen BX.out b1)
  have K1 := Lib.hid (blk_below KX.out b1)
  have k0 : w1.cell? ⟨w.heap.size, 0, none⟩ = some (.int .i64 e) := by rw [blk_cell K1.out]; rfl
  have k1 : w1.cell? ⟨w.heap.size, 1, none⟩ = some (.slice a n c) := by rw [blk_cell K1.out]; rfl
  have CN := Lib.hid (vnew_any e a n c l w1 (HL.out.below B1.out) hnil hnb he)
  clear b1 BX KX
  go_wp2_with fail
  refine CN.out.mono ?_
  rintro r w3 ⟨b3, h3⟩
  have B3 := Lib.hid (bthen B1.out b3)
  have hsz1 := blk_lt K1.out
  have K3 := Lib.hid (blk_below K1.out b3)
  clear k0 k1 CN
  have k0 : w3.cell? ⟨w.heap.size, 0, none⟩ = some (.int .i64 e) := by rw [blk_cell K3.out]; rfl
  have k1 : w3.cell? ⟨w.heap.size, 1, none⟩ = some (.slice a n c) := by rw [blk_cell K3.out]; rfl
  have CR := Lib.hid (rnew15_any e a n c l w3 (HL.out.below B3.out) hnil hnb he)
  rcases h3 with ⟨hr, M1, p, mv, mc, rfl, hM1, hT⟩ | ⟨hno, rfl⟩
  case inr =>
    clear b3 B1 K1
    go_wp2_with fail
    refine CR.out.mono ?_
    rintro r w4 ⟨b4, h4⟩
    obtain ⟨-, rfl⟩ := h4.resolve_left (fun h => by rw [hno] at h; cases h.1)
    have B4 := Lib.hid (bthen B3.out b4)
    clear b4 h4 k0 k1 CR
    go_wp2_with fail
    go_ret
    exact ⟨rfl, B4.out⟩
  have HT3 := Lib.hid hT
  have HM3 := Lib.hid (show ∀ j, M1 j → w.heap.size + 1 ≤ j from fun j hj => Nat.le_trans hsz1 (hM1 j hj))
  have HR := Lib.hid hr
  clear hM1 hT b3 B1 K1 hsz1 hr
  go_wp2_with fail
  refine CR.out.mono ?_
  rintro r w4 ⟨b4, h4⟩
  obtain ⟨-, M2, q, rfl, hM2, hT2⟩ := h4.resolve_right (fun h => by rw [HR.out] at h; cases h.1)
  have HP4 := Lib.hid (show ∃ V, Pl (w.heap.size + 1) e l p q w4.heap.size 0 false false w4 V V from ⟨[], pl_new HR.out HT3.out HM3.out b4 hT2 hM2⟩)
  have B4 := Lib.hid (bthen B3.out b4)
  have K4 := Lib.hid (blk_below K3.out b4)
  clear b4 h4 k0 k1 CR hM2 hT2 HT3 HM3 HR K3 B3
  go_wp2_with fail
  go_loopw [9] (fun i wr => ∃ k : Nat, k ≤ m ∧ i = .int .i64 k ∧ Hid (∃ V, Pl (w.heap.size + 1) e l p q wr.heap.size 0 false false wr V V) ∧ Hid (wr.heap[w.heap.size]? = some (.cells #[.int .i64 e, .slice a n c] 24 (0, 0))) ∧ Hid (Below w.heap.size w wr)) (fun i _ => m - (intOf i).toNat)
  case atStart => exact ⟨0, by omega, rfl, HP4, K4, B4⟩
  case round =>
    clear HP4 K4 B4
    obtain ⟨k, hk, rfl, HP, KC, HW⟩ := hrel
    by_cases hlt : k < m
    · obtain ⟨wl, hwl⟩ : ∃ wl : World, wl = wr := ⟨_, rfl⟩
      subst hwl
      obtain ⟨V, hP⟩ := HP.out
      have HP := Lib.hid hP
      have hd : decide ((k : Int) < (m : Int)) = true := by simp; omega
      have hj0 : (0 : Int) ≤ (k : Int) := by omega
      have hj1 : (k : Int) < (m : Int) := by omega
      obtain ⟨bb, o, x, t, nx, g, a', n', c', rfl, hy, x0, x1, x2, x3, hvi⟩ := vote_cells_old HX.out HW.out hlt
      have lx := World.block_lt x0
      have HVI := Lib.hid (hvi wl HW.out)
      have HVO := Lib.hid hvi
      clear hy hvi hP
      have ba := below_alloc wl (.cells #[.int .i64 x, .string t, .slice a' n' c', .int .i64 g] 38 (0, 0))
      have kv := blk_alloc wl (.cells #[.int .i64 x, .string t, .slice a' n' c', .int .i64 g] 38 (0, 0))
      have hz2 : (wl.alloc (.cells #[.int .i64 x, .string t, .slice a' n' c', .int .i64 g] 38 (0, 0))).heap.size = wl.heap.size + 1 := by simp
      have KV2 := Lib.hid kv; have B2 := Lib.hid ba
      go_upto_region 13 with (fail)
      generalize wl.alloc (.cells #[.int .i64 x, .string t, .slice a' n' c', .int .i64 g] 38 (0, 0)) = w2 at *
      clear ba kv x0 x1 x2 x3
      have v2 : w2.cell? ⟨wl.heap.size, 2, none⟩ = some (.slice a' n' c') := by rw [blk_cell KV2.out]; rfl
      have hvi2 := HVO.out w2 (bthen HW.out B2.out)
      have HN2 := Lib.hid hvi2.s
      have q1 : (intsV nx).length = n' * 1 := by simp [intsV, hvi2.s.len]
      have k1 : n' ≤ maxLen := by have := hvi2.s.cap; have := hvi2.s.max; simp only [maxLen]; omega
      have k2 : n' * 8 ≤ 140737488355328 := hvi2.s.bytes
      have hn1 : a' = none → n' = 0 ∧ c' = 0 := fun hn => ⟨(hvi2.nil hn).2, (hvi2.nil hn).1⟩
      clear hvi2
      go_wp2_with (first | (at_builtin; refine wpList_append_any _ rfl (.const (.slice none 0 0)) (.tmp 54) 22 rfl w2.heap.size 3 i1 (.int .i64 0) 1 8 Try.underlying22 hi1 hc0 hc1 hc2 rfl (by decide) (.slice none 0 0) 0 [] rfl (World.ownsRow_nil _ _ _ _) a' n' c' (intsV nx) rfl q1 hn1 (ints_news (ints_of_sl HN2.out)) (intsV_one nx) (by simpa using k1) (by simpa using k2) (Nat.le_refl _) ?_) | fail)
      intro v3 w3 ho3 hg3 hnl3
      clear hnl3
      obtain ⟨ao, co, rfl⟩ := owns_form ho3
      have B3 := Lib.hid (bthen B2.out (grown_below_none hg3))
      have b23 := grown_below_none hg3
      have HO3 := Lib.hid ho3
      have HN3 := Lib.hid (HN2.out.old b23)
      have KV3 := Lib.hid (blk_below KV2.out b23)
      have KC3 := Lib.hid (blk_below (blk_below KC.out B2.out) b23)
      have hz3 := b23.size
      clear ho3 hg3 b23 v2 q1 k1 k2 hn1 HN2 KV2
      have z0 : w3.cell? ⟨wl.heap.size, 0, none⟩ = some (.int .i64 x) := by rw [blk_cell KV3.out]; rfl
      have z1 : w3.cell? ⟨wl.heap.size, 1, none⟩ = some (.string t) := by rw [blk_cell KV3.out]; rfl
      have z2 : w3.cell? ⟨wl.heap.size, 2, none⟩ = some (.slice a' n' c') := by rw [blk_cell KV3.out]; rfl
      have z3 : w3.cell? ⟨wl.heap.size, 3, none⟩ = some (.int .i64 g) := by rw [blk_cell KV3.out]; rfl
      have y0 : w3.cell? ⟨w.heap.size, 0, none⟩ = some (.int .i64 e) := by rw [blk_cell KC3.out]; rfl
      have y1 : w3.cell? ⟨w.heap.size, 1, none⟩ = some (.slice a n c) := by rw [blk_cell KC3.out]; rfl
      have CS := Lib.hid (sigs15_any x t a' n' c' nx g e a n c l w3 he (HL.out.below (bthen HW.out B3.out)) HVI.out.t (ints_of_sl HN3.out) HVI.out.x)
      go_wp2_with fail
      refine CS.out.mono ?_
      rintro r w5 ⟨v5, rfl, ho5, b5⟩
      generalize hns : (sgOf g x (vS e l t nx) (vC e l t nx)).length = ns at ho5
      obtain ⟨so, sc, rfl⟩ := owns_form ho5
      have B5 := Lib.hid (bthen B3.out b5)
      have HW5 := Lib.hid (bthen HW.out B5.out)
      have hz5 := b5.size
      have hzc := blk_lt KC.out
      have hsl : ns ≤ 3 := by rw [← hns]; exact (sgOf_len g x (vS e l t nx) (vC e l t nx)).2
      have HO5 := Lib.hid (owns_old HO3.out b5); have HS5 := Lib.hid ho5
      have HP5 := Lib.hid (show Pl (w.heap.size + 1) e l p q wl.heap.size w5.heap.size false false w5.drew V V from ((HP.out.old B5.out).gap _).old (below_drewN (Below.refl _ _) 1))
      have HWR := Lib.hid (show ∀ j, Wr (w.heap.size + 1) wl.heap.size j → w.heap.size + 1 ≤ j ∧ j < wl.heap.size from fun j h => h)
      have KV5 := Lib.hid (show ∀ w', Keep (Wr (w.heap.size + 1) wl.heap.size) w5 w' → w'.heap[wl.heap.size]? = some (.cells #[.int .i64 x, .string t, .slice a' n' c', .int .i64 g] 38 (0, 0)) from fun w' hk => by
        rw [hk.block _ (blk_lt (blk_below KV3.out b5)) (fun h => by have := h.2; omega)]; exact blk_below KV3.out b5)
      have KC5 := Lib.hid (show ∀ w', Keep (Wr (w.heap.size + 1) wl.heap.size) w5 w' → w'.heap[w.heap.size]? = some (.cells #[.int .i64 e, .slice a n c] 24 (0, 0)) from fun w' hk => by
        rw [hk.block _ (blk_lt (blk_below KC3.out b5)) (fun h => by have := h.1; omega)]; exact blk_below KC3.out b5)
      have BW := Lib.hid (show ∀ w', Keep (Wr (w.heap.size + 1) wl.heap.size) w5 w' → Below w.heap.size w5 w' from fun w' hk => ⟨hk.os, hk.tape, hk.output, hk.size, fun j hj => hk.block j (by omega) (fun h => by have := h.1; omega)⟩)
      have HOK := Lib.hid (show ∀ w', Keep (Wr (w.heap.size + 1) wl.heap.size) w5 w' → w'.ownsRow (wl.heap.size + 1) 3 1 (.slice ao n' co) n' (intsV nx) from fun w' hk => owns_keep HO5.out hk (fun j hj h => by have h1 := (HO5.out.lt j hj).1; have h2 := h.2; omega))
      have HSK := Lib.hid (show ∀ w', Keep (Wr (w.heap.size + 1) wl.heap.size) w5 w' → w'.ownsRow w3.heap.size 47 2 (.slice so ns sc) ns (sigV (sgOf g x (vS e l t nx) (vC e l t nx))) from fun w' hk => owns_keep HS5.out hk (fun j hj h => by have h1 := (HS5.out.lt j hj).1; have h2 := h.2; omega))
      have HNX := Lib.hid (show ∀ w', Keep (Wr (w.heap.size + 1) wl.heap.size) w5 w' → SlAt Sh.int w' a' n' c' nx from fun w' hk => (HVO.out w' (HW5.out.trans (BW.out w' hk))).s)
      have HNR := Lib.hid (show ∀ w', Keep (Wr (w.heap.size + 1) wl.heap.size) w5 w' → Rob (Wr (w.heap.size + 1) wl.heap.size) (fun w' => SlAt Sh.int w' a' n' c' nx) w' from fun w' hk w'' hk2 => HNX.out w'' (hk.trans hk2 (fun _ _ h => h)))
      have HOW := Lib.hid (show ∀ w', Keep (Wr (w.heap.size + 1) wl.heap.size) w5 w' → SlAt Sh.int w' ao n' co nx from fun w' hk => ints_row (HOK.out w' hk) HN3.out.len (ints_of_sl HN3.out).fit HN3.out.bytes)
      have HSG := Lib.hid (show ∀ w', Keep (Wr (w.heap.size + 1) wl.heap.size) w5 w' → SlAt shSig w' so ns sc (sgOf g x (vS e l t nx) (vC e l t nx)) from fun w' hk => sigs_row (HSK.out w' hk) hns (sgOf_ok HVI.out.x HVI.out.t) (by omega))
      have hnmax : n' ≤ 9223372036854775807 := Nat.le_trans HN3.out.cap HN3.out.max
      clear ho5 b5 z0 z1 z2 z3 y0 y1 CS
      go_upto_region 15 with (fail)
      refine wp_region_stat 21 (Keep (Wr (w.heap.size + 1) wl.heap.size)) (vpJ (w.heap.size + 1) e l p q wl.heap.size V (addV e l V x t nx (sgOf g x (vS e l t nx) (vC e l t nx))) w5) (vpR w.heap.size wl.heap.size p q wl.heap.size x t ao n' co so ns sc a' n' c' g e a n c l nx V) rfl (by kernel_rfl) (by kernel_rfl) vpR_stab (⟨HP5.out, ⟨rfl, rfl, rfl, Nat.le_refl _, fun _ _ _ => rfl⟩⟩) (fun i oo hi ho => ?_) (fun vs w7 hJ7 hs => ?_)
      · intro ac wa dd hJ hd hal hcl hE hF K hK
        have z0 : wa.cell? ⟨wl.heap.size, 0, none⟩ = some (.int .i64 x) := by rw [blk_cell (KV5.out _ hJ.2)]; rfl
        have z1 : wa.cell? ⟨wl.heap.size, 1, none⟩ = some (.string t) := by rw [blk_cell (KV5.out _ hJ.2)]; rfl
        have z2 : wa.cell? ⟨wl.heap.size, 2, none⟩ = some (.slice a' n' c') := by rw [blk_cell (KV5.out _ hJ.2)]; rfl
        have z3 : wa.cell? ⟨wl.heap.size, 3, none⟩ = some (.int .i64 g) := by rw [blk_cell (KV5.out _ hJ.2)]; rfl
        have y0 : wa.cell? ⟨w.heap.size, 0, none⟩ = some (.int .i64 e) := by rw [blk_cell (KC5.out _ hJ.2)]; rfl
        have y1 : wa.cell? ⟨w.heap.size, 1, none⟩ = some (.slice a n c) := by rw [blk_cell (KC5.out _ hJ.2)]; rfl
        have hi' : i = 0 ∨ i = 1 ∨ i = 2 ∨ i = 3 ∨ i = 4 ∨ i = 5 ∨ i = 6 ∨ i = 7 ∨ i = 8 ∨ i = 9 ∨ i = 10 ∨ i = 11 ∨ i = 12 ∨ i = 13 ∨ i = 14 ∨ i = 15 ∨ i = 16 ∨ i = 17 ∨ i = 18 ∨ i = 19 ∨ i = 20 := by omega
        rcases hi' with rfl | rfl | rfl | rfl | rfl | rfl | rfl | rfl | rfl | rfl | rfl | rfl | rfl | rfl | rfl | rfl | rfl | rfl | rfl | rfl | rfl
        · obtain rfl := Option.some.inj ho
          have h1 : ac.eval (.tmp 5) = .pointer (some ⟨p, 0, none⟩) := hE 5 (by decide)
          exact news_val rfl rfl (by generalize ac.eval = ρ at h1; simp only [execOp]; go_simp) (hK _ _ (Keep.refl _ _) (vpJ_skip (by decide) (by decide) hJ) rfl)
        · obtain rfl := Option.some.inj ho
          have h1 : ac.eval (.tmp 10) = .pointer (some ⟨wl.heap.size, 0, none⟩) := hE 10 (by decide)
          exact news_val rfl rfl (by generalize ac.eval = ρ at h1; simp only [execOp]; go_simp) (hK _ _ (Keep.refl _ _) (vpJ_skip (by decide) (by decide) hJ) rfl)
        · obtain rfl := Option.some.inj ho
          have h1 : ac.eval (.tmp 60) = .pointer (some ⟨wl.heap.size, 0, none⟩) := hF ⟨1, .data⟩ (by simp) rfl 60 rfl
          exact news_val rfl rfl (by generalize ac.eval = ρ at h1; simp only [execOp]; go_simp) (hK _ _ (Keep.refl _ _) (vpJ_skip (by decide) (by decide) hJ) rfl)
        · obtain rfl := Option.some.inj ho
          have h1 : ac.eval (.tmp 10) = .pointer (some ⟨wl.heap.size, 0, none⟩) := hE 10 (by decide)
          exact news_val rfl rfl (by generalize ac.eval = ρ at h1; simp only [execOp]; go_simp) (hK _ _ (Keep.refl _ _) (vpJ_skip (by decide) (by decide) hJ) rfl)
        · obtain rfl := Option.some.inj ho
          have h1 : ac.eval (.tmp 62) = .pointer (some ⟨wl.heap.size, 1, none⟩) := hF ⟨3, .data⟩ (by simp) rfl 62 rfl
          exact news_val rfl rfl (by generalize ac.eval = ρ at h1; simp only [execOp]; go_simp) (hK _ _ (Keep.refl _ _) (vpJ_skip (by decide) (by decide) hJ) rfl)
        · obtain rfl := Option.some.inj ho
          have h1 : ac.eval (.tmp 11) = .slice ao n' co := hE 11 (by decide)
          exact news_val rfl rfl (by generalize ac.eval = ρ at h1; simp only [execOp]; go_simp) (hK _ _ (Keep.refl _ _) (vpJ_skip (by decide) (by decide) hJ) rfl)
        · obtain rfl := Option.some.inj ho
          have h1 : ac.eval (.tmp 12) = .slice so ns sc := hE 12 (by decide)
          exact news_val rfl rfl (by generalize ac.eval = ρ at h1; simp only [execOp]; go_simp) (hK _ _ (Keep.refl _ _) (vpJ_skip (by decide) (by decide) hJ) rfl)
        · obtain rfl := Option.some.inj ho
          have h1 : ac.eval (.tmp 59) = .pointer (some ⟨p, 0, none⟩) := hF ⟨0, .data⟩ (by simp) rfl 59 rfl
          have h2 : ac.eval (.tmp 61) = .int .i64 x := hF ⟨2, .data⟩ (by simp) rfl 61 rfl
          have h3 : ac.eval (.tmp 63) = .string t := hF ⟨4, .data⟩ (by simp) rfl 63 rfl
          have h4 : ac.eval (.tmp 64) = .slice ao n' co := hF ⟨5, .data⟩ (by simp) rfl 64 rfl
          have h5 : ac.eval (.tmp 65) = .slice so ns sc := hF ⟨6, .data⟩ (by simp) rfl 65 rfl
          have hf : ac.eval (.func 15) = .func (.func 15) #[] #[] := rfl
          have hP := hJ.1
          rw [hd] at hP
          simp only [Bool.false_eq_true, if_false] at hP
          refine made_call rfl rfl 15 #[.pointer (some ⟨p, 0, none⟩), .int .i64 x, .string t, .slice ao n' co, .slice so ns sc] (by generalize ac.eval = ρ at h1 h2 h3 h4 h5 hf; simp only [execOp]; go_simp) (Pl.add hP hJ.2.size x t ao n' co nx so ns sc (sgOf g x (vS e l t nx) (vC e l t nx)) HVI.out.x HVI.out.t (HOW.out _ hJ.2) (HSG.out _ hJ.2)) ?_
          rintro r w8 ⟨rfl, hk8, hp8⟩
          exact ⟨_, rfl, hK _ _ hk8 (vpJ_add hJ hd hk8 hp8) rfl⟩
        · obtain rfl := Option.some.inj ho
          have h1 : ac.eval (.tmp 7) = .pointer (some ⟨q, 0, none⟩) := hE 7 (by decide)
          exact news_val rfl rfl (by generalize ac.eval = ρ at h1; simp only [execOp]; go_simp) (hK _ _ (Keep.refl _ _) (vpJ_skip (by decide) (by decide) hJ) rfl)
        · obtain rfl := Option.some.inj ho
          have h1 : ac.eval (.tmp 10) = .pointer (some ⟨wl.heap.size, 0, none⟩) := hE 10 (by decide)
          exact news_val rfl rfl (by generalize ac.eval = ρ at h1; simp only [execOp]; go_simp) (hK _ _ (Keep.refl _ _) (vpJ_skip (by decide) (by decide) hJ) rfl)
        · obtain rfl := Option.some.inj ho
          have h1 : ac.eval (.tmp 68) = .pointer (some ⟨wl.heap.size, 0, none⟩) := hF ⟨9, .data⟩ (by simp) rfl 68 rfl
          exact news_val rfl rfl (by generalize ac.eval = ρ at h1; simp only [execOp]; go_simp) (hK _ _ (Keep.refl _ _) (vpJ_skip (by decide) (by decide) hJ) rfl)
        · obtain rfl := Option.some.inj ho
          have h1 : ac.eval (.tmp 10) = .pointer (some ⟨wl.heap.size, 0, none⟩) := hE 10 (by decide)
          exact news_val rfl rfl (by generalize ac.eval = ρ at h1; simp only [execOp]; go_simp) (hK _ _ (Keep.refl _ _) (vpJ_skip (by decide) (by decide) hJ) rfl)
        · obtain rfl := Option.some.inj ho
          have h1 : ac.eval (.tmp 70) = .pointer (some ⟨wl.heap.size, 1, none⟩) := hF ⟨11, .data⟩ (by simp) rfl 70 rfl
          exact news_val rfl rfl (by generalize ac.eval = ρ at h1; simp only [execOp]; go_simp) (hK _ _ (Keep.refl _ _) (vpJ_skip (by decide) (by decide) hJ) rfl)
        · obtain rfl := Option.some.inj ho
          have h1 : ac.eval (.tmp 10) = .pointer (some ⟨wl.heap.size, 0, none⟩) := hE 10 (by decide)
          exact news_val rfl rfl (by generalize ac.eval = ρ at h1; simp only [execOp]; go_simp) (hK _ _ (Keep.refl _ _) (vpJ_skip (by decide) (by decide) hJ) rfl)
        · obtain rfl := Option.some.inj ho
          have h1 : ac.eval (.tmp 72) = .pointer (some ⟨wl.heap.size, 2, none⟩) := hF ⟨13, .data⟩ (by simp) rfl 72 rfl
          exact news_val rfl rfl (by generalize ac.eval = ρ at h1; simp only [execOp]; go_simp) (hK _ _ (Keep.refl _ _) (vpJ_skip (by decide) (by decide) hJ) rfl)
        · obtain rfl := Option.some.inj ho
          have h1 : ac.eval (.tmp 10) = .pointer (some ⟨wl.heap.size, 0, none⟩) := hE 10 (by decide)
          exact news_val rfl rfl (by generalize ac.eval = ρ at h1; simp only [execOp]; go_simp) (hK _ _ (Keep.refl _ _) (vpJ_skip (by decide) (by decide) hJ) rfl)
        · obtain rfl := Option.some.inj ho
          have h1 : ac.eval (.tmp 2) = .pointer (some ⟨w.heap.size, 0, none⟩) := hE 2 (by decide)
          exact news_val rfl rfl (by generalize ac.eval = ρ at h1; simp only [execOp]; go_simp) (hK _ _ (Keep.refl _ _) (vpJ_skip (by decide) (by decide) hJ) rfl)
        · obtain rfl := Option.some.inj ho
          have h1 : ac.eval (.tmp 74) = .agg #[.int .i64 x, .string t, .slice a' n' c', .int .i64 g] := hF ⟨15, .data⟩ (by simp) rfl 74 rfl
          have h2 : ac.eval (.tmp 75) = .agg #[.int .i64 e, .slice a n c] := hF ⟨16, .data⟩ (by simp) rfl 75 rfl
          have hf : ac.eval (.func 14) = .func (.func 14) #[] #[] := rfl
          refine made_call rfl rfl 14 #[.agg #[.int .i64 x, .string t, .slice a' n' c', .int .i64 g], .agg #[.int .i64 e, .slice a n c]] (by generalize ac.eval = ρ at h1 h2 hf; simp only [execOp]; go_simp) (sigs15_any x t a' n' c' nx g e a n c l wa he (HL.out.below (HW5.out.trans (BW.out _ hJ.2))) HVI.out.t (ints_of_sl (HNX.out _ hJ.2)) HVI.out.x) ?_
          rintro r w8 ⟨v8, rfl, ho8, b8⟩
          obtain ⟨a8, c8, rfl⟩ := owns_form ho8
          exact ⟨_, rfl, hK _ _ (Keep.of_below b8) (vpJ_skip (by decide) (by decide) (vpJ_old hJ b8)) ⟨a8, _, c8, rfl, fun w' hk' => sigs_row (owns_keep ho8 hk' (fun j hj hy => by have h1 := (ho8.lt j hj).1; have h2 := hy.2; have h3 := hJ.2.size; omega)) rfl (sgOf_ok HVI.out.x HVI.out.t) (by have := sgOf_len g x (vS e l t nx) (vC e l t nx); omega)⟩⟩
        · obtain rfl := Option.some.inj ho
          have h1 : ac.eval (.tmp 67) = .pointer (some ⟨q, 0, none⟩) := hF ⟨8, .data⟩ (by simp) rfl 67 rfl
          have h2 : ac.eval (.tmp 69) = .int .i64 x := hF ⟨10, .data⟩ (by simp) rfl 69 rfl
          have h3 : ac.eval (.tmp 71) = .string t := hF ⟨12, .data⟩ (by simp) rfl 71 rfl
          have h4 : ac.eval (.tmp 73) = .slice a' n' c' := hF ⟨14, .data⟩ (by simp) rfl 73 rfl
          obtain ⟨a8, n8, c8, h5, hs8⟩ : ∃ a8 n8 c8, (ac.eval (.tmp 76)) = .slice a8 n8 c8 ∧ Rob (Wr (w.heap.size + 1) wl.heap.size) (fun wa' => SlAt shSig wa' a8 n8 c8 (sgOf g x (vS e l t nx) (vC e l t nx))) wa := hF ⟨17, .data⟩ (by simp) rfl 76 rfl
          have hf : ac.eval (.func 16) = .func (.func 16) #[] #[] := rfl
          have hP := hJ.1
          rw [hd] at hP
          simp only [Bool.false_eq_true, if_false] at hP
          refine made_call rfl rfl 16 #[.pointer (some ⟨q, 0, none⟩), .int .i64 x, .string t, .slice a' n' c', .slice a8 n8 c8] (by generalize ac.eval = ρ at h1 h2 h3 h4 h5 hf; simp only [execOp]; go_simp) (Pl.radd hP hJ.2.size x t a' n' c' nx a8 n8 c8 (sgOf g x (vS e l t nx) (vC e l t nx)) HVI.out.x HVI.out.t (HNR.out _ hJ.2) hs8) ?_
          rintro r w8 ⟨rfl, hk8, hp8⟩
          exact ⟨_, rfl, hK _ _ hk8 (vpJ_radd hJ hd hk8 hp8) rfl⟩
        · obtain rfl := Option.some.inj ho
          obtain h1 : (ac.eval (.tmp 66)) = .int .i64 (addE e l V x t nx (sgOf g x (vS e l t nx) (vC e l t nx))) := hF ⟨7, .data⟩ (by simp) rfl 66 rfl
          obtain h2 : (ac.eval (.tmp 77)) = .int .i64 (addE e l V x t nx (sgOf g x (vS e l t nx) (vC e l t nx))) := hF ⟨18, .data⟩ (by simp) rfl 77 rfl
          exact news_val rfl rfl (by generalize ac.eval = ρ at h1 h2; simp only [execOp]; go_simp) (hK _ _ (Keep.refl _ _) (vpJ_skip (by decide) (by decide) hJ) rfl)
        · obtain rfl := Option.some.inj ho
          have h1 : ac.eval (.tmp 78) = .bool false := hF ⟨19, .data⟩ (by simp) rfl 78 rfl
          exact news_val rfl rfl (by generalize ac.eval = ρ at h1; simp only [execOp]; go_simp) (hK _ _ (Keep.refl _ _) (vpJ_skip (by decide) (by decide) hJ) rfl)
      · have e0 : vs 0 = _ := hs 0 (by omega)
        have e1 : vs 1 = _ := hs 1 (by omega)
        have e2 : vs 2 = _ := hs 2 (by omega)
        have e3 : vs 3 = _ := hs 3 (by omega)
        have e4 : vs 4 = _ := hs 4 (by omega)
        have e5 : vs 5 = _ := hs 5 (by omega)
        have e6 : vs 6 = _ := hs 6 (by omega)
        obtain e7 : (vs 7) = .int .i64 (addE e l V x t nx (sgOf g x (vS e l t nx) (vC e l t nx))) := hs 7 (by omega)
        have e8 : vs 8 = _ := hs 8 (by omega)
        have e9 : vs 9 = _ := hs 9 (by omega)
        have e10 : vs 10 = _ := hs 10 (by omega)
        have e11 : vs 11 = _ := hs 11 (by omega)
        have e12 : vs 12 = _ := hs 12 (by omega)
        have e13 : vs 13 = _ := hs 13 (by omega)
        have e14 : vs 14 = _ := hs 14 (by omega)
        have e15 : vs 15 = _ := hs 15 (by omega)
        have e16 : vs 16 = _ := hs 16 (by omega)
        obtain ⟨a8, n8, c8, e17, hs8⟩ : ∃ a8 n8 c8, (vs 17) = .slice a8 n8 c8 ∧ Rob (Wr (w.heap.size + 1) wl.heap.size) (fun w7' => SlAt shSig w7' a8 n8 c8 (sgOf g x (vS e l t nx) (vC e l t nx))) w7 := hs 17 (by omega)
        obtain e18 : (vs 18) = .int .i64 (addE e l V x t nx (sgOf g x (vS e l t nx) (vC e l t nx))) := hs 18 (by omega)
        have e19 : vs 19 = _ := hs 19 (by omega)
        have e20 : vs 20 = _ := hs 20 (by omega)
        show wpAny _ _ _ _ _ _ (((((((((((((((((((((Act.put _ (some 59) (vs 0)).put (some 60) (vs 1)).put (some 61) (vs 2)).put (some 62) (vs 3)).put (some 63) (vs 4)).put (some 64) (vs 5)).put (some 65) (vs 6)).put (some 66) (vs 7)).put (some 67) (vs 8)).put (some 68) (vs 9)).put (some 69) (vs 10)).put (some 70) (vs 11)).put (some 71) (vs 12)).put (some 72) (vs 13)).put (some 73) (vs 14)).put (some 74) (vs 15)).put (some 75) (vs 16)).put (some 76) (vs 17)).put (some 77) (vs 18)).put (some 78) (vs 19)).put (some 79) (vs 20)) _
        rw [e0, e1, e2, e3, e4, e5, e6, e7, e8, e9, e10, e11, e12, e13, e14, e15, e16, e17, e18, e19, e20]
        clear e0 e1 e2 e3 e4 e5 e6 e7 e8 e9 e10 e11 e12 e13 e14 e15 e16 e17 e18 e19 e20 hs vs
        have hp7 := hJ7.1
        simp only [show decide ((7 : Nat) < 21) = true from rfl, show decide ((18 : Nat) < 21) = true from rfl, if_true] at hp7
        have hk7 := hJ7.2
        have HP7 := Lib.hid hp7
        have BW7 := Lib.hid (HW5.out.trans (BW.out w7 hk7))
        have KC7 := Lib.hid (KC5.out w7 hk7)
        have OW7 := Lib.hid (owns_ownw (HOK.out w7 hk7))
        have SW7 := Lib.hid (owns_ownws (HSK.out w7 hk7))
        have HOL := Lib.hid (show ∀ j, ao = some ⟨j, 0, none⟩ → wl.heap.size ≤ j ∧ j < w5.heap.size from fun j hj => by
          have h := HO5.out.lt j (by rw [hj]; rfl)
          omega)
        have HSLL := Lib.hid (show ∀ j, so = some ⟨j, 0, none⟩ → wl.heap.size ≤ j ∧ j < w5.heap.size from fun j hj => by
          have h := HS5.out.lt j (by rw [hj]; rfl)
          omega)
        clear hJ7 hp7 hk7 hs8 HP5 HWR KV5 KC5 BW HOK HSK HNX HNR HOW HSG HO5 HS5 HO3 HN3 KV3 KC3 KC HP HVO HVI B2 B3 B5 HW5
        generalize addV e l V x t nx (sgOf g x (vS e l t nx) (vC e l t nx)) = V' at *
        generalize addE e l V x t nx (sgOf g x (vS e l t nx) (vC e l t nx)) = z7 at *
        obtain ⟨e', aq, nq', cq, al, cl, hq⟩ := HP7.out.row
        have q2 : w7.cell? ⟨q, 2, none⟩ = some (.slice al V'.length cl) := by rw [blk_cell hq]; rfl
        have lq := blk_lt hq
        have CCO := Lib.hid (fun w' (hb : Below w7.heap.size w7 w') => (HP7.out.old hb).count)
        clear hq
        simp only [Act.put, List.setIfInBounds_toArray, List.set_cons_succ, List.set_cons_zero]
        refine wpAny_seg (Below w7.heap.size w7) 21 30 _ (by kernel_rfl) rfl rfl (Below.refl _ _) ?_
        repeat (refine wpQuiet_step (fun K hK => ?_); go_simp; first | (refine hK _ ?_; clear hK K) | (apply Exists.intro; refine ⟨fun w' hw' => ?_, hK _ ?_⟩; (first | (go_at_call 17; exact Calls.quiet_below_same hw' (CCO.out _ hw')) | (with_reducible rfl) | (obtain ⟨cc, dd⟩ := bcell hw'; go_simp; rfl)); clear hK K))
        refine wpQuiet_nil ?_
        intro w8 h8
        refine wpAny_end rfl ?_
        have HP8 := Lib.hid (HP7.out.old h8)
        have BW8 := Lib.hid (bthen BW7.out h8)
        have KC8 := Lib.hid (blk_below KC7.out h8)
        have OW8 := Lib.hid (ownw_shp OW7.out (.of_below h8))
        have SW8 := Lib.hid (ownw_shp SW7.out (.of_below h8))
        have hz58 : w5.heap.size ≤ w5.heap.size := Nat.le_refl _
        have HK0 := Lib.hid (Keep.refl (fun k => wl.heap.size ≤ k ∧ k < w5.heap.size) w8)
        have HS0 := Lib.hid (Shp.refl w8)
        clear h8 q2 lq CCO HP7 BW7 KC7 OW7 SW7
        go_wp2_with fail
        go_loopw [13] (fun i wr => ∃ j : Nat, j ≤ n' ∧ i = .int .i64 j ∧ Hid (Keep (fun k => wl.heap.size ≤ k ∧ k < w5.heap.size) w8 wr) ∧ Hid (Shp w8 wr)) (fun i _ => n' - (intOf i).toNat)
        case atStart => exact ⟨0, by omega, rfl, HK0, HS0⟩
        case round =>
          clear HK0 HS0
          obtain ⟨j, hj, rfl, HK, HS⟩ := hrel
          by_cases hlt2 : j < n'
          · obtain ⟨g1, cur, v, rfl, hB, hc, hf, hg⟩ := ownw_at (ownw_shp OW8.out HS.out) j hlt2
            have HK2 := Lib.hid (HK.out.set (p := g1) (.inr (HOL.out g1 rfl)) j (.int .i64 (-9)))
            have HS2 := Lib.hid (HS.out.trans (Shp.set wr g1 j (.int .i64 (-9))))
            have hj2 : (0 : Int) ≤ (j : Int) := by omega
            have hj3 : (j : Int) < (n' : Int) := by omega
            clear hg hB HK HS
            go_wp2_with fail
            go_roundw
            case rel => exact ⟨j + 1, by omega, by go_num, HK2, HS2⟩
            case measure => simp [intOf]; omega
          · obtain rfl : j = n' := by omega
            obtain ⟨wo, hwo⟩ : ∃ wo : World, wo = wr := ⟨_, rfl⟩
            subst hwo
            go_wp2_with fail
            go_loopw [14] (fun i wr => ∃ j : Nat, j ≤ ns ∧ i = .int .i64 j ∧ Hid (Keep (fun k => wl.heap.size ≤ k ∧ k < w5.heap.size) w8 wr) ∧ Hid (Shp w8 wr)) (fun i _ => ns - (intOf i).toNat)
            case atStart => exact ⟨0, by omega, rfl, HK, HS⟩
            case round =>
              clear HK HS
              obtain ⟨i, hi, rfl, HK, HS⟩ := hrel
              by_cases hlt3 : i < ns
              · obtain ⟨g1, cur, v, rfl, hB, hc, hf, hg⟩ := ownw_at (ownw_shp SW8.out HS.out) (i * 2) (by omega)
                have HK2 := Lib.hid (HK.out.set (p := g1) (.inr (HSLL.out g1 rfl)) (i * 2) (.int .i64 (-9)))
                have HS2 := Lib.hid (HS.out.trans (Shp.set wr g1 (i * 2) (.int .i64 (-9))))
                have hj2 : (0 : Int) ≤ (i : Int) := by omega
                have hj3 : (i : Int) < (ns : Int) := by omega
                clear hg hB HK HS
                go_wp2_with fail
                go_roundw
                case rel => exact ⟨i + 1, by omega, by go_num, HK2, HS2⟩
                case measure => simp [intOf]; omega
              · have HP9 := Lib.hid (HP8.out.keep HK.out (fun j hj => hj))
                have hzz := BW8.out.size
                have hlc := blk_lt KC8.out
                have BW9 := Lib.hid (BW8.out.trans (below_keep HK.out hzz (fun j hj => by have := hj.1; omega)))
                have KC9 := Lib.hid ((HK.out.block _ hlc (fun h => by have := h.1; omega)).trans KC8.out)
                clear HK HS HP8 BW8 KC8 OW8 SW8 HOL HSLL hzz hlc
                have CS1 := HP9.out.sets
                go_wp2_with fail
                refine CS1.mono ?_
                intro r w11 h11
                obtain ⟨b11, a1, n1, c1, a2, n2, c2, a3, n3, c3, rfl, G1, G2, G3⟩ := set_all h11
                have ba := below_alloc w11 (.cells #[.string (outT l V'), .slice a1 n1 c1, .int .i64 (outE e l V'), .slice a2 n2 c2, .slice a3 n3 c3] 51 (0, 0))
                have KS := Lib.hid (blk_alloc w11 (.cells #[.string (outT l V'), .slice a1 n1 c1, .int .i64 (outE e l V'), .slice a2 n2 c2, .slice a3 n3 c3] 51 (0, 0)))
                have H1 := Lib.hid (G1.old ba); have H2 := Lib.hid (G2.old ba); have H3 := Lib.hid (G3.old ba)
                have b12 := bthen b11 ba
                have HP12 := Lib.hid (HP9.out.old b12)
                have BW12 := Lib.hid (bthen BW9.out b12)
                have KC12 := Lib.hid (blk_below KC9.out b12)
                clear h11 b11 ba G1 G2 G3 b12 CS1 HP9 BW9 KC9
                go_upto_region 26 with (fail)
                generalize w11.alloc (.cells #[.string (outT l V'), .slice a1 n1 c1, .int .i64 (outE e l V'), .slice a2 n2 c2, .slice a3 n3 c3] 51 (0, 0)) = w12 at *
                generalize w11.heap.size = s1 at *
                have CS2 := HP12.out.rsets
                go_wp2_with fail
                refine CS2.mono ?_
                intro r w13 h13
                obtain ⟨b13, d1, m1, f1, d2, m2, f2, d3, m3, f3, rfl, G1, G2, G3⟩ := set_all h13
                have ba := below_alloc w13 (.cells #[.string (outT l V'), .slice d1 m1 f1, .int .i64 (outE e l V'), .slice d2 m2 f2, .slice d3 m3 f3] 54 (0, 0))
                have KR := Lib.hid (blk_alloc w13 (.cells #[.string (outT l V'), .slice d1 m1 f1, .int .i64 (outE e l V'), .slice d2 m2 f2, .slice d3 m3 f3] 54 (0, 0)))
                have b14 := bthen b13 ba
                have CSM := Lib.hid (fun (w' : World) (hb : Below (w13.alloc (.cells #[.string (outT l V'), .slice d1 m1 f1, .int .i64 (outE e l V'), .slice d2 m2 f2, .slice d3 m3 f3] 54 (0, 0))).heap.size (w13.alloc (.cells #[.string (outT l V'), .slice d1 m1 f1, .int .i64 (outE e l V'), .slice d2 m2 f2, .slice d3 m3 f3] 54 (0, 0))) w') =>
                  same15_yes (outT l V') a1 n1 c1 (outE e l V') a2 n2 c2 a3 n3 c3 d1 m1 f1 d2 m2 f2 d3 m3 f3 (outA e l V') (outN l V') (outC e l V') w' ((H1.out.old b14).old hb) ((H2.out.old b14).old hb) ((H3.out.old b14).old hb) ((G1.old ba).old hb) ((G2.old ba).old hb) ((G3.old ba).old hb))
                have KS14 := Lib.hid (blk_below KS.out b14)
                have HP14 := Lib.hid (HP12.out.old b14)
                have BW14 := Lib.hid (bthen BW12.out b14)
                have KC14 := Lib.hid (blk_below KC12.out b14)
                clear h13 b13 ba G1 G2 G3 b14 CS2 HP12 BW12 KC12 H1 H2 H3 KS
                go_upto_region 27 with (fail)
                generalize w13.alloc (.cells #[.string (outT l V'), .slice d1 m1 f1, .int .i64 (outE e l V'), .slice d2 m2 f2, .slice d3 m3 f3] 54 (0, 0)) = w14 at *
                generalize w13.heap.size = s2 at *
                generalize outT l V' = oT at *
                generalize outE e l V' = oE at *
                generalize (winner l V').isSome = oS at *
                have e0 : w14.cell? ⟨s1, 0, none⟩ = some (.string oT) := by rw [blk_cell KS14.out]; rfl
                have e1 : w14.cell? ⟨s1, 1, none⟩ = some (.slice a1 n1 c1) := by rw [blk_cell KS14.out]; rfl
                have e2 : w14.cell? ⟨s1, 2, none⟩ = some (.int .i64 oE) := by rw [blk_cell KS14.out]; rfl
                have e3 : w14.cell? ⟨s1, 3, none⟩ = some (.slice a2 n2 c2) := by rw [blk_cell KS14.out]; rfl
                have e4 : w14.cell? ⟨s1, 4, none⟩ = some (.slice a3 n3 c3) := by rw [blk_cell KS14.out]; rfl
                have r0 : w14.cell? ⟨s2, 0, none⟩ = some (.string oT) := by rw [blk_cell KR.out]; rfl
                have r1 : w14.cell? ⟨s2, 1, none⟩ = some (.slice d1 m1 f1) := by rw [blk_cell KR.out]; rfl
                have r2 : w14.cell? ⟨s2, 2, none⟩ = some (.int .i64 oE) := by rw [blk_cell KR.out]; rfl
                have r3 : w14.cell? ⟨s2, 3, none⟩ = some (.slice d2 m2 f2) := by rw [blk_cell KR.out]; rfl
                have r4 : w14.cell? ⟨s2, 4, none⟩ = some (.slice d3 m3 f3) := by rw [blk_cell KR.out]; rfl
                have CSS := CSM.out w14 (Below.refl _ _)
                go_wp2_with fail
                refine CSS.mono ?_
                rintro r w15 ⟨rfl, b15⟩
                have HP15 := Lib.hid ((HP14.out.old b15).fresh 0)
                have BW15 := Lib.hid (bthen BW14.out b15)
                have KC15 := Lib.hid (blk_below KC14.out b15)
                have HPF := Lib.hid (show ∃ V, Pl (w.heap.size + 1) e l p q w15.heap.size 0 false false w15 V V from ⟨V', HP15.out⟩)
                clear b15 CSS CSM e0 e1 e2 e3 e4 r0 r1 r2 r3 r4 HP14 BW14 KC14 KS14 KR HP15
                go_wp2_with fail
                go_roundw
                case rel => exact ⟨k + 1, by omega, by go_num, HPF, KC15, BW15⟩
                case measure => simp [intOf]; omega
    · go_wp2_with fail
      go_ret
      exact ⟨rfl, HW.out⟩

set_option maxRecDepth 100000 in
theorem lifted (os : Os) (started : os.Started) (H : Type) (enc : TypeId × Value → H) :
    ReturnsInHanded {} Try.checked os 4 .any (Rows.votesPlaysSpec.pre6 enc Try.prog Try.f4 Rows.votesPlaysRow.domain false) (Rows.votesPlaysSpec.post enc Try.prog Try.f4 false true false false) := by
  refine returnsInHanded_of_change_sized (C := Try.checked) own started (by kernel_rfl) Try.func4
    (ChangeSpec.witness6 (enc := enc) (C := Try.checked) false ⟨#[], #[.agg #[.int .i64 0, .slice none 0 0], .slice none 0 0], []⟩ 8 (by kernel_rfl) (by kernel_rfl) (by kernel_rfl) (by kernel_rfl)) ?_
  intro W base args ds gs before hval0 hW hcnd hsz _
  have hval : ∀ (j : Nat) t v, Try.f4.params[j]? = some t → args[j]? = some v → Value.okWide Try.prog W .any base t v := hval0
  have hW' := hW
  obtain ⟨p, q, hA0, hV, rfl, hfz, hnd⟩ := hW
  have hA : DataW.TrodAll enc Try.prog W 0 (fun _ => true) true Try.f4.params.toList args.toList ds p := hA0
  rw [Try.params4] at hA hval hsz
  have hA2 := hA
  obtain ⟨v0, vs0, d0, ds0, p0, q0, hargs, rfl, rfl, h0, r0⟩ := trodAll_cons hA
  obtain ⟨v1, vs1, d1, ds1, p1, q1, rfl, rfl, rfl, h1, r1⟩ := trodAll_cons r0
  obtain ⟨rfl, rfl, rfl⟩ := trodAll_nil r1
  obtain rfl : args = #[v0, v1] := by cases args; simp_all
  obtain ⟨rfl, rfl⟩ := trodVars_none hV
  clear hargs
  have k0 := hval 0 24 v0 rfl rfl
  obtain ⟨fu0, m0⟩ := h0
  have w0 := weights_of hsz (j := 0) (t := 24) rfl rfl
  have F0 : Fit Try.prog 24 d0 := .inl w0
  have s0 := cells_agg Try.underlying24 k0
  obtain ⟨y0, E0, g0⟩ := vwConf.2.2 m0 F0
  obtain ⟨p0, l0, a0, n0, c0, rfl, e0, f0, j0⟩ := conf_open E0
  obtain ⟨z0, s01, s02⟩ := s0
  have e0' := agg_of ⟨s01, s02⟩ e0
  subst e0'
  have k1 := hval 1 30 v1 rfl rfl
  obtain ⟨fu1, m1⟩ := h1
  have w1 := weights_of hsz (j := 1) (t := 30) rfl rfl
  have F1 : Fit Try.prog 30 d1 := .inl w1
  obtain ⟨l1, ⟨a1, n1, c1, e1, f1⟩, g1⟩ := vwVotes.2.2 m1 F1
  have e1' := slice_of Try.underlying30 k1 e1
  subst e1'
  refine (walk W p0 a0 n0 c0 l0 f0 j0 a1 n1 c1 l1 f1).mono fun e W' ⟨he, bel⟩ => ?_
  subst he
  exact ⟨_, rfl, _, _, _, [], _, [], hW', trodAll_mk1 (shut_bool Try.underlying4 _), trodAll_again laidOut bel (by kernel_rfl) hA2, rfl, bel.frame _, fun h => by cases h⟩

theorem over : Rows.votesPlaysRow.holds Try.pinned (OpenSpec.ofChange Rows.votesPlaysSpec) :=
  OpenClaim.holds_of_wide 4 Try.f4 rfl rfl rfl rfl rfl rfl rfl ⟨rfl, rfl, rfl, rfl, rfl⟩ rfl rfl rfl rfl rfl (by kernel_rfl) Try.func4 (by kernel_rfl)
    (of_decide_eq_true (by kernel_rfl)) (by unfold Func.isWrapper; first | (rw [if_pos (by decide +kernel)]; kernel_rfl) | (rw [if_neg (by decide +kernel)]; exact ⟨rfl, rfl⟩))
    (fun os started H enc _ => lifted os started H enc)

theorem proved : Rows.VotesPlaysSaid := over
#print axioms proved
end Go.Proofs.Ytfhbjajhmegdmaa.votesPlays
