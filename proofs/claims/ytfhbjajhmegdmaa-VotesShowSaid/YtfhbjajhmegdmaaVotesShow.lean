
/- VotesShow: what is settled is shown by proofs, and it stays settled: for every input the law returns true, and its arguments read as before. No condition. -/
import Derived.Test.YtfhbjajhmegdmaaVtS
import Derived.Test.YtfhbjajhmegdmaaLift
namespace Go.Proofs.Ytfhbjajhmegdmaa.votesShow
set_option maxRecDepth 100000
open Go.ChangeShapes Go.WideShapes Go.ChangeAt Go.RowKit
attribute [local irreducible] wpQuiet
set_option linter.unusedVariables false
set_option linter.unusedSimpArgs false

/-- What is settled, in one form. -/
structure SetG (e : Int) (l : List Int) (V : List Vt) (X : Nat → Prop) (w : World) (tx : ByteArray) (a1 : Option Addr) (n1 c1 : Nat) (ep : Int) (a2 : Option Addr) (n2 c2 : Nat) (a3 : Option Addr) (n3 c3 : Nat) : Prop where
  none : winner l V = none → n1 = 0
  some : ∀ y, winner l V = some y → tx = y.1 ∧ ep = e + 1 ∧ Rob X (fun w' => SlAt shSig w' a1 n1 c1 ((who l V y).map fun x => (x, stS e y.1)) ∧ SlAt Sh.int w' a2 n2 c2 y.2 ∧ SlAt shSig w' a3 n3 c3 ((who l V y).map fun x => (x, textS (e + 1) y.2))) w
theorem SetG.step {e : Int} {l : List Int} {V : List Vt} {X X' Y : Nat → Prop} {w w' : World} {tx : ByteArray} {a1 : Option Addr} {n1 c1 : Nat} {ep : Int} {a2 : Option Addr} {n2 c2 : Nat} {a3 : Option Addr} {n3 c3 : Nat} (h : SetG e l V X w tx a1 n1 c1 ep a2 n2 c2 a3 n3 c3)
    (hk : Keep Y w w') (hY : ∀ k, k < w.heap.size → Y k → X k) (hX : ∀ k, k < w.heap.size → X' k → X k) : SetG e l V X' w' tx a1 n1 c1 ep a2 n2 c2 a3 n3 c3 :=
  ⟨h.none, fun y hy => ⟨(h.some y hy).1, (h.some y hy).2.1, (h.some y hy).2.2.step hk hY hX⟩⟩
theorem set_gen {e : Int} {l : List Int} {V : List Vt} {w w' : World} {r : Ending} (h : SetPost e l V w r w') : Below w.heap.size w w' ∧ ∃ tx a1 n1 c1 ep a2 n2 c2 a3 n3 c3, r = .returned (.tuple #[.agg #[.string tx, .slice a1 n1 c1, .int .i64 ep, .slice a2 n2 c2, .slice a3 n3 c3], .bool (winner l V).isSome]) ∧
    SetG e l V (fun k => k < w.heap.size) w' tx a1 n1 c1 ep a2 n2 c2 a3 n3 c3 := by
  obtain ⟨hb, h⟩ := h
  refine ⟨hb, ?_⟩
  cases hw : winner l V with
  | none =>
    rw [hw] at h
    exact ⟨_, none, 0, 0, _, none, 0, 0, none, 0, 0, h, ⟨fun _ => rfl, fun y hy => (by rw [hw] at hy; cases hy)⟩⟩
  | some y =>
    rw [hw] at h
    obtain ⟨a1, c1, a2, n2, c2, a3, c3, h1, h2⟩ := h
    exact ⟨_, a1, _, c1, _, a2, n2, c2, a3, _, c3, h1, ⟨fun hn => (by rw [hw] at hn; cases hn), fun z hz => by
      rw [hw] at hz
      injection hz with hz
      subst hz
      exact ⟨rfl, rfl, h2⟩⟩⟩
theorem win_nil (l : List Int) : winner l [] = none := rfl
def showR (p bb o m d k : Nat) (x : Int) (t : ByteArray) (a' : Option Addr) (n' c' : Nat) (q e : Int) (a : Option Addr) (n c : Nat) (l nx : List Int) : Nat → World → Value → Prop
  | 0 => fun _ v => v = .pointer (some ⟨p, 0, none⟩)
  | 1 => fun _ v => v = .slice (some ⟨bb, o, none⟩) m d
  | 2 => fun _ v => v = .int .i64 (k : Int)
  | 3 => fun _ v => v = .pointer (some ⟨bb, o + k * 4, none⟩)
  | 4 => fun _ v => v = .pointer (some ⟨bb, o + k * 4, none⟩)
  | 5 => fun _ v => v = .int .i64 x
  | 6 => fun _ v => v = .slice (some ⟨bb, o, none⟩) m d
  | 7 => fun _ v => v = .int .i64 (k : Int)
  | 8 => fun _ v => v = .pointer (some ⟨bb, o + k * 4, none⟩)
  | 9 => fun _ v => v = .pointer (some ⟨bb, o + k * 4 + 1, none⟩)
  | 10 => fun _ v => v = .string t
  | 11 => fun _ v => v = .slice (some ⟨bb, o, none⟩) m d
  | 12 => fun _ v => v = .int .i64 (k : Int)
  | 13 => fun _ v => v = .pointer (some ⟨bb, o + k * 4, none⟩)
  | 14 => fun _ v => v = .pointer (some ⟨bb, o + k * 4 + 2, none⟩)
  | 15 => fun _ v => v = .slice a' n' c'
  | 16 => fun _ v => v = .slice (some ⟨bb, o, none⟩) m d
  | 17 => fun _ v => v = .int .i64 (k : Int)
  | 18 => fun _ v => v = .pointer (some ⟨bb, o + k * 4, none⟩)
  | 19 => fun _ v => v = .agg #[.int .i64 x, .string t, .slice a' n' c', .int .i64 q]
  | 20 => fun _ v => v = .agg #[.int .i64 e, .slice a n c]
  | 21 => fun w v => ∃ a8 n8 c8, v = .slice a8 n8 c8 ∧ SlAt shSig w a8 n8 c8 (sgOf q x (vS e l t nx) (vC e l t nx))
  | _ => fun _ _ => False
theorem showR_stab {p bb o m d k : Nat} {x : Int} {t : ByteArray} {a' : Option Addr} {n' c' : Nat} {q e : Int} {a : Option Addr} {n c : Nat} {l nx : List Int} : ∀ i w w' v, showR p bb o m d k x t a' n' c' q e a n c l nx i w v → Below w.heap.size w w' → showR p bb o m d k x t a' n' c' q e a n c l nx i w' v
  | 0, w, w', v, h, hb => h
  | 1, w, w', v, h, hb => h
  | 2, w, w', v, h, hb => h
  | 3, w, w', v, h, hb => h
  | 4, w, w', v, h, hb => h
  | 5, w, w', v, h, hb => h
  | 6, w, w', v, h, hb => h
  | 7, w, w', v, h, hb => h
  | 8, w, w', v, h, hb => h
  | 9, w, w', v, h, hb => h
  | 10, w, w', v, h, hb => h
  | 11, w, w', v, h, hb => h
  | 12, w, w', v, h, hb => h
  | 13, w, w', v, h, hb => h
  | 14, w, w', v, h, hb => h
  | 15, w, w', v, h, hb => h
  | 16, w, w', v, h, hb => h
  | 17, w, w', v, h, hb => h
  | 18, w, w', v, h, hb => h
  | 19, w, w', v, h, hb => h
  | 20, w, w', v, h, hb => h
  | 21, w, w', v, ⟨a8, n8, c8, h1, h2⟩, hb => ⟨a8, n8, c8, h1, h2.old hb⟩
  | _ + 22, w, w', v, h, hb => h

set_option maxHeartbeats 4000000 in
theorem walk (w : World) (e : Int) (a : Option Addr) (n c : Nat) (l : List Int) (he : i64 e) (hl : SlAt Sh.int w a n c l) (b : Option Addr) (m d : Nat) (scr : List Hv) (hx : SlAt shVote w b m d scr) :
    Calls Try.prog 8 #[.agg #[.int .i64 e, .slice a n c], .slice b m d] w fun e w' => e = .returned (.bool true) ∧ Below w.heap.size w w' := by
  have BX := Lib.hid (below_alloc w (.cells #[.int .i64 e, .slice a n c] 24 (0, 0)))
  have KX := Lib.hid (blk_alloc w (.cells #[.int .i64 e, .slice a n c] 24 (0, 0)))
  have HL := Lib.hid (ints_of_sl hl); have HX := Lib.hid hx
  have hlen := hl.len
  have hnm : n ≤ 9223372036854775807 := Nat.le_trans hl.cap hl.max
  have hmm : m ≤ 9223372036854775807 := Nat.le_trans hx.cap hx.max
  have hnb : n * 8 ≤ 140737488355328 := hl.bytes
  have hnil : a = none → c = 0 ∧ n = 0 := fun h => ⟨hl.nil h, by have := hl.nil h; have := hl.cap; omega⟩
  have CL := Lib.hid lives15_any
  clear hl hx
  go_enter Try.func8, Try.ntmps8
  go_wp2_with fail
  refine (CL.out _).mono ?_
  rintro r w1 ⟨rfl, b1⟩
  have B1 := Lib.hid (bthen BX.out b1)
  have K1 := Lib.hid (blk_below KX.out b1)
  have k0 : w1.cell? ⟨w.heap.size, 0, none⟩ = some (.int .i64 e) := by rw [blk_cell K1.out]; rfl
  have k1 : w1.cell? ⟨w.heap.size, 1, none⟩ = some (.slice a n c) := by rw [blk_cell K1.out]; rfl
  have CN := Lib.hid (vnew_any e a n c l w1 (HL.out.below B1.out) hnil hnb he)
  clear b1 BX KX
  go_wp2_with fail
  refine CN.out.mono ?_
  rintro r w3 ⟨b3, h3⟩
  have B3 := Lib.hid (bthen B1.out b3)
  have hsz1 := blk_lt K1.out
  have K3 := Lib.hid (blk_below K1.out b3)
  clear k0 k1 CN
  rcases h3 with ⟨hr, M, p, mv, mc, rfl, hM, hT⟩ | ⟨hno, rfl⟩
  case inr =>
    clear b3 B1 K1
    go_wp2_with fail
    go_ret
    exact ⟨rfl, B3.out⟩
  have h10 := risingB_len (rightB_rising hr).2.2
  have CS := vsettled_any M p mv mc e l [] w3 hT (VOk.nil hr)
  have HT3 := Lib.hid hT
  have HM3 := Lib.hid (show ∀ j, M j → w.heap.size + 1 ≤ j from fun j hj => Nat.le_trans hsz1 (hM j hj))
  clear hM hT b3 B1 K1 hsz1
  go_wp2_with fail
  refine CS.mono ?_
  intro r w4 h4
  obtain ⟨b4, tx, a1, n1, c1, ep, a2, n2, c2, a3, n3, c3, rfl, g4⟩ := set_gen h4
  rw [win_nil]
  have ba := below_alloc w4 (.cells #[.string tx, .slice a1 n1 c1, .int .i64 ep, .slice a2 n2 c2, .slice a3 n3 c3] 51 (0, 0))
  have KW4 := Lib.hid (blk_alloc w4 (.cells #[.string tx, .slice a1 n1 c1, .int .i64 ep, .slice a2 n2 c2, .slice a3 n3 c3] 51 (0, 0)))
  have hlt3 := HT3.out.lt
  have hz4 := b4.size
  have HT4 := Lib.hid (show ∃ M : Nat → Prop, (∀ j, M j → w.heap.size + 1 ≤ j) ∧ ¬ M w4.heap.size ∧ TalAt M (w4.alloc (.cells #[.string tx, .slice a1 n1 c1, .int .i64 ep, .slice a2 n2 c2, .slice a3 n3 c3] 51 (0, 0))) p mv mc e l [] from ⟨M, HM3.out, fun h => by have := hlt3 _ h; omega, (HT3.out.old b4).old ba⟩)
  have HG4 := Lib.hid (show SetG e l [] (fun k => k = mv ∨ k = mc) _ tx a1 n1 c1 ep a2 n2 c2 a3 n3 c3 from g4.step (X' := fun k => k = mv ∨ k = mc) (Keep.of_below (X := fun _ => False) ba) (fun _ _ h => h.elim) (fun k _ h => by
    have h1 := hlt3 _ HT3.out.mine.2.1
    have h2 := hlt3 _ HT3.out.mine.2.2
    rcases h with rfl | rfl <;> assumption))
  have KC4 := Lib.hid (blk_below (blk_below K3.out b4) ba)
  have W4 := Lib.hid (bthen (bthen B3.out b4) ba)
  have hmvw : w.heap.size + 1 ≤ mv ∧ w.heap.size + 1 ≤ mc := ⟨HM3.out _ HT3.out.mine.2.1, HM3.out _ HT3.out.mine.2.2⟩
  have hwbw : w.heap.size + 1 ≤ w4.heap.size := by have := hmvw.1; have := hlt3 _ HT3.out.mine.2.1; omega
  have hmvb : mv < w4.heap.size ∧ mc < w4.heap.size := ⟨by have := hlt3 _ HT3.out.mine.2.1; omega, by have := hlt3 _ HT3.out.mine.2.2; omega⟩
  clear h4 g4 CS HT3 HM3 b4 ba hlt3 hz4 K3 B3
  generalize hwb : w4.heap.size = wb at *
  go_upto_region 7 with (fail)
  generalize w4.alloc (.cells #[.string tx, .slice a1 n1 c1, .int .i64 ep, .slice a2 n2 c2, .slice a3 n3 c3] 51 (0, 0)) = w5 at *
  clear hwb
  go_wp2_with fail
  go_loopw [8, 9] (fun dn i wr => ∃ k : Nat, k ≤ m ∧ i = .int .i64 k ∧ ∃ V : List Vt, dn = .bool (winner l V).isSome ∧ Hid (VOk e l V) ∧ Hid (∃ M : Nat → Prop, (∀ j, M j → w.heap.size + 1 ≤ j) ∧ ¬ M wb ∧ TalAt M wr p mv mc e l V) ∧
    (∃ tx a1 n1 c1 ep a2 n2 c2 a3 n3 c3, Hid (wr.heap[wb]? = some (.cells #[.string tx, .slice a1 n1 c1, .int .i64 ep, .slice a2 n2 c2, .slice a3 n3 c3] 51 (0, 0))) ∧ Hid (SetG e l V (fun k => k = mv ∨ k = mc) wr tx a1 n1 c1 ep a2 n2 c2 a3 n3 c3)) ∧
    Hid (wr.heap[w.heap.size]? = some (.cells #[.int .i64 e, .slice a n c] 24 (0, 0))) ∧ Hid (Below w.heap.size w wr)) (fun _ i _ => m - (intOf i).toNat)
  case atStart => exact ⟨0, by omega, rfl, [], rfl, Lib.hid (VOk.nil hr), HT4, ⟨tx, a1, n1, c1, ep, a2, n2, c2, a3, n3, c3, KW4, HG4⟩, KC4, W4⟩
  case round =>
    clear HT4 HG4 KC4 W4 KW4
    obtain ⟨k, hk, rfl, V, rfl, HV, HT, ⟨tx, a1, n1, c1, ep, a2, n2, c2, a3, n3, c3, KB, HG⟩, KC, HW⟩ := hrel
    by_cases hlt : k < m
    · have hd : decide ((k : Int) < (m : Int)) = true := by simp; omega
      have hj0 : (0 : Int) ≤ (k : Int) := by omega
      have hj1 : (k : Int) < (m : Int) := by omega
      obtain ⟨bb, o, x, t, nx, q, a', n', c', rfl, hy, x0, x1, x2, x3, hvi⟩ := vote_cells (HX.out.old HW.out) hlt
      have HVI := Lib.hid hvi
      clear hy hvi
      go_upto_region 10 with (fail)
      refine wp_region_made 22 (showR p bb o m d k x t a' n' c' q e a n c l nx) (fun _ _ => none) rfl (by kernel_rfl) (by kernel_rfl) showR_stab (fun _ _ _ _ _ h => by cases h) (fun i oo hi ho => ?_) (fun vs w7 hb7 hs hne => ?_)
      · intro ac wa hba hE hF K hK
        have b7 := below_undrew hba
        have hno : ∀ k, (none : Option Nat) = some k → wa.heap.size ≤ k := fun _ h => by cases h
        have KCa := blk_below KC.out b7
        have z0 := below_cell b7 x0
        have z1 := below_cell b7 x1
        have z2 := below_cell b7 x2
        have z3 := below_cell b7 x3
        have y0 : wa.cell? ⟨w.heap.size, 0, none⟩ = some (.int .i64 e) := by rw [blk_cell KCa]; rfl
        have y1 : wa.cell? ⟨w.heap.size, 1, none⟩ = some (.slice a n c) := by rw [blk_cell KCa]; rfl
        have hi' : i = 0 ∨ i = 1 ∨ i = 2 ∨ i = 3 ∨ i = 4 ∨ i = 5 ∨ i = 6 ∨ i = 7 ∨ i = 8 ∨ i = 9 ∨ i = 10 ∨ i = 11 ∨ i = 12 ∨ i = 13 ∨ i = 14 ∨ i = 15 ∨ i = 16 ∨ i = 17 ∨ i = 18 ∨ i = 19 ∨ i = 20 ∨ i = 21 := by omega
        rcases hi' with rfl | rfl | rfl | rfl | rfl | rfl | rfl | rfl | rfl | rfl | rfl | rfl | rfl | rfl | rfl | rfl | rfl | rfl | rfl | rfl | rfl | rfl
        · obtain rfl := Option.some.inj ho
          have h1 : ac.eval (.tmp 5) = .pointer (some ⟨p, 0, none⟩) := hE 5 (by decide)
          exact news_val rfl rfl (by generalize ac.eval = ρ at h1; simp only [execOp]; go_simp) (hK _ _ (Below.refl _ _) rfl hno)
        · obtain rfl := Option.some.inj ho
          have h1 : ac.eval (.tmp 1) = .slice (some ⟨bb, o, none⟩) m d := hE 1 (by decide)
          exact news_val rfl rfl (by generalize ac.eval = ρ at h1; simp only [execOp]; go_simp) (hK _ _ (Below.refl _ _) rfl hno)
        · obtain rfl := Option.some.inj ho
          have h1 : ac.eval (.tmp 9) = .int .i64 (k : Int) := hE 9 (by decide)
          exact news_val rfl rfl (by generalize ac.eval = ρ at h1; simp only [execOp]; go_simp) (hK _ _ (Below.refl _ _) rfl hno)
        · obtain rfl := Option.some.inj ho
          have h1 : ac.eval (.tmp 38) = .slice (some ⟨bb, o, none⟩) m d := hF ⟨1, .data⟩ (by simp) rfl 38 rfl
          have h2 : ac.eval (.tmp 39) = .int .i64 (k : Int) := hF ⟨2, .data⟩ (by simp) rfl 39 rfl
          exact news_val rfl rfl (by generalize ac.eval = ρ at h1 h2; simp only [execOp]; go_simp) (hK _ _ (Below.refl _ _) rfl hno)
        · obtain rfl := Option.some.inj ho
          have h1 : ac.eval (.tmp 40) = .pointer (some ⟨bb, o + k * 4, none⟩) := hF ⟨3, .data⟩ (by simp) rfl 40 rfl
          exact news_val rfl rfl (by generalize ac.eval = ρ at h1; simp only [execOp]; go_simp) (hK _ _ (Below.refl _ _) rfl hno)
        · obtain rfl := Option.some.inj ho
          have h1 : ac.eval (.tmp 41) = .pointer (some ⟨bb, o + k * 4, none⟩) := hF ⟨4, .data⟩ (by simp) rfl 41 rfl
          exact news_val rfl rfl (by generalize ac.eval = ρ at h1; simp only [execOp]; go_simp) (hK _ _ (Below.refl _ _) rfl hno)
        · obtain rfl := Option.some.inj ho
          have h1 : ac.eval (.tmp 1) = .slice (some ⟨bb, o, none⟩) m d := hE 1 (by decide)
          exact news_val rfl rfl (by generalize ac.eval = ρ at h1; simp only [execOp]; go_simp) (hK _ _ (Below.refl _ _) rfl hno)
        · obtain rfl := Option.some.inj ho
          have h1 : ac.eval (.tmp 9) = .int .i64 (k : Int) := hE 9 (by decide)
          exact news_val rfl rfl (by generalize ac.eval = ρ at h1; simp only [execOp]; go_simp) (hK _ _ (Below.refl _ _) rfl hno)
        · obtain rfl := Option.some.inj ho
          have h1 : ac.eval (.tmp 43) = .slice (some ⟨bb, o, none⟩) m d := hF ⟨6, .data⟩ (by simp) rfl 43 rfl
          have h2 : ac.eval (.tmp 44) = .int .i64 (k : Int) := hF ⟨7, .data⟩ (by simp) rfl 44 rfl
          exact news_val rfl rfl (by generalize ac.eval = ρ at h1 h2; simp only [execOp]; go_simp) (hK _ _ (Below.refl _ _) rfl hno)
        · obtain rfl := Option.some.inj ho
          have h1 : ac.eval (.tmp 45) = .pointer (some ⟨bb, o + k * 4, none⟩) := hF ⟨8, .data⟩ (by simp) rfl 45 rfl
          exact news_val rfl rfl (by generalize ac.eval = ρ at h1; simp only [execOp]; go_simp) (hK _ _ (Below.refl _ _) rfl hno)
        · obtain rfl := Option.some.inj ho
          have h1 : ac.eval (.tmp 46) = .pointer (some ⟨bb, o + k * 4 + 1, none⟩) := hF ⟨9, .data⟩ (by simp) rfl 46 rfl
          exact news_val rfl rfl (by generalize ac.eval = ρ at h1; simp only [execOp]; go_simp) (hK _ _ (Below.refl _ _) rfl hno)
        · obtain rfl := Option.some.inj ho
          have h1 : ac.eval (.tmp 1) = .slice (some ⟨bb, o, none⟩) m d := hE 1 (by decide)
          exact news_val rfl rfl (by generalize ac.eval = ρ at h1; simp only [execOp]; go_simp) (hK _ _ (Below.refl _ _) rfl hno)
        · obtain rfl := Option.some.inj ho
          have h1 : ac.eval (.tmp 9) = .int .i64 (k : Int) := hE 9 (by decide)
          exact news_val rfl rfl (by generalize ac.eval = ρ at h1; simp only [execOp]; go_simp) (hK _ _ (Below.refl _ _) rfl hno)
        · obtain rfl := Option.some.inj ho
          have h1 : ac.eval (.tmp 48) = .slice (some ⟨bb, o, none⟩) m d := hF ⟨11, .data⟩ (by simp) rfl 48 rfl
          have h2 : ac.eval (.tmp 49) = .int .i64 (k : Int) := hF ⟨12, .data⟩ (by simp) rfl 49 rfl
          exact news_val rfl rfl (by generalize ac.eval = ρ at h1 h2; simp only [execOp]; go_simp) (hK _ _ (Below.refl _ _) rfl hno)
        · obtain rfl := Option.some.inj ho
          have h1 : ac.eval (.tmp 50) = .pointer (some ⟨bb, o + k * 4, none⟩) := hF ⟨13, .data⟩ (by simp) rfl 50 rfl
          exact news_val rfl rfl (by generalize ac.eval = ρ at h1; simp only [execOp]; go_simp) (hK _ _ (Below.refl _ _) rfl hno)
        · obtain rfl := Option.some.inj ho
          have h1 : ac.eval (.tmp 51) = .pointer (some ⟨bb, o + k * 4 + 2, none⟩) := hF ⟨14, .data⟩ (by simp) rfl 51 rfl
          exact news_val rfl rfl (by generalize ac.eval = ρ at h1; simp only [execOp]; go_simp) (hK _ _ (Below.refl _ _) rfl hno)
        · obtain rfl := Option.some.inj ho
          have h1 : ac.eval (.tmp 1) = .slice (some ⟨bb, o, none⟩) m d := hE 1 (by decide)
          exact news_val rfl rfl (by generalize ac.eval = ρ at h1; simp only [execOp]; go_simp) (hK _ _ (Below.refl _ _) rfl hno)
        · obtain rfl := Option.some.inj ho
          have h1 : ac.eval (.tmp 9) = .int .i64 (k : Int) := hE 9 (by decide)
          exact news_val rfl rfl (by generalize ac.eval = ρ at h1; simp only [execOp]; go_simp) (hK _ _ (Below.refl _ _) rfl hno)
        · obtain rfl := Option.some.inj ho
          have h1 : ac.eval (.tmp 53) = .slice (some ⟨bb, o, none⟩) m d := hF ⟨16, .data⟩ (by simp) rfl 53 rfl
          have h2 : ac.eval (.tmp 54) = .int .i64 (k : Int) := hF ⟨17, .data⟩ (by simp) rfl 54 rfl
          exact news_val rfl rfl (by generalize ac.eval = ρ at h1 h2; simp only [execOp]; go_simp) (hK _ _ (Below.refl _ _) rfl hno)
        · obtain rfl := Option.some.inj ho
          have h1 : ac.eval (.tmp 55) = .pointer (some ⟨bb, o + k * 4, none⟩) := hF ⟨18, .data⟩ (by simp) rfl 55 rfl
          exact news_val rfl rfl (by generalize ac.eval = ρ at h1; simp only [execOp]; go_simp) (hK _ _ (Below.refl _ _) rfl hno)
        · obtain rfl := Option.some.inj ho
          have h1 : ac.eval (.tmp 2) = .pointer (some ⟨w.heap.size, 0, none⟩) := hE 2 (by decide)
          exact news_val rfl rfl (by generalize ac.eval = ρ at h1; simp only [execOp]; go_simp) (hK _ _ (Below.refl _ _) rfl hno)
        · obtain rfl := Option.some.inj ho
          have h1 : ac.eval (.tmp 56) = .agg #[.int .i64 x, .string t, .slice a' n' c', .int .i64 q] := hF ⟨19, .data⟩ (by simp) rfl 56 rfl
          have h2 : ac.eval (.tmp 57) = .agg #[.int .i64 e, .slice a n c] := hF ⟨20, .data⟩ (by simp) rfl 57 rfl
          have hf : ac.eval (.func 14) = .func (.func 14) #[] #[] := rfl
          refine made_call rfl rfl 14 #[.agg #[.int .i64 x, .string t, .slice a' n' c', .int .i64 q], .agg #[.int .i64 e, .slice a n c]] (by generalize ac.eval = ρ at h1 h2 hf; simp only [execOp]; go_simp) (sigs15_any x t a' n' c' nx q e a n c l wa he (HL.out.below (bthen HW.out b7)) HVI.out.t (ints_of_sl (HVI.out.old b7).s) HVI.out.x) ?_
          rintro r w8 ⟨v8, rfl, ho8, b8⟩
          obtain ⟨a8, c8, rfl⟩ := owns_form ho8
          exact ⟨_, rfl, hK _ _ b8 ⟨a8, _, c8, rfl, sigs_row ho8 rfl (sgOf_ok HVI.out.x HVI.out.t) (by have := sgOf_len q x (vS e l t nx) (vC e l t nx); omega)⟩ (fun _ h => by cases h)⟩
      · have e0 : vs 0 = _ := hs 0 (by omega)
        have e1 : vs 1 = _ := hs 1 (by omega)
        have e2 : vs 2 = _ := hs 2 (by omega)
        have e3 : vs 3 = _ := hs 3 (by omega)
        have e4 : vs 4 = _ := hs 4 (by omega)
        have e5 : vs 5 = _ := hs 5 (by omega)
        have e6 : vs 6 = _ := hs 6 (by omega)
        have e7 : vs 7 = _ := hs 7 (by omega)
        have e8 : vs 8 = _ := hs 8 (by omega)
        have e9 : vs 9 = _ := hs 9 (by omega)
        have e10 : vs 10 = _ := hs 10 (by omega)
        have e11 : vs 11 = _ := hs 11 (by omega)
        have e12 : vs 12 = _ := hs 12 (by omega)
        have e13 : vs 13 = _ := hs 13 (by omega)
        have e14 : vs 14 = _ := hs 14 (by omega)
        have e15 : vs 15 = _ := hs 15 (by omega)
        have e16 : vs 16 = _ := hs 16 (by omega)
        have e17 : vs 17 = _ := hs 17 (by omega)
        have e18 : vs 18 = _ := hs 18 (by omega)
        have e19 : vs 19 = _ := hs 19 (by omega)
        have e20 : vs 20 = _ := hs 20 (by omega)
        obtain ⟨a8, n8, c8, e21, hs8⟩ : ∃ a8 n8 c8, (vs 21) = .slice a8 n8 c8 ∧ SlAt shSig w7 a8 n8 c8 (sgOf q x (vS e l t nx) (vC e l t nx)) := hs 21 (by omega)
        show wpList _ _ _ _ ((((((((((((((((((((((Act.put _ (some 37) (vs 0)).put (some 38) (vs 1)).put (some 39) (vs 2)).put (some 40) (vs 3)).put (some 41) (vs 4)).put (some 42) (vs 5)).put (some 43) (vs 6)).put (some 44) (vs 7)).put (some 45) (vs 8)).put (some 46) (vs 9)).put (some 47) (vs 10)).put (some 48) (vs 11)).put (some 49) (vs 12)).put (some 50) (vs 13)).put (some 51) (vs 14)).put (some 52) (vs 15)).put (some 53) (vs 16)).put (some 54) (vs 17)).put (some 55) (vs 18)).put (some 56) (vs 19)).put (some 57) (vs 20)).put (some 58) (vs 21)) _
        rw [e0, e1, e2, e3, e4, e5, e6, e7, e8, e9, e10, e11, e12, e13, e14, e15, e16, e17, e18, e19, e20, e21]
        clear e0 e1 e2 e3 e4 e5 e6 e7 e8 e9 e10 e11 e12 e13 e14 e15 e16 e17 e18 e19 e20 e21 hs hne vs
        obtain ⟨M, hM, hMb, hT⟩ := HT.out
        have B7 := Lib.hid (bthen HW.out hb7)
        have HVI7 := HVI.out.old hb7
        have CA := Lib.hid (vadd_any M p mv mc e l V x t a' n' c' nx a8 n8 c8 _ w7 (hT.old hb7) HV.out HVI7.x HVI7.t (ints_of_sl HVI7.s) HVI7.nil HVI7.s.bytes hs8)
        have HV' := Lib.hid (HV.out.add (x := x) (nx := nx) (sigs := sgOf q x (vS e l t nx) (vC e l t nx)) HVI7.t)
        have HST := Lib.hid (fun y => won_stays (x := x) (nx := nx) (sigs := sgOf q x (vS e l t nx) (vC e l t nx)) HV.out HVI7.t (y := y))
        have KB7 := Lib.hid (blk_below KB.out hb7)
        have KC7 := Lib.hid (blk_below KC.out hb7)
        have HG7 := Lib.hid (HG.out.step (X' := fun k => k = mv ∨ k = mc) (Keep.of_below (X := fun _ => False) hb7) (fun _ _ h => h.elim) (fun _ _ h => h))
        have hwbz := blk_lt KB.out
        have HM := Lib.hid hM; have HMb := Lib.hid hMb
        have hz7 := hb7.size
        clear hb7 hs8 hT hM hMb HT HVI7 KB KC HG HV
        simp only [List.drop_succ_cons, List.drop_zero, Act.put, List.setIfInBounds_toArray, List.set_cons_succ, List.set_cons_zero]
        go_wp2_with fail
        refine CA.out.mono ?_
        rintro r w8 ⟨rfl, k8, M8, hM8, hT8⟩
        generalize hV8 : addV e l V x t nx (sgOf q x (vS e l t nx) (vC e l t nx)) = V8 at *
        generalize addE e l V x t nx (sgOf q x (vS e l t nx) (vC e l t nx)) = z8 at *
        have KB8 := Lib.hid ((k8.block _ (blk_lt KB7.out) (fun h => by rcases h with h | h <;> omega)).trans KB7.out)
        have KC8 := Lib.hid ((k8.block _ (blk_lt KC7.out) (fun h => by rcases h with h | h <;> omega)).trans KC7.out)
        have HG8 := Lib.hid (HG7.out.step (X' := fun k => k = mv ∨ k = mc) k8 (fun _ _ h => h) (fun _ _ h => h))
        have W8 := Lib.hid (k8.below B7.out (fun j hj => by rcases hj with rfl | rfl <;> omega))
        have HM8 := Lib.hid (show (∀ j, M8 j → w.heap.size + 1 ≤ j) ∧ ¬ M8 wb from ⟨fun j hj => (hM8 j hj).elim (HM.out j) (fun h => by have := blk_lt KC7.out; omega), fun hm => (hM8 _ hm).elim HMb.out (fun h => by omega)⟩)
        have HT8 := Lib.hid hT8
        have CS := vsettled_any M8 p mv mc e l V8 w8 hT8 HV'.out
        clear hT8 hM8 k8 CA KB7 KC7 HG7 HM HMb B7 HW HVI hwbz hz7
        go_wp2_with fail
        refine CS.mono ?_
        intro r w9 h9
        obtain ⟨b9, ty, d1, m1, f1, eq, d2, m2, f2, d3, m3, f3, rfl, g9⟩ := set_gen h9
        have ba := below_alloc w9 (.cells #[.string ty, .slice d1 m1 f1, .int .i64 eq, .slice d2 m2 f2, .slice d3 m3 f3] 51 (0, 0))
        have KS := Lib.hid (blk_alloc w9 (.cells #[.string ty, .slice d1 m1 f1, .int .i64 eq, .slice d2 m2 f2, .slice d3 m3 f3] 51 (0, 0)))
        have h8m : mv < w8.heap.size ∧ mc < w8.heap.size := ⟨HT8.out.lt _ HT8.out.mine.2.1, HT8.out.lt _ HT8.out.mine.2.2⟩
        have GS := Lib.hid (g9.step (X' := fun k => k = mv ∨ k = mc ∨ k = wb) (Keep.of_below (X := fun _ => False) ba) (fun _ _ h => h.elim) (fun k _ h => by have := blk_lt KB8.out; omega))
        have b89 := bthen b9 ba
        have HT10 := Lib.hid (HT8.out.old b89)
        have KB10 := Lib.hid (blk_below KB8.out b89)
        have KC10 := Lib.hid (blk_below KC8.out b89)
        have HG10 := Lib.hid (HG8.out.step (X' := fun k => k = mv ∨ k = mc) (Keep.of_below (X := fun _ => False) b89) (fun _ _ h => h.elim) (fun _ _ h => h))
        have W10 := Lib.hid (bthen W8.out b89)
        have hsb : wb ≠ w9.heap.size := by have := blk_lt KB8.out; have := b9.size; omega
        clear h9 g9 CS b9 ba b89 HT8 KB8 KC8 HG8 W8 h8m
        go_upto_region 12 with (fail)
        generalize w9.alloc (.cells #[.string ty, .slice d1 m1 f1, .int .i64 eq, .slice d2 m2 f2, .slice d3 m3 f3] 51 (0, 0)) = w10 at *
        generalize w9.heap.size = sb at *
        have s0 : w10.cell? ⟨sb, 0, none⟩ = some (.string ty) := by rw [blk_cell KS.out]; rfl
        have s1 : w10.cell? ⟨sb, 1, none⟩ = some (.slice d1 m1 f1) := by rw [blk_cell KS.out]; rfl
        have s2 : w10.cell? ⟨sb, 2, none⟩ = some (.int .i64 eq) := by rw [blk_cell KS.out]; rfl
        have s3 : w10.cell? ⟨sb, 3, none⟩ = some (.slice d2 m2 f2) := by rw [blk_cell KS.out]; rfl
        have vq0 : w10.cell? ⟨wb, 0, none⟩ = some (.string tx) := by rw [blk_cell KB10.out]; rfl
        have vq2 : w10.cell? ⟨wb, 2, none⟩ = some (.int .i64 ep) := by rw [blk_cell KB10.out]; rfl
        have vq3 : w10.cell? ⟨wb, 3, none⟩ = some (.slice a2 n2 c2) := by rw [blk_cell KB10.out]; rfl
        go_cut [8, 11, 96] (fun v8 v11 v wd => v8 = .bool (winner l V).isSome ∧ v11 = .bool (winner l V8).isSome ∧ v = .bool false ∧ Hid (Below w10.heap.size w10 wd))
        case first =>
          cases hw : winner l V with
          | none =>
            have hdn : (none : Option (ByteArray × List Int)).isSome = false := rfl
            cases hw8 : winner l V8 with
            | none =>
              obtain rfl : m1 = 0 := GS.out.none hw8
              go_wp2_with fail
              go_meet
              case rel => exact ⟨by first | rfl | simp [hw], by first | rfl | simp [hw8], rfl, Lib.hid (Below.refl _ _)⟩
            | some y8 =>
              have hok : (some y8 : Option (ByteArray × List Int)).isSome = true := rfl
              go_wp2_with fail
              go_meet
              case rel => exact ⟨by first | rfl | simp [hw], by first | rfl | simp [hw8], rfl, Lib.hid (Below.refl _ _)⟩
          | some y =>
            have hw8 := HST.out y hw
            obtain ⟨g1, g2, g3⟩ := GS.out.some y hw8
            obtain ⟨h1, h2, h3⟩ := HG10.out.some y hw
            have CSm := samec_any (e + 1) d2 m2 f2 y.2 (e + 1) a2 n2 c2 y.2 w10 (ints_of_sl g3.self.2.1) (ints_of_sl h3.self.2.1)
            rw [decide_eq_true rfl] at CSm
            replace CSm := Lib.hid CSm
            have hok : (some y : Option (ByteArray × List Int)).isSome = true := rfl
            clear g3 h3
            subst g1 g2 h1 h2
            go_wp2_with fail
            refine CSm.out.mono ?_
            rintro r w11 ⟨rfl, b11⟩
            have B11 := Lib.hid b11
            clear b11
            go_wp2_with fail
            go_meet
            case rel => exact ⟨by first | rfl | simp [hw], by first | rfl | simp [hw8], rfl, B11⟩
        case rest =>
          obtain ⟨rfl, rfl, rfl, B11⟩ := hcut
          obtain ⟨w11, hw11⟩ : ∃ w11, w11 = wc := ⟨_, rfl⟩
          subst hw11
          have GS11 := Lib.hid (GS.out.step (X' := fun k => k = mv ∨ k = mc ∨ k = wb) (Keep.of_below (X := fun _ => False) B11.out) (fun _ _ h => h.elim) (fun _ _ h => h))
          have HT11 := Lib.hid (HT10.out.old B11.out)
          have KB11 := Lib.hid (blk_below KB10.out B11.out)
          have KC11 := Lib.hid (blk_below KC10.out B11.out)
          have KS11 := Lib.hid (blk_below KS.out B11.out)
          have W11 := Lib.hid (bthen W10.out B11.out)
          clear GS HT10 KB10 KC10 KS W10 HG10 B11 HST s0 s1 s2 s3 vq0 vq2 vq3
          go_upto_if 97 with (fail)
          go_cut [11, 9] (fun v11 v9 wd => v11 = .bool (winner l V8).isSome ∧ v9 = .int .i64 (k : Int) ∧ Hid (Below w11.heap.size w11 wd))
          case first =>
            have s0 : w11.cell? ⟨sb, 0, none⟩ = some (.string ty) := by rw [blk_cell KS11.out]; rfl
            have s1 : w11.cell? ⟨sb, 1, none⟩ = some (.slice d1 m1 f1) := by rw [blk_cell KS11.out]; rfl
            have s2 : w11.cell? ⟨sb, 2, none⟩ = some (.int .i64 eq) := by rw [blk_cell KS11.out]; rfl
            have s3 : w11.cell? ⟨sb, 3, none⟩ = some (.slice d2 m2 f2) := by rw [blk_cell KS11.out]; rfl
            have s4 : w11.cell? ⟨sb, 4, none⟩ = some (.slice d3 m3 f3) := by rw [blk_cell KS11.out]; rfl
            have c0 : w11.cell? ⟨w.heap.size, 0, none⟩ = some (.int .i64 e) := by rw [blk_cell KC11.out]; rfl
            have c1 : w11.cell? ⟨w.heap.size, 1, none⟩ = some (.slice a n c) := by rw [blk_cell KC11.out]; rfl
            cases hw8 : winner l V8 with
            | none =>
              have hok : (none : Option (ByteArray × List Int)).isSome = false := rfl
              go_wp2_with fail
              go_meet
              case rel => exact ⟨by first | rfl | simp [hw8], rfl, Lib.hid (Below.refl _ _)⟩
            | some y =>
              have hok : (some y : Option (ByteArray × List Int)).isSome = true := rfl
              obtain ⟨g1, g2, g3⟩ := GS11.out.some y hw8
              obtain ⟨hgd, hts⟩ := won_good HV'.out hw8
              have hm2 := g3.self.2.1
              have CT := rvtexts_any e a n c l y.1 d2 m2 f2 y.2 w11 he (HL.out.below W11.out) hts (ints_of_sl hm2)
              rw [show vS e l y.1 y.2 = stS e y.1 by rw [vS, if_pos hgd], show vC e l y.1 y.2 = textS (e + 1) y.2 by rw [vC, if_pos hgd], show vE e l y.1 y.2 = 0 by rw [vE, if_pos hgd]] at CT
              replace CT := Lib.hid CT
              have CV := fun w' (hb : Below w11.heap.size w11 w') => valid_any e a n c l (e + 1) d2 m2 f2 y.2 d3 m3 f3 _ w' ((HL.out.below W11.out).below hb) (ints_of_sl (hm2.old hb)) (g3.self.2.2.old hb)
              rw [valid_won HV'.out hw8] at CV
              replace CV := Lib.hid CV
              have CP := fun w' (hb : Below w11.heap.size w11 w') => proves_any e a n c l (stS e y.1) d1 m1 f1 _ w' ((HL.out.below W11.out).below hb) (g3.self.1.old hb)
              rw [proves_who HV'.out hw8] at CP
              replace CP := Lib.hid CP
              clear g3 hgd hts hm2
              subst g1 g2
              generalize stS e y.1 = ST at *
              generalize textS (e + 1) y.2 = TS at *
              go_wp2_with fail
              refine CT.out.mono ?_
              rintro r w12 ⟨rfl, b12⟩
              have B12 := Lib.hid b12
              have KS12 := blk_below KS11.out b12
              have KC12 := blk_below KC11.out b12
              clear s0 s1 s2 s3 s4 c0 c1 b12
              have s1 : w12.cell? ⟨sb, 1, none⟩ = some (.slice d1 m1 f1) := by rw [blk_cell KS12]; rfl
              have s2 : w12.cell? ⟨sb, 2, none⟩ = some (.int .i64 (e + 1)) := by rw [blk_cell KS12]; rfl
              have s3 : w12.cell? ⟨sb, 3, none⟩ = some (.slice d2 m2 f2) := by rw [blk_cell KS12]; rfl
              have s4 : w12.cell? ⟨sb, 4, none⟩ = some (.slice d3 m3 f3) := by rw [blk_cell KS12]; rfl
              have c0 : w12.cell? ⟨w.heap.size, 0, none⟩ = some (.int .i64 e) := by rw [blk_cell KC12]; rfl
              have c1 : w12.cell? ⟨w.heap.size, 1, none⟩ = some (.slice a n c) := by rw [blk_cell KC12]; rfl
              go_wp2_with fail
              refine (CV.out _ B12.out).mono ?_
              rintro r w13 ⟨rfl, b13⟩
              have B13 := Lib.hid (bthen B12.out b13)
              have KS13 := blk_below KS12 b13
              have KC13 := blk_below KC12 b13
              clear s1 s2 s3 s4 c0 c1 b13 KS12 KC12
              have s1 : w13.cell? ⟨sb, 1, none⟩ = some (.slice d1 m1 f1) := by rw [blk_cell KS13]; rfl
              have c0 : w13.cell? ⟨w.heap.size, 0, none⟩ = some (.int .i64 e) := by rw [blk_cell KC13]; rfl
              have c1 : w13.cell? ⟨w.heap.size, 1, none⟩ = some (.slice a n c) := by rw [blk_cell KC13]; rfl
              go_wp2_with fail
              refine (CP.out _ B13.out).mono ?_
              rintro r w14 ⟨rfl, b14⟩
              have B14 := Lib.hid (bthen B13.out b14)
              clear s1 c0 c1 b14 KS13 KC13
              go_wp2_with fail
              go_meet
              case rel => exact ⟨by first | rfl | simp [hw8], rfl, B14⟩
          case rest =>
            obtain ⟨rfl, rfl, B12⟩ := hcut
            have GS12 := Lib.hid (GS11.out.step (X' := fun k => k = mv ∨ k = mc ∨ k = wb) (Keep.of_below (X := fun _ => False) B12.out) (fun _ _ h => h.elim) (fun _ _ h => h))
            have HT12 := Lib.hid (HT11.out.old B12.out)
            have KB12 := Lib.hid (blk_below KB11.out B12.out)
            have KC12 := Lib.hid (blk_below KC11.out B12.out)
            have KS12 := Lib.hid (blk_below KS11.out B12.out)
            have W12 := Lib.hid (bthen W11.out B12.out)
            clear GS11 HT11 KB11 KC11 KS11 W11 B12
            have s0 : wc.cell? ⟨sb, 0, none⟩ = some (.string ty) := by rw [blk_cell KS12.out]; rfl
            have s1 : wc.cell? ⟨sb, 1, none⟩ = some (.slice d1 m1 f1) := by rw [blk_cell KS12.out]; rfl
            have s2 : wc.cell? ⟨sb, 2, none⟩ = some (.int .i64 eq) := by rw [blk_cell KS12.out]; rfl
            have s3 : wc.cell? ⟨sb, 3, none⟩ = some (.slice d2 m2 f2) := by rw [blk_cell KS12.out]; rfl
            have s4 : wc.cell? ⟨sb, 4, none⟩ = some (.slice d3 m3 f3) := by rw [blk_cell KS12.out]; rfl
            have vq0 : wc.cell? ⟨wb, 0, none⟩ = some (.string tx) := by rw [blk_cell KB12.out]; rfl
            have vq1 : wc.cell? ⟨wb, 1, none⟩ = some (.slice a1 n1 c1) := by rw [blk_cell KB12.out]; rfl
            have vq2 : wc.cell? ⟨wb, 2, none⟩ = some (.int .i64 ep) := by rw [blk_cell KB12.out]; rfl
            have vq3 : wc.cell? ⟨wb, 3, none⟩ = some (.slice a2 n2 c2) := by rw [blk_cell KB12.out]; rfl
            have vq4 : wc.cell? ⟨wb, 4, none⟩ = some (.slice a3 n3 c3) := by rw [blk_cell KB12.out]; rfl
            have fz0 := blk_frozen KB12.out 0; have fz1 := blk_frozen KB12.out 1; have fz2 := blk_frozen KB12.out 2; have fz3 := blk_frozen KB12.out 3; have fz4 := blk_frozen KB12.out 4
            have KW := (((((Keep.refl (fun j => j = wb) wc).set (p := wb) (.inr rfl) 0 (.string ty)).set (p := wb) (.inr rfl) 1 (.slice d1 m1 f1)).set (p := wb) (.inr rfl) 2 (.int .i64 eq)).set (p := wb) (.inr rfl) 3 (.slice d2 m2 f2)).set (p := wb) (.inr rfl) 4 (.slice d3 m3 f3)
            have k5 := blk_set (blk_set (blk_set (blk_set (blk_set KB12.out 0 (.string ty)) 1 (.slice d1 m1 f1)) 2 (.int .i64 eq)) 3 (.slice d2 m2 f2)) 4 (.slice d3 m3 f3)
            simp only [List.setIfInBounds_toArray, List.set_cons_zero, List.set_cons_succ] at k5
            have KB13 := Lib.hid k5
            have HT13 := Lib.hid (show ∃ M : Nat → Prop, (∀ j, M j → w.heap.size + 1 ≤ j) ∧ ¬ M wb ∧ TalAt M _ p mv mc e l V8 from ⟨M8, HM8.out.1, HM8.out.2, HT12.out.keep KW (fun j hj hm => HM8.out.2 (hj ▸ hm))⟩)
            have HG13 := Lib.hid (GS12.out.step (X' := fun k => k = mv ∨ k = mc) KW (fun j _ hj => .inr (.inr hj)) (fun j _ hj => by rcases hj with h | h; exact .inl h; exact .inr (.inl h)))
            have hcb : w.heap.size ≠ wb := by omega
            have KC13 := Lib.hid ((KW.block _ (blk_lt KC12.out) hcb).trans KC12.out)
            have W13 := Lib.hid (KW.below W12.out (fun j hj => by omega))
            clear KW k5 GS12 HT12 KB12 KC12 KS12 W12
            go_wp2_with fail
            go_roundw
            case rel => exact ⟨k + 1, by omega, by go_num, V8, rfl, HV', HT13, ⟨_, _, _, _, _, _, _, _, _, _, _, KB13, HG13⟩, KC13, W13⟩
            case measure => simp [intOf]; omega
    · obtain rfl : k = m := by omega
      have hd : decide ((k : Int) < (k : Int)) = false := by simp
      obtain ⟨M, hM, hMb, hT⟩ := HT.out
      have HCt := Lib.hid (fun w' (hb : Below wr.heap.size wr w') => vcount_any M p mv mc e l V w' (hT.old hb))
      have hle : decide ((V.length : Int) ≤ (n : Int)) = true := by have := HV.out.len; simp; omega
      have y0 : wr.cell? ⟨w.heap.size, 1, none⟩ = some (.slice a n c) := by rw [blk_cell KC.out]; rfl
      have hz := World.block_lt y0
      clear hT hM hMb HT
      go_wp2_with fail
      refine wp_region_below (by kernel_rfl) (by kernel_rfl) ?_
      repeat (refine wpQuiet_step (fun K hK => ?_); go_simp; first | (refine hK _ ?_; clear hK K) | (apply Exists.intro; refine ⟨fun w' hw' => ?_, hK _ ?_⟩; (first | (go_at_call 17; exact Calls.quiet_below_same hw' (HCt.out _ hw')) | (with_reducible rfl) | (obtain ⟨cc, dd⟩ := bcell hw'; go_simp; rfl)); clear hK K))
      refine wpQuiet_nil ?_
      intro w9 h9
      have W9 := Lib.hid (bthen HW.out h9)
      clear h9
      go_wp2_with fail
      go_ret
      exact ⟨ret_bool (by simp at hle ⊢; exact hle), W9.out⟩
set_option maxRecDepth 100000 in
theorem lifted (os : Os) (started : os.Started) (H : Type) (enc : TypeId × Value → H) :
    ReturnsInHanded {} Try.checked os 8 .any (Rows.votesShowSpec.pre6 enc Try.prog Try.f8 Rows.votesShowRow.domain false) (Rows.votesShowSpec.post enc Try.prog Try.f8 false true false false) := by
  refine returnsInHanded_of_change_sized (C := Try.checked) own started (by kernel_rfl) Try.func8
    (ChangeSpec.witness6 (enc := enc) (C := Try.checked) false ⟨#[], #[.agg #[.int .i64 0, .slice none 0 0], .slice none 0 0], []⟩ 8 (by kernel_rfl) (by kernel_rfl) (by kernel_rfl) (by kernel_rfl)) ?_
  intro W base args ds gs before hval0 hW hcnd hsz _
  have hval : ∀ (j : Nat) t v, Try.f8.params[j]? = some t → args[j]? = some v → Value.okWide Try.prog W .any base t v := hval0
  have hW' := hW
  obtain ⟨p, q, hA0, hV, rfl, hfz, hnd⟩ := hW
  have hA : DataW.TrodAll enc Try.prog W 0 (fun _ => true) true Try.f8.params.toList args.toList ds p := hA0
  rw [Try.params8] at hA hval hsz
  have hA2 := hA
  obtain ⟨v0, vs0, d0, ds0, p0, q0, hargs, rfl, rfl, h0, r0⟩ := trodAll_cons hA
  obtain ⟨v1, vs1, d1, ds1, p1, q1, rfl, rfl, rfl, h1, r1⟩ := trodAll_cons r0
  obtain ⟨rfl, rfl, rfl⟩ := trodAll_nil r1
  obtain rfl : args = #[v0, v1] := by cases args; simp_all
  obtain ⟨rfl, rfl⟩ := trodVars_none hV
  clear hargs
  have k0 := hval 0 24 v0 rfl rfl
  obtain ⟨fu0, m0⟩ := h0
  have w0 := weights_of hsz (j := 0) (t := 24) rfl rfl
  have F0 : Fit Try.prog 24 d0 := .inl w0
  have s0 := cells_agg Try.underlying24 k0
  obtain ⟨y0, E0, g0⟩ := vwConf.2.2 m0 F0
  obtain ⟨p0, l0, a0, n0, c0, rfl, e0, f0, j0⟩ := conf_open E0
  obtain ⟨z0, s01, s02⟩ := s0
  have e0' := agg_of ⟨s01, s02⟩ e0
  subst e0'
  have k1 := hval 1 30 v1 rfl rfl
  obtain ⟨fu1, m1⟩ := h1
  have w1 := weights_of hsz (j := 1) (t := 30) rfl rfl
  have F1 : Fit Try.prog 30 d1 := .inl w1
  obtain ⟨l1, ⟨a1, n1, c1, e1, f1⟩, g1⟩ := vwVotes.2.2 m1 F1
  have e1' := slice_of Try.underlying30 k1 e1
  subst e1'
  refine (walk W p0 a0 n0 c0 l0 f0 j0 a1 n1 c1 l1 f1).mono fun e W' ⟨he, bel⟩ => ?_
  subst he
  exact ⟨_, rfl, _, _, _, [], _, [], hW', trodAll_mk1 (shut_bool Try.underlying4 _), trodAll_again laidOut bel (by kernel_rfl) hA2, rfl, bel.frame _, fun h => by cases h⟩

theorem over : Rows.votesShowRow.holds Try.pinned (OpenSpec.ofChange Rows.votesShowSpec) :=
  OpenClaim.holds_of_wide 8 Try.f8 rfl rfl rfl rfl rfl rfl rfl ⟨rfl, rfl, rfl, rfl, rfl⟩ rfl rfl rfl rfl rfl (by kernel_rfl) Try.func8 (by kernel_rfl)
    (of_decide_eq_true (by kernel_rfl)) (by unfold Func.isWrapper; first | (rw [if_pos (by decide +kernel)]; kernel_rfl) | (rw [if_neg (by decide +kernel)]; exact ⟨rfl, rfl⟩))
    (fun os started H enc _ => lifted os started H enc)

theorem proved : Rows.VotesShowSaid := over
#print axioms proved
end Go.Proofs.Ytfhbjajhmegdmaa.votesShow
