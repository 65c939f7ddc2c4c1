
/- Two tallies beside each other, the program's and the reference's; what both settle, and its comparison. -/
import Derived.Test.YtfhbjajhmegdmaaRv7
import Derived.Test.YtfhbjajhmegdmaaShp
import Derived.Test.YtfhbjajhmegdmaaVtQ
import Derived.Test.YtfhbjajhmegdmaaNews3
namespace Go.Proofs.Ytfhbjajhmegdmaa
set_option maxRecDepth 100000
open Go.RowKit
set_option linter.unusedVariables false
set_option linter.unusedSimpArgs false

/-- Both tallies: V is the program's, U the reference's; their memory lies from B on, below lo, or (if the flag is set) from hi on. -/
structure Pl (B : Nat) (e : Int) (l : List Int) (p q lo hi : Nat) (b1 b2 : Bool) (w : World) (V U : List Vt) : Prop where
  ok : VOk e l V
  ok2 : VOk e l U
  ex : ∃ M1 M2 mv mc ol, (∀ j, M1 j → B ≤ j) ∧ (∀ j, M2 j → B ≤ j) ∧ (∀ j, M1 j → ¬ M2 j) ∧ (∀ j, M1 j → j < lo ∨ (b1 = true ∧ hi ≤ j)) ∧ (∀ j, M2 j → j < lo ∨ (b2 = true ∧ hi ≤ j)) ∧ TalAt M1 w p mv mc e l V ∧ RTal M2 w q ol e l U
section
variable {B : Nat} {e : Int} {l : List Int} {p q lo hi : Nat} {b1 b2 : Bool} {w w' : World} {V U : List Vt}
theorem Pl.keep {Y : Nat → Prop} (h : Pl B e l p q lo hi b1 b2 w V U) (hk : Keep Y w w') (hY : ∀ j, Y j → lo ≤ j ∧ j < hi) : Pl B e l p q lo hi b1 b2 w' V U := by
  obtain ⟨M1, M2, mv, mc, ol, h1, h2, h3, h4, h5, h6, h7⟩ := h.ex
  refine ⟨h.ok, h.ok2, M1, M2, mv, mc, ol, h1, h2, h3, h4, h5, h6.keep hk (fun j hj hm => ?_), h7.keep hk (fun j hj hm => ?_)⟩
  · have := hY j hj; rcases h4 j hm with h | h <;> omega
  · have := hY j hj; rcases h5 j hm with h | h <;> omega
theorem Pl.old (h : Pl B e l p q lo hi b1 b2 w V U) (hb : Below w.heap.size w w') : Pl B e l p q lo hi b1 b2 w' V U := h.keep (Y := fun _ => False) (Keep.of_below hb) (fun _ h => h.elim)
theorem Pl.fresh (h : Pl B e l p q lo hi b1 b2 w V U) (hi' : Nat) : Pl B e l p q w.heap.size hi' false false w V U := by
  obtain ⟨M1, M2, mv, mc, ol, h1, h2, h3, h4, h5, h6, h7⟩ := h.ex
  exact ⟨h.ok, h.ok2, M1, M2, mv, mc, ol, h1, h2, h3, fun j hj => .inl (h6.lt j hj), fun j hj => .inl (h7.lt j hj), h6, h7⟩
theorem Pl.gap (h : Pl B e l p q lo hi false false w V U) (hi' : Nat) : Pl B e l p q lo hi' false false w V U := by
  obtain ⟨M1, M2, mv, mc, ol, h1, h2, h3, h4, h5, h6, h7⟩ := h.ex
  exact ⟨h.ok, h.ok2, M1, M2, mv, mc, ol, h1, h2, h3, fun j hj => (h4 j hj).elim .inl (fun h => by cases h.1), fun j hj => (h5 j hj).elim .inl (fun h => by cases h.1), h6, h7⟩
/-- What Add may change in old memory. -/
def Wr (B lo : Nat) : Nat → Prop := fun k => B ≤ k ∧ k < lo
theorem Pl.add (h : Pl B e l p q lo hi false b2 w V U) (hhi : hi ≤ w.heap.size) (x : Int) (t : ByteArray) (b : Option Addr) (m d : Nat) (nx : List Int) (sa : Option Addr) (sn sc : Nat) (sigs : List Sg)
    (hxx : i64 x) (ht : t.size ≤ 140737488355328) (hx : SlAt Sh.int w b m d nx) (hs : SlAt shSig w sa sn sc sigs) :
    Calls Try.prog 15 #[.pointer (some ⟨p, 0, none⟩), .int .i64 x, .string t, .slice b m d, .slice sa sn sc] w fun r w' => r = .returned (.int .i64 (addE e l V x t nx sigs)) ∧ Keep (Wr B lo) w w' ∧ Pl B e l p q lo hi true b2 w' (addV e l V x t nx sigs) U := by
  obtain ⟨M1, M2, mv, mc, ol, h1, h2, h3, h4, h5, h6, h7⟩ := h.ex
  refine (vadd_any M1 p mv mc e l V x t b m d nx sa sn sc sigs w h6 h.ok hxx ht (ints_of_sl hx) (fun hn => ⟨hx.nil hn, by have := hx.nil hn; have := hx.cap; omega⟩) hx.bytes hs).mono ?_
  rintro r w' ⟨rfl, hk, M, hM, hT⟩
  have lo1 : ∀ j, M1 j → j < lo := fun j hj => (h4 j hj).elim id (fun h => by cases h.1)
  refine ⟨rfl, hk.mono (fun j hj => ?_), h.ok.add ht, h.ok2, M, M2, mv, mc, ol, fun j hj => (hM j hj).elim (h1 j) (fun h => ?_), h2, fun j hj hj2 => ?_, fun j hj => (hM j hj).elim (fun h => .inl (lo1 j h)) (fun h => .inr ⟨rfl, by omega⟩), h5, hT, h7.keep hk (fun j hj => ?_)⟩
  · rcases hj with rfl | rfl
    · exact ⟨h1 _ h6.mine.2.1, lo1 _ h6.mine.2.1⟩
    · exact ⟨h1 _ h6.mine.2.2, lo1 _ h6.mine.2.2⟩
  · have := h1 p h6.mine.1; have := h6.lt p h6.mine.1; omega
  · rcases hM j hj with hm | hm
    · exact h3 j hm hj2
    · have := h7.lt j hj2; omega
  · rcases hj with rfl | rfl
    · exact h3 _ h6.mine.2.1
    · exact h3 _ h6.mine.2.2
theorem Pl.radd (h : Pl B e l p q lo hi b1 false w V U) (hhi : hi ≤ w.heap.size) (x : Int) (t : ByteArray) (b : Option Addr) (m d : Nat) (nx : List Int) (sa : Option Addr) (sn sc : Nat) (sigs : List Sg)
    (hxx : i64 x) (ht : t.size ≤ 140737488355328) (hx : Rob (Wr B lo) (fun w' => SlAt Sh.int w' b m d nx) w) (hs : Rob (Wr B lo) (fun w' => SlAt shSig w' sa sn sc sigs) w) :
    Calls Try.prog 16 #[.pointer (some ⟨q, 0, none⟩), .int .i64 x, .string t, .slice b m d, .slice sa sn sc] w fun r w' => r = .returned (.int .i64 (addE e l U x t nx sigs)) ∧ Keep (Wr B lo) w w' ∧ Pl B e l p q lo hi b1 true w' V (addV e l U x t nx sigs) := by
  obtain ⟨M1, M2, mv, mc, ol, h1, h2, h3, h4, h5, h6, h7⟩ := h.ex
  have lo2 : ∀ j, M2 j → j < lo := fun j hj => (h5 j hj).elim id (fun h => by cases h.1)
  have hw : ∀ j, ol = some j → Wr B lo j := fun j hj => ⟨h2 j (h7.mine.2 j hj), lo2 j (h7.mine.2 j hj)⟩
  refine (radd15_any M2 q ol e l U x t b m d nx sa sn sc sigs w h7 h.ok2 (hx.step (Keep.refl (fun _ => False) _) (fun _ _ h => h.elim) (fun j _ hj => hw j hj)) (hs.step (Keep.refl (fun _ => False) _) (fun _ _ h => h.elim) (fun j _ hj => hw j hj)) hxx ht).mono ?_
  rintro r w' ⟨rfl, hk, M, ol', hM0, hM, hT⟩
  refine ⟨rfl, hk.mono (fun j hj => ?_), h.ok, h.ok2.add ht, M1, M, mv, mc, ol', h1, fun j hj => (hM j hj).elim (h2 j) (fun h => ?_), fun j hj hj2 => ?_, h4, fun j hj => (hM j hj).elim (fun h => .inl (lo2 j h)) (fun h => .inr ⟨rfl, by omega⟩), h6.keep hk (fun j hj hm => ?_), hT⟩
  · rcases hj with rfl | hj
    · exact ⟨h2 _ h7.mine.1, lo2 _ h7.mine.1⟩
    · exact hw j hj
  · have := h2 q h7.mine.1; have := h7.lt q h7.mine.1; omega
  · rcases hM j hj2 with hm | hm
    · exact h3 j hj hm
    · have := h6.lt j hj; omega
  · rcases hj with rfl | hj
    · exact h3 _ hm h7.mine.1
    · exact h3 _ hm (h7.mine.2 j hj)
theorem Pl.count (h : Pl B e l p q lo hi b1 b2 w V U) : Calls Try.prog 17 #[.pointer (some ⟨p, 0, none⟩)] w fun r w' => r = .returned (.int .i64 V.length) ∧ w = w' := by
  obtain ⟨M1, M2, mv, mc, ol, h1, h2, h3, h4, h5, h6, h7⟩ := h.ex
  exact vcount_any M1 p mv mc e l V w h6
theorem Pl.row (h : Pl B e l p q lo hi b1 b2 w V U) : ∃ e' a n c al cl, w.heap[q]? = some (.cells #[.int .i64 e', .slice a n c, .slice al U.length cl] 45 (0, 0)) := by
  obtain ⟨M1, M2, mv, mc, ol, h1, h2, h3, h4, h5, h6, h7⟩ := h.ex
  obtain ⟨a, n, c, al, cl, hp, _⟩ := h7.view h.ok2.ten
  exact ⟨_, a, n, c, al, cl, hp⟩
theorem Pl.sets (h : Pl B e l p q lo hi b1 b2 w V U) : Calls Try.prog 18 #[.pointer (some ⟨p, 0, none⟩)] w (SetPost e l V w) := by
  obtain ⟨M1, M2, mv, mc, ol, h1, h2, h3, h4, h5, h6, h7⟩ := h.ex
  exact vsettled_any M1 p mv mc e l V w h6 h.ok
theorem Pl.rsets (h : Pl B e l p q lo hi b1 b2 w V U) : Calls Try.prog 19 #[.pointer (some ⟨q, 0, none⟩)] w (SetPost e l U w) := by
  obtain ⟨M1, M2, mv, mc, ol, h1, h2, h3, h4, h5, h6, h7⟩ := h.ex
  exact rsettled_any M2 q ol e l U w h7 h.ok2
theorem pl_new {w3 w4 : World} {M1 M2 : Nat → Prop} {mv mc z : Nat} (hr : rightB e l = true) (hT : TalAt M1 w3 p mv mc e l []) (hM1 : ∀ j, M1 j → B ≤ j) (hb : Below w3.heap.size w3 w4) (hR : RTal M2 w4 q none e l []) (hM2 : ∀ j, M2 j → w3.heap.size ≤ j) : Pl B e l p q w4.heap.size z false false w4 [] [] := by
  have h4 := hT.old hb
  have hB : B ≤ w3.heap.size := by have := hM1 p hT.mine.1; have := hT.lt p hT.mine.1; omega
  exact ⟨VOk.nil hr, VOk.nil hr, M1, M2, mv, mc, none, hM1, fun j hj => Nat.le_trans hB (hM2 j hj), fun j hj hj2 => by have := hT.lt j hj; have := hM2 j hj2; omega, fun j hj => .inl (h4.lt j hj), fun j hj => .inl (hR.lt j hj), h4, hR⟩
end

def outT (l : List Int) (V : List Vt) : ByteArray := match winner l V with | none => ⟨#[]⟩ | some y => y.1
def outE (e : Int) (l : List Int) (V : List Vt) : Int := match winner l V with | none => 0 | some _ => e + 1
def outA (e : Int) (l : List Int) (V : List Vt) : List Sg := match winner l V with | none => [] | some y => (who l V y).map fun x => (x, stS e y.1)
def outN (l : List Int) (V : List Vt) : List Int := match winner l V with | none => [] | some y => y.2
def outC (e : Int) (l : List Int) (V : List Vt) : List Sg := match winner l V with | none => [] | some y => (who l V y).map fun x => (x, textS (e + 1) y.2)
theorem sl_none {α : Type} (S : Sh α) (w : World) : SlAt S w none 0 0 [] := ⟨rfl, Nat.le_refl _, by omega, by omega, fun _ => rfl, fun i y hy => by cases hy⟩
theorem set_all {e : Int} {l : List Int} {V : List Vt} {w w' : World} {r : Ending} (h : SetPost e l V w r w') : Below w.heap.size w w' ∧ ∃ a1 n1 c1 a2 n2 c2 a3 n3 c3, r = .returned (.tuple #[.agg #[.string (outT l V), .slice a1 n1 c1, .int .i64 (outE e l V), .slice a2 n2 c2, .slice a3 n3 c3], .bool (winner l V).isSome]) ∧
    SlAt shSig w' a1 n1 c1 (outA e l V) ∧ SlAt Sh.int w' a2 n2 c2 (outN l V) ∧ SlAt shSig w' a3 n3 c3 (outC e l V) := by
  obtain ⟨hb, h⟩ := h
  refine ⟨hb, ?_⟩
  unfold outT outE outA outN outC
  cases hw : winner l V with
  | none =>
    rw [hw] at h
    exact ⟨none, 0, 0, none, 0, 0, none, 0, 0, h, sl_none _ _, sl_none _ _, sl_none _ _⟩
  | some y =>
    rw [hw] at h
    obtain ⟨a1, c1, a2, n2, c2, a3, c3, h1, h2⟩ := h
    obtain ⟨g1, g2, g3⟩ := h2.self
    exact ⟨a1, _, c1, a2, n2, c2, a3, _, c3, h1, g1, g2, g3⟩

set_option maxHeartbeats 1000000 in
theorem same15_yes (t : ByteArray) (a1 : Option Addr) (n1 c1 : Nat) (ep : Int) (a2 : Option Addr) (n2 c2 : Nat) (a3 : Option Addr) (n3 c3 : Nat) (d1 : Option Addr) (m1 f1 : Nat) (d2 : Option Addr) (m2 f2 : Nat) (d3 : Option Addr) (m3 f3 : Nat) (A : List Sg) (nx : List Int) (C : List Sg) (w : World)
    (h1 : SlAt shSig w a1 n1 c1 A) (h2 : SlAt Sh.int w a2 n2 c2 nx) (h3 : SlAt shSig w a3 n3 c3 C) (g1 : SlAt shSig w d1 m1 f1 A) (g2 : SlAt Sh.int w d2 m2 f2 nx) (g3 : SlAt shSig w d3 m3 f3 C) :
    Calls Try.prog 20 #[.agg #[.string t, .slice a1 n1 c1, .int .i64 ep, .slice a2 n2 c2, .slice a3 n3 c3], .agg #[.string t, .slice d1 m1 f1, .int .i64 ep, .slice d2 m2 f2, .slice d3 m3 f3]] w fun r w' => r = .returned (.bool true) ∧ Below w.heap.size w w' := by
  obtain ⟨w1, hw1⟩ : ∃ w1, w1 = w.alloc (.cells #[.string t, .slice a1 n1 c1, .int .i64 ep, .slice a2 n2 c2, .slice a3 n3 c3] 51 (0, 0)) := ⟨_, rfl⟩
  obtain ⟨w2, hw2⟩ : ∃ w2, w2 = w1.alloc (.cells #[.string t, .slice d1 m1 f1, .int .i64 ep, .slice d2 m2 f2, .slice d3 m3 f3] 54 (0, 0)) := ⟨_, rfl⟩
  have b1 : Below w.heap.size w w1 := by rw [hw1]; exact below_alloc _ _
  have b2 : Below w1.heap.size w1 w2 := by rw [hw2]; exact below_alloc _ _
  have k1 : w2.heap[w.heap.size]? = some (.cells #[.string t, .slice a1 n1 c1, .int .i64 ep, .slice a2 n2 c2, .slice a3 n3 c3] 51 (0, 0)) := blk_below (by rw [hw1]; exact blk_alloc _ _) b2
  have k2 : w2.heap[w1.heap.size]? = some (.cells #[.string t, .slice d1 m1 f1, .int .i64 ep, .slice d2 m2 f2, .slice d3 m3 f3] 54 (0, 0)) := by rw [hw2]; exact blk_alloc _ _
  have hz1 : w1.heap.size = w.heap.size + 1 := by rw [hw1]; simp
  have b := bthen b1 b2
  have K1 := Lib.hid k1; have K2 := Lib.hid k2; have BB := Lib.hid b
  have C1 := Lib.hid (fun (w' : World) (hb : Below w2.heap.size w2 w') => samesigs_any a1 n1 c1 A d1 m1 f1 A w' ((h1.old b).old hb) ((g1.old b).old hb))
  have C2 := Lib.hid (fun (w' : World) (hb : Below w2.heap.size w2 w') => samec_any ep a2 n2 c2 nx ep d2 m2 f2 nx w' (ints_of_sl ((h2.old b).old hb)) (ints_of_sl ((g2.old b).old hb)))
  have C3 := Lib.hid (fun (w' : World) (hb : Below w2.heap.size w2 w') => samesigs_any a3 n3 c3 C d3 m3 f3 C w' ((h3.old b).old hb) ((g3.old b).old hb))
  rw [hz1] at K2
  clear h1 h2 h3 g1 g2 g3 b b1 b2 k1 k2 hz1
  have y0 : w2.cell? ⟨w.heap.size, 0, none⟩ = some (.string t) := by rw [blk_cell K1.out]; rfl
  have y1 : w2.cell? ⟨w.heap.size, 1, none⟩ = some (.slice a1 n1 c1) := by rw [blk_cell K1.out]; rfl
  have z0 : w2.cell? ⟨w.heap.size + 1, 0, none⟩ = some (.string t) := by rw [blk_cell K2.out]; rfl
  have z1 : w2.cell? ⟨w.heap.size + 1, 1, none⟩ = some (.slice d1 m1 f1) := by rw [blk_cell K2.out]; rfl
  have l1 := blk_lt K1.out
  have l2 := blk_lt K2.out
  go_enter Try.func20, Try.ntmps20
  go_upto_region 1 with (fail)
  rw [← hw1, ← hw2]
  clear hw1 hw2
  go_wp2_with fail
  refine (C1.out _ (Below.refl _ _)).mono ?_
  rintro r w5 ⟨rfl, j5, rfl⟩
  have b5 := below_drewN (Below.refl w2.heap.size w2) j5
  simp only [decide_true]
  generalize w2.drewN j5 = w5 at *
  clear y0 y1 z0 z1 C1
  have K5 := Lib.hid (blk_below K1.out b5); have L5 := Lib.hid (blk_below K2.out b5)
  have y2 : w5.cell? ⟨w.heap.size, 2, none⟩ = some (.int .i64 ep) := by rw [blk_cell K5.out]; rfl
  have y3 : w5.cell? ⟨w.heap.size, 3, none⟩ = some (.slice a2 n2 c2) := by rw [blk_cell K5.out]; rfl
  have z2 : w5.cell? ⟨w.heap.size + 1, 2, none⟩ = some (.int .i64 ep) := by rw [blk_cell L5.out]; rfl
  have z3 : w5.cell? ⟨w.heap.size + 1, 3, none⟩ = some (.slice d2 m2 f2) := by rw [blk_cell L5.out]; rfl
  have CC := C2.out _ b5
  have B5 := Lib.hid b5
  clear b5 C2
  go_wp2_with fail
  refine CC.mono ?_
  rintro r w6 ⟨rfl, b6⟩
  simp only [decide_true]
  clear y2 y3 z2 z3 CC
  have K6 := Lib.hid (blk_below K5.out b6); have L6 := Lib.hid (blk_below L5.out b6)
  have y4 : w6.cell? ⟨w.heap.size, 4, none⟩ = some (.slice a3 n3 c3) := by rw [blk_cell K6.out]; rfl
  have z4 : w6.cell? ⟨w.heap.size + 1, 4, none⟩ = some (.slice d3 m3 f3) := by rw [blk_cell L6.out]; rfl
  have CC := C3.out _ (bthen B5.out b6)
  have B6 := Lib.hid (bthen B5.out b6)
  clear b6 C3
  go_wp2_with fail
  refine CC.mono ?_
  rintro r w7 ⟨rfl, j7, rfl⟩
  simp only [decide_true]
  go_wp2_with fail
  go_ret
  exact ⟨rfl, below_drewN (bthen BB.out B6.out) j7⟩
end Go.Proofs.Ytfhbjajhmegdmaa
