
/- Wire: walks of the program's tests: empty. -/
import Derived.Test.YtijeieamodjgbaaWc
namespace Go.Proofs.Ytijeieamodjgbaa
set_option maxRecDepth 100000
open Go.RowKit Go.Deep
set_option linter.unusedVariables false
set_option linter.unusedSimpArgs false
attribute [local go_sem] run_store_float

def emptyB (m : Mg) : Bool := decide (m.e = 0 ∧ m.v = 0 ∧ m.s = 0 ∧ m.nx.length + m.sg.length + m.ch.length + m.lk.length = 0) && decide (m.t.size = 0) && m.q.nil && decide (m.c = 0) && decide (canonB m.r = 0)
theorem ofInt_zero {x : Int} (h : i64 x) : (BitVec.ofInt 64 x).toNat = 0 ↔ x = 0 := by
  have h1 := h.1; have h2 := h.2
  rw [BitVec.toNat_ofInt]
  constructor
  · intro hh
    have : x % (2 ^ 64 : Nat) = 0 := by have h3 := Int.emod_nonneg x (show ((2 ^ 64 : Nat) : Int) ≠ 0 by decide); omega
    have e : ((2 ^ 64 : Nat) : Int) = 18446744073709551616 := by decide
    rw [e] at this
    omega
  · rintro rfl
    decide
theorem bits_or_i64 (x y : Int) : i64 (bits BinOp.or IntKind.i64 x y) := by
  have := wf_bits BinOp.or .i64 x y
  have h2 := bounds_i64 this
  exact h2
theorem or_zero {x y : Int} (hx : i64 x) (hy : i64 y) : bits BinOp.or IntKind.i64 x y = 0 ↔ x = 0 ∧ y = 0 := by
  show IntKind.i64.wrap ((BitVec.ofInt 64 x ||| BitVec.ofInt 64 y).toNat : Int) = 0 ↔ _
  have h1 := ofInt_zero hx
  have h2 := ofInt_zero hy
  have hb1 := (BitVec.ofInt 64 x).isLt
  have hb2 := (BitVec.ofInt 64 y).isLt
  rw [BitVec.toNat_or]
  have h3 : (BitVec.ofInt 64 x).toNat ||| (BitVec.ofInt 64 y).toNat < 2 ^ 64 := Nat.or_lt_two_pow hb1 hb2
  have h4 : ((BitVec.ofInt 64 x).toNat ||| (BitVec.ofInt 64 y).toNat) = 0 ↔ (BitVec.ofInt 64 x).toNat = 0 ∧ (BitVec.ofInt 64 y).toNat = 0 := Nat.or_eq_zero_iff
  rw [← h1, ← h2, ← h4]
  generalize (BitVec.ofInt 64 x).toNat ||| (BitVec.ofInt 64 y).toNat = n at *
  rw [IntKind.wrap_i64]
  try simp only [wrap64]
  omega
theorem or_four {a b c d : Int} (ha : i64 a) (hb : i64 b) (hc : i64 c) (hd : i64 d) : bits BinOp.or IntKind.i64 (bits BinOp.or IntKind.i64 (bits BinOp.or IntKind.i64 a b) c) d = 0 ↔ a = 0 ∧ b = 0 ∧ c = 0 ∧ d = 0 := by
  rw [or_zero (bits_or_i64 _ _) hd, or_zero (bits_or_i64 _ _) hc, or_zero ha hb]
  constructor
  · rintro ⟨⟨⟨h1, h2⟩, h3⟩, h4⟩; exact ⟨h1, h2, h3, h4⟩
  · rintro ⟨h1, h2, h3, h4⟩; exact ⟨⟨⟨h1, h2⟩, h3⟩, h4⟩
set_option maxHeartbeats 4000000 in
theorem empty_any (m : Mg) (a1 : Option Addr) (n1 c1 : Nat) (a2 : Option Addr) (n2 c2 : Nat) (a3 : Option Addr) (n3 c3 : Nat) (a4 : Option Addr) (n4 c4 : Nat) (w : World) (hm : MsgIn w m a1 n1 c1 a2 n2 c2 a3 n3 c3 a4 n4 c4) :
    Calls Try.prog 106 #[.agg (mgCs m a1 n1 c1 a2 n2 c2 a3 n3 c3 a4 n4 c4).toArray] w fun r w' => r = .returned (.bool (emptyB m)) ∧ Below w.heap.size w w' := by
  obtain ⟨w1, hw1⟩ : ∃ u, u = w.alloc (.cells (mgCs m a1 n1 c1 a2 n2 c2 a3 n3 c3 a4 n4 c4).toArray 166 (0, 0)) := ⟨_, rfl⟩
  have b1 : Below w.heap.size w w1 := by rw [hw1]; exact below_alloc _ _
  have k1 : w1.heap[w.heap.size]? = some (.cells (mgCs m a1 n1 c1 a2 n2 c2 a3 n3 c3 a4 n4 c4).toArray 166 (0, 0)) := by rw [hw1]; exact blk_alloc _ _
  have HA := Lib.hid (show ∀ w', Below w1.heap.size w1 w' → MgAt w' w.heap.size 0 m a1 n1 c1 a2 n2 c2 a3 n3 c3 a4 n4 c4 from fun w' hb => mgAt_blk (blk_below k1 hb))
  have B1 := Lib.hid b1
  have hl1 := hm.nx.bytes; have hl2 := hm.sg.bytes; have hl3 := hm.ch.bytes; have hl4 := hm.lk.bytes
  have hn1 := hm.nx.len; have hn2 := hm.sg.len; have hn3 := hm.ch.len; have hn4 := hm.lk.len
  change n1 * 8 ≤ _ at hl1
  change n2 * 24 ≤ _ at hl2
  change n3 * 64 ≤ _ at hl3
  change n4 * 56 ≤ _ at hl4
  have hq := hm.q
  generalize hCS : (mgCs m a1 n1 c1 a2 n2 c2 a3 n3 c3 a4 n4 c4).toArray = CS at hw1 k1 ⊢
  clear hCS k1 b1
  have CN := Lib.hid (null_rq m.q hq w1)
  simp only [Rq.v] at CN
  have hw2 : IntKind.i64.wrap ((n1 : Int) + n2) = (n1 : Int) + n2 := IntWalk.i64_in _ (by omega)
  have hw3 : IntKind.i64.wrap ((n1 : Int) + n2 + n3) = (n1 : Int) + n2 + n3 := IntWalk.i64_in _ (by omega)
  have hw4 : IntKind.i64.wrap ((n1 : Int) + n2 + n3 + n4) = (n1 : Int) + n2 + n3 + n4 := IntWalk.i64_in _ (by omega)
  have x0 : w1.cell? ⟨w.heap.size, 0, none⟩ = some (.int .i64 m.k) := HA.out _ (Below.refl _ _) 0 _ rfl
  have x1 : w1.cell? ⟨w.heap.size, 1, none⟩ = some (.int .i64 m.e) := HA.out _ (Below.refl _ _) 1 _ rfl
  have x2 : w1.cell? ⟨w.heap.size, 2, none⟩ = some (.int .i64 m.v) := HA.out _ (Below.refl _ _) 2 _ rfl
  have x3 : w1.cell? ⟨w.heap.size, 3, none⟩ = some (.int .i64 m.s) := HA.out _ (Below.refl _ _) 3 _ rfl
  have x4 : w1.cell? ⟨w.heap.size, 4, none⟩ = some (.int .i64 m.q.c) := HA.out _ (Below.refl _ _) 4 _ rfl
  have x5 : w1.cell? ⟨w.heap.size, 5, none⟩ = some (.int .i64 m.q.s) := HA.out _ (Below.refl _ _) 5 _ rfl
  have x6 : w1.cell? ⟨w.heap.size, 6, none⟩ = some (.int .i64 m.q.kind) := HA.out _ (Below.refl _ _) 6 _ rfl
  have x7 : w1.cell? ⟨w.heap.size, 7, none⟩ = some (.string m.q.key) := HA.out _ (Below.refl _ _) 7 _ rfl
  have x8 : w1.cell? ⟨w.heap.size, 8, none⟩ = some (.float .f64 m.q.b) := HA.out _ (Below.refl _ _) 8 _ rfl
  have x9 : w1.cell? ⟨w.heap.size, 9, none⟩ = some (.int .i64 m.q.id) := HA.out _ (Below.refl _ _) 9 _ rfl
  have x10 : w1.cell? ⟨w.heap.size, 10, none⟩ = some (.int .i64 m.c) := HA.out _ (Below.refl _ _) 10 _ rfl
  have x11 : w1.cell? ⟨w.heap.size, 11, none⟩ = some (.float .f64 m.r) := HA.out _ (Below.refl _ _) 11 _ rfl
  have x12 : w1.cell? ⟨w.heap.size, 12, none⟩ = some (.string m.t) := HA.out _ (Below.refl _ _) 12 _ rfl
  have x13 : w1.cell? ⟨w.heap.size, 13, none⟩ = some (.slice a1 n1 c1) := HA.out _ (Below.refl _ _) 13 _ rfl
  have x14 : w1.cell? ⟨w.heap.size, 14, none⟩ = some (.slice a2 n2 c2) := HA.out _ (Below.refl _ _) 14 _ rfl
  have x15 : w1.cell? ⟨w.heap.size, 15, none⟩ = some (.slice a3 n3 c3) := HA.out _ (Below.refl _ _) 15 _ rfl
  have x16 : w1.cell? ⟨w.heap.size, 16, none⟩ = some (.slice a4 n4 c4) := HA.out _ (Below.refl _ _) 16 _ rfl
  have HF := Lib.hid (show bits BinOp.or IntKind.i64 (bits BinOp.or IntKind.i64 (bits BinOp.or IntKind.i64 m.e m.v) m.s) ((n1 : Int) + n2 + n3 + n4) = 0 ↔ (m.e = 0 ∧ m.v = 0 ∧ m.s = 0 ∧ m.nx.length + m.sg.length + m.ch.length + m.lk.length = 0) from by
    rw [or_four hm.e hm.v hm.s ⟨by omega, by omega⟩, hn1, hn2, hn3, hn4]
    constructor
    · rintro ⟨h1, h2, h3, h4⟩; exact ⟨h1, h2, h3, by omega⟩
    · rintro ⟨h1, h2, h3, h4⟩; exact ⟨h1, h2, h3, by omega⟩)
  obtain ⟨b0, hb0⟩ : ∃ b, b = decide (m.e = 0 ∧ m.v = 0 ∧ m.s = 0 ∧ m.nx.length + m.sg.length + m.ch.length + m.lk.length = 0) := ⟨_, rfl⟩
  obtain ⟨bt, hbt⟩ : ∃ b, b = decide (m.t.size = 0) := ⟨_, rfl⟩
  have HE := Lib.hid (show emptyB m = (b0 && bt && nullQ m.q.c m.q.s m.q.kind m.q.key m.q.b m.q.id && decide (m.c = 0) && decide (canonB m.r = 0)) from by rw [hb0, hbt]; rfl)
  generalize emptyB m = R at HE ⊢
  generalize nullQ m.q.c m.q.s m.q.kind m.q.key m.q.b m.q.id = NL at CN HE
  clear hl1 hl2 hl3 hl4 hm
  go_enter Try.func106, Try.ntmps106
  go_upto_region 1 with (fail)
  rw [← hw1]
  clear hw1
  go_upto_region 2 with (fail)
  generalize hz : bits BinOp.or IntKind.i64 (bits BinOp.or IntKind.i64 (bits BinOp.or IntKind.i64 m.e m.v) m.s) ((n1 : Int) + n2 + n3 + n4) = Z at HF
  cases b0
  · have h0 : (Z == 0) = false := by
      have h1 : ¬ Z = 0 := fun hh => by have := HF.out.1 hh; simp [this] at hb0
      simpa using h1
    have hr : R = false := HE.out
    clear HE HF hb0
    go_wp2_with fail
    go_ret
    exact ⟨by first | rfl | (rw [hr]; rfl), B1.out⟩
  have h0 : Z = 0 := by
    have : m.e = 0 ∧ m.v = 0 ∧ m.s = 0 ∧ m.nx.length + m.sg.length + m.ch.length + m.lk.length = 0 := of_decide_eq_true hb0.symm
    exact HF.out.2 this
  subst h0
  clear HF hb0
  cases bt
  · have ht : m.t.toList.isEmpty = false := by rw [str_empty]; exact hbt.symm
    have hr : R = false := HE.out
    clear HE hbt
    go_wp2_with fail
    go_ret
    exact ⟨by first | rfl | (rw [hr]; rfl), B1.out⟩
  have ht : m.t.toList.isEmpty = true := by rw [str_empty]; exact hbt.symm
  clear hbt
  go_wp2_with fail
  refine CN.out.mono ?_
  rintro r w2 ⟨rfl, b2⟩
  have B2 := Lib.hid (bthen B1.out b2)
  have y10 : w2.cell? ⟨w.heap.size, 10, none⟩ = some (.int .i64 m.c) := HA.out _ b2 10 _ rfl
  have y11 : w2.cell? ⟨w.heap.size, 11, none⟩ = some (.float .f64 m.r) := HA.out _ b2 11 _ rfl
  clear b2 CN B1 HA x0 x1 x2 x3 x4 x5 x6 x7 x8 x9 x10 x11 x12 x13 x14 x15 x16
  cases NL
  · have hr : R = false := HE.out
    clear HE
    go_wp2_with fail
    go_ret
    exact ⟨by first | rfl | (rw [hr]; rfl), B2.out⟩
  cases hc : (m.c == 0)
  · have hr : R = false := by rw [HE.out, show decide (m.c = 0) = false by rw [← beqZ]; exact hc]; rfl
    clear HE
    go_wp2_with fail
    go_ret
    exact ⟨by first | rfl | (rw [hr]; rfl), B2.out⟩
  have HR := Lib.hid (show R = decide (canonB m.r = 0) by rw [HE.out, show decide (m.c = 0) = true by rw [← beqZ]; exact hc]; rfl)
  have CB := Lib.hid (rbits2_any m.r w2)
  have HD := Lib.hid (show (((canonB m.r : Nat) : Int) == 0) = decide (canonB m.r = 0) from by rw [beqZ]; exact decide_eq_decide.2 (by omega))
  generalize canonB m.r = C at HR CB HD
  clear HE
  go_wp2_with fail
  refine CB.out.mono ?_
  rintro r w3 ⟨rfl, rfl⟩
  go_wp2_with fail
  go_ret
  exact ⟨by rw [HR.out, ← HD.out]; rfl, B2.out⟩
end Go.Proofs.Ytijeieamodjgbaa
