
/- ClientNil: a client that isn't there asks nothing and knows nothing: for every input the law returns true, and its arguments read as before. No condition. -/
import Derived.Test.YtijeieamodjgbabCh
import Derived.Test.YtijeieamodjgbabCk
import Derived.Test.YtijeieamodjgbabCa
import Derived.Test.YtijeieamodjgbabCr
import Derived.Test.YtijeieamodjgbabDv
import Derived.Test.YtijeieamodjgbabNews3
import Derived.Test.YtijeieamodjgbabWe
import Derived.Test.YtijeieamodjgbabCo
import Derived.Test.YtijeieamodjgbabCn

namespace Go.Proofs.Ytijeieamodjgbab
set_option maxRecDepth 100000
open Go.ChangeShapes Go.WideShapes Go.ChangeAt Go.RowKit Go.Deep Go.Maps
set_option linter.unusedVariables false
set_option linter.unusedSimpArgs false

/-- A step: its kind, time, sender, ask and message. -/
structure St19 where
  kd : Int
  nw : Int
  fr : Int
  a : Int × Int × Int × ByteArray × Int × Int
  m : Mg
def St19.q (y : St19) : Rq := ⟨y.a.1, y.a.2.1, y.a.2.2.1, y.a.2.2.2.1, y.a.2.2.2.2.1.toNat, y.a.2.2.2.2.2⟩
def shAsk19 : Sh (Int × Int × Int × ByteArray × Int × Int) := (Sh.int.pair (Sh.int.pair (Sh.int.pair (Sh.str.pair (Sh.u64.pair Sh.int))))).bytes 56
theorem vwAsk19 : Vw Try.prog 43 shAsk19 := vw_struct Try.underlying43 (fsv_cons vwInt (fsv_cons vwInt (fsv_cons vwInt (fsv_cons vwStr (fsv_cons vwU64 (fsv_one vwInt) rfl) rfl) rfl) rfl) rfl) (by kernel_rfl) (by kernel_rfl)
def shStep19 : Sh St19 := ((Sh.int.pair (Sh.int.pair (Sh.int.pair (shAsk19.pair shMsg)))).bytes 296).map fun s => (s.kd, s.nw, s.fr, s.a, s.m)
theorem vwStep19 : Vw Try.prog 52 shStep19 := vw_map _ (fun y => ⟨y.1, y.2.1, y.2.2.1, y.2.2.2.1, y.2.2.2.2⟩) (fun _ => rfl) (vw_struct Try.underlying52 (fsv_cons vwInt (fsv_cons vwInt (fsv_cons vwInt (fsv_cons vwAsk19 (fsv_one vwMsg) rfl) rfl) rfl) rfl) (by kernel_rfl) (by kernel_rfl))
def stCs (y : St19) (a1 : Option Addr) (n1 c1 : Nat) (a2 : Option Addr) (n2 c2 : Nat) (a3 : Option Addr) (n3 c3 : Nat) (a4 : Option Addr) (n4 c4 : Nat) : List Value :=
  .int .i64 y.kd :: .int .i64 y.nw :: .int .i64 y.fr :: .int .i64 y.q.c :: .int .i64 y.q.s :: .int .i64 y.q.kind :: .string y.q.key :: .int .u64 y.q.b :: .int .i64 y.q.id :: mgCs y.m a1 n1 c1 a2 n2 c2 a3 n3 c3 a4 n4 c4
structure StepIn (w : World) (y : St19) (a1 : Option Addr) (n1 c1 : Nat) (a2 : Option Addr) (n2 c2 : Nat) (a3 : Option Addr) (n3 c3 : Nat) (a4 : Option Addr) (n4 c4 : Nat) : Prop where
  kd : i64 y.kd
  nw : i64 y.nw
  fr : i64 y.fr
  q : y.q.Ok
  m : MsgIn w y.m a1 n1 c1 a2 n2 c2 a3 n3 c3 a4 n4 c4
theorem step19_open {w : World} {y : St19} {cs : List Value} (h : shStep19.E w y cs) : ∃ a1 n1 c1 a2 n2 c2 a3 n3 c3 a4 n4 c4, cs = stCs y a1 n1 c1 a2 n2 c2 a3 n3 c3 a4 n4 c4 ∧ StepIn w y a1 n1 c1 a2 n2 c2 a3 n3 c3 a4 n4 c4 := by
  obtain ⟨kd, nw, fr, ⟨c, s, kind, key, b, id⟩, m⟩ := y
  obtain ⟨_, _, rfl, ⟨rfl, h1⟩, _, _, rfl, ⟨rfl, h2⟩, _, _, rfl, ⟨rfl, h3⟩, _, _, rfl, ⟨_, _, rfl, ⟨rfl, g1⟩, _, _, rfl, ⟨rfl, g2⟩, _, _, rfl, ⟨rfl, g3⟩, _, _, rfl, ⟨rfl, g4⟩, _, _, rfl, ⟨rfl, g5, g6⟩, rfl, g7⟩, hm⟩ := h
  obtain ⟨a1, n1, c1, a2, n2, c2, a3, n3, c3, a4, n4, c4, rfl, hmi⟩ := msg_open hm
  refine ⟨a1, n1, c1, a2, n2, c2, a3, n3, c3, a4, n4, c4, ?_, h1, h2, h3, ⟨g1, g2, g3, g7, ?_, g4⟩, hmi⟩
  · have hb : ((b.toNat : Nat) : Int) = b := Int.toNat_of_nonneg g5
    show _ = Value.int .i64 kd :: .int .i64 nw :: .int .i64 fr :: .int .i64 c :: .int .i64 s :: .int .i64 kind :: .string key :: .int .u64 ((b.toNat : Nat) : Int) :: .int .i64 id :: mgCs m a1 n1 c1 a2 n2 c2 a3 n3 c3 a4 n4 c4
    rw [hb]
    rfl
  · show b.toNat < _
    dsimp only at g5 g6
    omega
theorem StepIn.old {w w' : World} {y : St19} {a1 : Option Addr} {n1 c1 : Nat} {a2 : Option Addr} {n2 c2 : Nat} {a3 : Option Addr} {n3 c3 : Nat} {a4 : Option Addr} {n4 c4 : Nat} (h : StepIn w y a1 n1 c1 a2 n2 c2 a3 n3 c3 a4 n4 c4) (hb : Below w.heap.size w w') : StepIn w' y a1 n1 c1 a2 n2 c2 a3 n3 c3 a4 n4 c4 := ⟨h.kd, h.nw, h.fr, h.q, h.m.old hb⟩
end Go.Proofs.Ytijeieamodjgbab

namespace Go.Proofs.Ytijeieamodjgbab
set_option maxRecDepth 100000
open Go.RowKit Go.Deep
set_option linter.unusedVariables false
set_option linter.unusedSimpArgs false

/-- A block of one thing is made and stored at once. -/
theorem ops_made {ops : Array Oper} {rest : List Oper} {o1 o2 : Oper} {a : Act} {w : World} {Q : Exit → Act → World → Prop} (T : TypeId) (zs : List Value) (hg1 : o1.guard = none) (hg2 : o2.guard = none) (x y : Operand) (hal : ∀ ρ w, (execOp ρ o1).run Try.prog w = .ok (.value (.pointer (some ⟨w.heap.size, 0, none⟩))) (w.alloc (.cells zs.toArray T (0, 0)))) (ho2 : o2.op = .store T x y)
    (cs : List Value) (hl : cs.length = zs.length) (hinfo : (Try.prog.info? T).map (·.size) = some zs.length) (h1 : cs.toArray.all (·.oneCell') = true)
    (hx : (a.put o1.dst (.pointer (some ⟨w.heap.size, 0, none⟩))).eval x = .pointer (some ⟨w.heap.size, 0, none⟩)) (hy : (a.put o1.dst (.pointer (some ⟨w.heap.size, 0, none⟩))).eval y = .agg cs.toArray)
    (h : ∀ w', Below w.heap.size w w' → w'.heap[w.heap.size]? = some (.cells cs.toArray T (0, 0)) → w'.heap.size = w.heap.size + 1 → wpList Try.prog ops Q rest ((a.put o1.dst (.pointer (some ⟨w.heap.size, 0, none⟩))).put o2.dst undef) w') :
    wpList Try.prog ops Q (o1 :: o2 :: rest) a w := by
  refine ops_val (w' := w.alloc (.cells zs.toArray T (0, 0))) (by simp [Region.wanted, hg1]) (hal a.eval w) ?_
  have b1 : Below w.heap.size w (w.alloc (.cells zs.toArray T (0, 0))) := below_alloc _ _
  have hz1 : (w.alloc (.cells zs.toArray T (0, 0))).heap.size = w.heap.size + 1 := by simp
  have k1 : (w.alloc (.cells zs.toArray T (0, 0))).heap[w.heap.size]? = some (.cells zs.toArray T (0, 0)) := blk_alloc _ _
  generalize w.alloc (.cells zs.toArray T (0, 0)) = w1 at b1 hz1 k1 ⊢
  refine wpList_store_mid hg2 T x y ho2 w.heap.size 0 cs.toArray hx hy (fun j hj => ⟨?_, ?_⟩) (by rw [List.size_toArray, hl]; exact hinfo) h1 ?_
  · have : j < zs.length := by simpa [hl] using hj
    rw [blk_cell k1, Option.isSome_iff_exists, Nat.zero_add]
    exact ⟨_, Array.getElem?_eq_getElem (by simpa using this)⟩
  · exact blk_frozen k1 _
  · exact h _ (sets_old (Nat.le_refl _) _ b1) (by have := sets_blk cs w1 [] zs k1 hl.symm; simpa using this) (by rw [sets_len, hz1])
end Go.Proofs.Ytijeieamodjgbab

namespace Go.Proofs.Ytijeieamodjgbab
set_option maxRecDepth 100000
open Go.RowKit Go.Deep Go.Maps
set_option linter.unusedVariables false
set_option linter.unusedSimpArgs false
attribute [local go_sem] run_store_float

def keyK : ByteArray := ⟨#[107]⟩
def q19 : Rq := ⟨2, 1, 5, keyK, 0, 0⟩
def msg19 : Mg := ⟨8, 0, 0, 0, q19, 0, 4619567317775286272, ⟨#[]⟩, [], [], [], []⟩
def st19a : Cst := askS (cst0 2 0 [0, 1, 2, 3]) 5 keyK 0 0
def st19b : Cst := handleS st19a 0 msg19
def st19c : Cst := handleS st19b 0 msg19
def st19d : Cst := handleS st19c 3 msg19
theorem st19_ask : askE (cst0 2 0 [0, 1, 2, 3]) 5 keyK 0 0 = 0 := by kernel_rfl
theorem st19_w : wtB st19c = true := by kernel_rfl
theorem st19_q : st19c.q = q19 := by kernel_rfl
theorem st19_ac : st19d.ac.length = 1 := by kernel_rfl
theorem st19_rs : st19d.rs = [(0, 4619567317775286272)] := by kernel_rfl
theorem st19_hs : st19a.hs = 0 ∧ st19b.hs = 1 ∧ st19c.hs = 1 := ⟨by kernel_rfl, by kernel_rfl, by kernel_rfl⟩
set_option maxHeartbeats 1000000 in
theorem four19_any (w : World) : Calls Try.prog 21 #[] w fun r w' => ∃ b, r = .returned (.agg #[.int .i64 0, .slice (some ⟨b, 0, none⟩) 4 4]) ∧ SlAt Sh.int w' (some ⟨b, 0, none⟩) 4 4 [0, 1, 2, 3] ∧ Below w.heap.size w w' := by
  go_enter Try.func21, Try.ntmps21
  go_wp2_with fail
  have k1 := blk_alloc w (.cells #[.int .i64 0, .slice (some ⟨w.heap.size + 1, 0, none⟩) 4 4] 24)
  have b2 := below_alloc (w.alloc (.cells #[.int .i64 0, .slice (some ⟨w.heap.size + 1, 0, none⟩) 4 4] 24)) (.cells #[.int .i64 0, .int .i64 1, .int .i64 2, .int .i64 3] 3)
  have k2 := blk_alloc (w.alloc (.cells #[.int .i64 0, .slice (some ⟨w.heap.size + 1, 0, none⟩) 4 4] 24)) (.cells #[.int .i64 0, .int .i64 1, .int .i64 2, .int .i64 3] 3)
  have k3 := blk_below k1 b2
  rw [World.size_alloc] at k2
  have B2 := bthen (below_alloc w _) b2
  generalize World.alloc (World.alloc _ _) _ = w2 at *
  have x0 : w2.cell? ⟨w.heap.size, 0, none⟩ = some (.int .i64 0) := by rw [blk_cell k3]; rfl
  have x1 : w2.cell? ⟨w.heap.size, 1, none⟩ = some (.slice (some ⟨w.heap.size + 1, 0, none⟩) 4 4) := by rw [blk_cell k3]; rfl
  refine bodyPost_ret (v := .agg #[.int .i64 0, .slice (some ⟨w.heap.size + 1, 0, none⟩) 4 4]) (by simp [results, Try.results21, go_sem, x0, x1]) rfl ⟨w.heap.size + 1, rfl, ?_, B2⟩
  refine ⟨rfl, Nat.le_refl _, by decide, by decide, fun h => (by cases h), fun i y hy => ⟨w.heap.size + 1, 0, [.int .i64 y], rfl, ?_, fun j v hv => ?_⟩⟩
  · have hi : i < 4 := (List.getElem?_eq_some_iff.1 hy).1
    obtain rfl | rfl | rfl | rfl : i = 0 ∨ i = 1 ∨ i = 2 ∨ i = 3 := by omega
    all_goals (injection hy with hy; subst hy; exact ⟨rfl, by simp [i64]⟩)
  · have hj : j = 0 := by have := (List.getElem?_eq_some_iff.1 hv).1; simp at this; omega
    subst hj
    injection hv with hv; subst hv
    have hi : i < 4 := (List.getElem?_eq_some_iff.1 hy).1
    obtain rfl | rfl | rfl | rfl : i = 0 ∨ i = 1 ∨ i = 2 ∨ i = 3 := by omega
    all_goals (injection hy with hy; subst hy; rw [blk_cell k2]; rfl)

set_option maxHeartbeats 1000000 in
theorem get19_any (w : World) : Calls Try.prog 22 #[.int .i64 1] w fun r w' => r = .returned (.agg #[.int .i64 2, .int .i64 1, .int .i64 5, .string keyK, .float .f64 0, .int .i64 0]) ∧ Below w.heap.size w w' := by
  have k1 := blk_alloc w (.cells #[.int .i64 2, .int .i64 1, .int .i64 5, .string keyK, .float .f64 0, .int .i64 0] 35)
  have hb := below_alloc w (.cells #[.int .i64 2, .int .i64 1, .int .i64 5, .string keyK, .float .f64 0, .int .i64 0] 35)
  have x0 : (w.alloc (.cells #[.int .i64 2, .int .i64 1, .int .i64 5, .string ⟨#[107]⟩, .float .f64 0, .int .i64 0] 35)).cell? ⟨w.heap.size, 0, none⟩ = some (.int .i64 2) := by rw [blk_cell (blk_alloc _ _)]; rfl
  have x1 : (w.alloc (.cells #[.int .i64 2, .int .i64 1, .int .i64 5, .string ⟨#[107]⟩, .float .f64 0, .int .i64 0] 35)).cell? ⟨w.heap.size, 1, none⟩ = some (.int .i64 1) := by rw [blk_cell (blk_alloc _ _)]; rfl
  have x2 : (w.alloc (.cells #[.int .i64 2, .int .i64 1, .int .i64 5, .string ⟨#[107]⟩, .float .f64 0, .int .i64 0] 35)).cell? ⟨w.heap.size, 2, none⟩ = some (.int .i64 5) := by rw [blk_cell (blk_alloc _ _)]; rfl
  have x3 : (w.alloc (.cells #[.int .i64 2, .int .i64 1, .int .i64 5, .string ⟨#[107]⟩, .float .f64 0, .int .i64 0] 35)).cell? ⟨w.heap.size, 3, none⟩ = some (.string ⟨#[107]⟩) := by rw [blk_cell (blk_alloc _ _)]; rfl
  have x4 : (w.alloc (.cells #[.int .i64 2, .int .i64 1, .int .i64 5, .string ⟨#[107]⟩, .float .f64 0, .int .i64 0] 35)).cell? ⟨w.heap.size, 4, none⟩ = some (.float .f64 0) := by rw [blk_cell (blk_alloc _ _)]; rfl
  have x5 : (w.alloc (.cells #[.int .i64 2, .int .i64 1, .int .i64 5, .string ⟨#[107]⟩, .float .f64 0, .int .i64 0] 35)).cell? ⟨w.heap.size, 5, none⟩ = some (.int .i64 0) := by rw [blk_cell (blk_alloc _ _)]; rfl
  go_enter Try.func22, Try.ntmps22
  go_wp2_with fail
  exact bodyPost_ret (v := .agg #[.int .i64 2, .int .i64 1, .int .i64 5, .string ⟨#[107]⟩, .float .f64 0, .int .i64 0]) (by simp [results, Try.results22, go_sem, x0, x1, x2, x3, x4, x5]) rfl ⟨rfl, hb⟩
theorem alloc_msg19 (ρ : Operand → Value) (o : Oper) (ho : o.op = .alloc 50) (w : World) : (execOp ρ o).run Try.prog w = .ok (.value (.pointer (some ⟨w.heap.size, 0, none⟩))) (w.alloc (.cells zeroMg.toArray 50 (0, 0))) := by
  rw [zeroMg_row]
  simp only [execOp, ho]
  go_simp
def cs19 : List Value := mgCs msg19 none 0 0 none 0 0 none 0 0 none 0 0
theorem msg19_in (w : World) : MsgIn w msg19 none 0 0 none 0 0 none 0 0 none 0 0 :=
  ⟨⟨by decide, by decide⟩, z64, z64, z64, ⟨⟨by decide, by decide⟩, ⟨by decide, by decide⟩, ⟨by decide, by decide⟩, z64, (show (0 : Nat) < 18446744073709551616 by decide), (show keyK.size ≤ 140737488351232 by decide)⟩, z64, (show (4619567317775286272 : Nat) < 18446744073709551616 by decide), (show (⟨#[]⟩ : ByteArray).size ≤ 140737488351232 by decide), sl_nil, sl_nil, sl_nil, sl_nil⟩
theorem rsl_nil {α : Type} {S : Sh α} {X : Nat → Prop} {w : World} : RSl S X w none 0 0 [] := ⟨sl_nil, fun i y hy => by simp at hy⟩
set_option maxHeartbeats 4000000 in
theorem lives19_any (w : World) : Calls Try.prog 5 #[] w fun e w' => e = .returned (.bool true) ∧ Below w.heap.size w w' := by
  have CF := Lib.hid (four19_any w)
  have CG := Lib.hid get19_any
  go_enter Try.func5, Try.ntmps5
  go_wp2_with fail
  refine CF.out.mono ?_
  rintro r w1 ⟨fb, rfl, hI, hb1⟩
  have CN := Lib.hid (cnew_any 2 0 (some ⟨fb, 0, none⟩) 4 4 [0, 1, 2, 3] w1 (ints_of_sl hI) (fun h => by cases h) (by decide) z64)
  have B1 := Lib.hid hb1
  clear hI hb1
  go_wp2_with fail
  refine CN.out.mono ?_
  rintro r w2 ⟨hb2, hh⟩
  rcases hh with ⟨p, Z, rfl, hc, -⟩ | ⟨hno, -⟩
  · have HC2 := Lib.hid hc
    have B2 := Lib.hid (bthen B1.out hb2)
    have HW := Lib.hid (Nat.le_trans B1.out.size (Nat.le_refl w1.heap.size))
    have CA := Lib.hid (fun (wa : World) (hb : Below w2.heap.size w2 wa) => ask_any wa (hc.old hb) 0 [0, 1, 2, 3] rfl 5 keyK 0 0 ⟨by decide, by decide⟩ z64 (by decide) (by decide))
    have S12 := Lib.hid hb2.size
    clear hb2 hc CN
    go_wp2_with fail
    refine (CG.out w2).mono ?_
    rintro r w3 ⟨rfl, hb3⟩
    have hfl : ∀ (wa : World), (Instr.field 35 (.agg #[.int .i64 2, .int .i64 1, .int .i64 5, .string keyK, .float .f64 0, .int .i64 0]) 2).run Try.prog wa = .ok (.agg #[.int .i64 5, .string keyK, .float .f64 0, .int .i64 0]) wa := fun wa => by kernel_rfl
    have B3 := Lib.hid (bthen B2.out hb3)
    have C3 := Lib.hid (CA.out w3 hb3)
    have S23 := Lib.hid hb3.size
    clear hb3 CA
    go_wp2_with fail
    refine C3.out.mono ?_
    rintro r w4 hA
    rcases hA with ⟨he, -⟩ | ⟨-, ⟨a4, c4, hr⟩, hk4, Z4, hz4, hc4⟩
    · exact absurd st19_ask he
    · have hr : r = .returned (.tuple #[.slice a4 4 c4, .int .i64 0]) := hr
      subst hr
      have hge : ∀ k, Z k → w.heap.size ≤ k := fun k hk => Nat.le_trans HW.out (HC2.out.lt k hk).1
      have B4 := Lib.hid (hk4.below B3.out hge)
      have HC4 := Lib.hid (show Cli Z4 w4 w1.heap.size p st19a from hc4)
      have hge4 : ∀ k, Z4 k → w.heap.size ≤ k := fun k hk => Nat.le_trans HW.out (HC4.out.lt k hk).1
      have HG4 := Lib.hid hge4
      have S14 := Lib.hid (show w1.heap.size ≤ w4.heap.size from Nat.le_trans S12.out (Nat.le_trans S23.out hk4.size))
      clear hk4 hz4 hc4 hge hge4 hfl
      go_wp2_with fail
      refine (CG.out w4).mono ?_
      rintro r w5 ⟨rfl, hb5⟩
      have B5 := Lib.hid (bthen B4.out hb5)
      have HC5 := Lib.hid (HC4.out.old hb5)
      have S15 := Lib.hid (Nat.le_trans S14.out hb5.size)
      clear hb5
      rename_i hK
      refine hK _ _ ?_
      clear hK
      refine ops_val rfl (w' := w5) (v := .agg #[.int .i64 0, .float .f64 4619567317775286272]) (by kernel_rfl) ?_
      simp only [Act.put, List.setIfInBounds_toArray, List.set_cons_succ, List.set_cons_zero]
      refine ops_val rfl (w' := w5) (v := .agg cs19.toArray) (by kernel_rfl) ?_
      simp only [Act.put, List.setIfInBounds_toArray, List.set_cons_succ, List.set_cons_zero]
      refine ops_made 50 zeroMg rfl rfl (.tmp 5) (.tmp 28) (fun ρ w => alloc_msg19 ρ _ rfl w) rfl cs19 rfl (by kernel_rfl) (by kernel_rfl) rfl rfl fun w6 b6 k6 z6 => ?_
      simp only [Act.put, List.setIfInBounds_toArray, List.set_cons_succ, List.set_cons_zero]
      have B6 := Lib.hid (bthen B5.out b6)
      have HC6 := Lib.hid (HC5.out.old b6)
      have K6 := Lib.hid k6
      have S16 := Lib.hid (Nat.le_trans S15.out b6.size)
      have N6 := Lib.hid (show ¬ Z4 w5.heap.size from fun hz => by have := (HC5.out.lt _ hz).2; omega)
      generalize hmb : w5.heap.size = mb at *
      have hmi : (Try.prog.info? 50).map (·.size) = some cs19.length := by show _ = some 17; kernel_rfl
      have HMI := Lib.hid hmi
      have HLD := Lib.hid (show ∀ (wa : World), wa.heap[mb]? = some (.cells cs19.toArray 50 (0, 0)) → ∀ (j : Nat) (u : Value), cs19[j]? = some u → wa.cell? ⟨mb, 0 + j, none⟩ = some u from fun wa hb j u hu => by rw [Nat.zero_add, blk_cell hb]; simpa using hu)
      have CH := Lib.hid (show ∀ (s : Cst) (Z : Nat → Prop) (wa : World) (fr : Int), Cli Z wa w1.heap.size p s → w1.heap.size ≤ wa.heap.size → i64 fr → s.hs < 70368744177664 → Calls Try.prog 18 #[.pointer (some ⟨p, 0, none⟩), .int .i64 1, .int .i64 fr, .agg cs19.toArray] wa (HandlePost Z w1.heap.size p s (handleS s fr msg19) wa) from
        fun s Z wa fr hc hw hf hh => handle_any wa hc hw 1 fr msg19 none 0 0 none 0 0 none 0 0 none 0 0 (msg19_in wa) rsl_nil hf hh)
      clear b6 k6 z6 hmi hmb B2 B3 CF
      generalize cs19 = ms at *
      go_upto_region 6 with (fail)
      refine wp_region_lit ?_
      refine wpList_val (w' := w6) rfl (v := .pointer (some ⟨p, 0, none⟩)) (by simp only [execOp]; go_simp) ?_
      simp only [Act.put, List.setIfInBounds_toArray, List.set_cons_succ, List.set_cons_zero]
      refine wpList_load_mid rfl 50 (.tmp 5) rfl mb 0 rfl ms _ (HLD.out w6 K6.out) Try.underlying50 rfl HMI.out ?_
      simp only [Act.put, List.setIfInBounds_toArray, List.set_cons_succ, List.set_cons_zero]
      go_wp2_with fail
      refine (CH.out st19a Z4 w6 0 HC6.out S16.out z64 (by rw [st19_hs.1]; decide)).mono ?_
      rintro r w7 ⟨rfl, hk7, Z7, hz7, hc7⟩
      have HC7 := Lib.hid (show Cli Z7 w7 w1.heap.size p st19b from hc7)
      have K7 := Lib.hid ((hk7.block mb (blk_lt K6.out) N6.out).trans K6.out)
      have N7 := Lib.hid (show ¬ Z7 mb from fun h => (hz7 mb h).elim N6.out (fun h => by have := blk_lt K6.out; omega))
      have B7 := Lib.hid (hk7.below B6.out HG4.out)
      have S17 := Lib.hid (Nat.le_trans S16.out hk7.size)
      have HG7 := Lib.hid (show ∀ k, Z7 k → w.heap.size ≤ k from fun k hk => Nat.le_trans HW.out (HC7.out.lt k hk).1)
      clear hk7 hz7 hc7 HC6 K6 N6 B6 S16 HG4
      go_upto_region 7 with (fail)
      refine wp_region_lit ?_
      refine wpList_val (w' := w7) rfl (v := .pointer (some ⟨p, 0, none⟩)) (by simp only [execOp]; go_simp) ?_
      simp only [Act.put, List.setIfInBounds_toArray, List.set_cons_succ, List.set_cons_zero]
      refine wpList_load_mid rfl 50 (.tmp 5) rfl mb 0 rfl ms _ (HLD.out w7 K7.out) Try.underlying50 rfl HMI.out ?_
      simp only [Act.put, List.setIfInBounds_toArray, List.set_cons_succ, List.set_cons_zero]
      go_wp2_with fail
      refine (CH.out st19b Z7 w7 0 HC7.out S17.out z64 (by rw [st19_hs.2.1]; decide)).mono ?_
      rintro r w8 ⟨rfl, hk8, Z8, hz8, hc8⟩
      have HC8 := Lib.hid (show Cli Z8 w8 w1.heap.size p st19c from hc8)
      have K8 := Lib.hid ((hk8.block mb (blk_lt K7.out) N7.out).trans K7.out)
      have N8 := Lib.hid (show ¬ Z8 mb from fun h => (hz8 mb h).elim N7.out (fun h => by have := blk_lt K7.out; omega))
      have B8 := Lib.hid (hk8.below B7.out HG7.out)
      have S18 := Lib.hid (Nat.le_trans S17.out hk8.size)
      have HG8 := Lib.hid (show ∀ k, Z8 k → w.heap.size ≤ k from fun k hk => Nat.le_trans HW.out (HC8.out.lt k hk).1)
      clear hk8 hz8 hc8 HC7 K7 N7 B7 S17 HG7
      have CO := Lib.hid (open_any w8 HC8.out)
      rw [st19_w, st19_q, show q19.v = .agg #[.int .i64 2, .int .i64 1, .int .i64 5, .string keyK, .float .f64 0, .int .i64 0] from rfl] at CO
      go_wp2_with fail
      refine CO.out.mono ?_
      rintro r w9 ⟨rfl, hb9⟩
      have HC9 := Lib.hid (HC8.out.old hb9)
      have K9 := Lib.hid (blk_below K8.out hb9)
      have N9 := N8
      have B9 := Lib.hid (bthen B8.out hb9)
      have S19 := Lib.hid (Nat.le_trans S18.out hb9.size)
      clear hb9 HC8 K8 B8 S18 CO
      go_upto_region 9 with (fail)
      have hba := below_alloc w9 (.cells #[.int .i64 2, .int .i64 1, .int .i64 5, .string keyK, .float .f64 0, .int .i64 0] 35 (0, 0))
      generalize w9.alloc (.cells #[.int .i64 2, .int .i64 1, .int .i64 5, .string keyK, .float .f64 0, .int .i64 0] 35 (0, 0)) = w10 at *
      have HC10 := Lib.hid (HC9.out.old hba)
      have K10 := Lib.hid (blk_below K9.out hba)
      have B10 := Lib.hid (bthen B9.out hba)
      have S110 := Lib.hid (Nat.le_trans S19.out hba.size)
      clear hba HC9 K9 B9 S19
      refine wp_region_lit ?_
      refine wpList_val (w' := w10) rfl (v := .pointer (some ⟨p, 0, none⟩)) (by simp only [execOp]; go_simp) ?_
      simp only [Act.put, List.setIfInBounds_toArray, List.set_cons_succ, List.set_cons_zero]
      refine wpList_load_mid rfl 50 (.tmp 5) rfl mb 0 rfl ms _ (HLD.out w10 K10.out) Try.underlying50 rfl HMI.out ?_
      simp only [Act.put, List.setIfInBounds_toArray, List.set_cons_succ, List.set_cons_zero]
      go_wp2_with fail
      refine (CH.out st19c Z8 w10 3 HC10.out S110.out ⟨by decide, by decide⟩ (by rw [st19_hs.2.2]; decide)).mono ?_
      rintro r w11 ⟨rfl, hk11, Z11, hz11, hc11⟩
      have HC11 := Lib.hid (show Cli Z11 w11 w1.heap.size p st19d from hc11)
      have B11 := Lib.hid (hk11.below B10.out HG8.out)
      clear hk11 hz11 hc11 HC10 K10 N9 B10 S110 HG8
      have CAc := Lib.hid (accepted_any w11 HC11.out)
      rw [st19_ac] at CAc
      go_wp2_with fail
      refine CAc.out.mono ?_
      rintro r w12 ⟨v12, rfl, ho12, hb12⟩
      obtain ⟨a12, c12, rfl⟩ := owns_form ho12
      have HC12 := Lib.hid (HC11.out.old hb12)
      have B12 := Lib.hid (bthen B11.out hb12)
      have CRs := Lib.hid (results_any w12 HC12.out)
      rw [st19_rs] at CRs
      clear ho12 hb12 CAc HC11 B11
      go_wp2_with fail
      refine CRs.out.mono ?_
      rintro r w13 ⟨v13, rfl, ho13, hb13⟩
      have hx : ressV [((0 : Int), (4619567317775286272 : Nat))] = [.int .i64 0, .float .f64 4619567317775286272] := rfl
      rw [hx] at ho13
      rcases ho13.2 with ⟨-, h0⟩ | ⟨g, cap, cur, hv, hB, hg, hnc, hcm, _, _⟩
      · cases h0
      · subst hv
        have x1 : w13.cell? ⟨g, 1, none⟩ = some (.float .f64 4619567317775286272) := by
          have := ho13.cells (g := g) rfl 1 _ rfl
          rw [Addr.add_lit] at this
          exact this
        have B13 := Lib.hid (bthen B12.out hb13)
        clear ho13 hb13 hB hg hnc hcm HC12 B12 CRs hx
        go_wp2_with fail
        rw [show (FloatKind.f64.format.order 4619567317775286272 4619567317775286272 == some Ordering.eq) = true by kernel_rfl]
        go_ret
        exact ⟨rfl, B13.out⟩
  · exact absurd ⟨by decide +kernel, rfl, by decide, by decide⟩ hno
end Go.Proofs.Ytijeieamodjgbab

namespace Go.Proofs.Ytijeieamodjgbab
set_option maxRecDepth 100000
open Go.RowKit Go.Deep Go.Maps
set_option linter.unusedVariables false
set_option linter.unusedSimpArgs false
attribute [local go_sem] run_store_float
set_option maxHeartbeats 1000000 in
theorem ask_nil (kd : Int) (ky : ByteArray) (fb : Nat) (oi : Int) (w : World) : Calls Try.prog 16 #[.pointer none, .agg #[.int .i64 kd, .string ky, .float .f64 fb, .int .i64 oi]] w fun r w' => r = .returned (.tuple #[.slice none 0 0, .int .i64 1]) ∧ Below w.heap.size w w' := by
  have hb := below_alloc w (.cells #[.int .i64 kd, .string ky, .float .f64 fb, .int .i64 oi] 33 (0, 0))
  go_enter Try.func16, Try.ntmps16
  go_wp2_with fail
  go_ret2
  exact ⟨rfl, hb⟩
set_option maxHeartbeats 1000000 in
theorem handle_nil (nw fr : Int) (ms : List Value) (w : World) : Calls Try.prog 18 #[.pointer none, .int .i64 nw, .int .i64 fr, .agg ms.toArray] w fun r w' => r = .returned (.slice none 0 0) ∧ Below w.heap.size w w' := by
  have hb := below_alloc w (.cells ms.toArray 50 (0, 0))
  go_enter Try.func18, Try.ntmps18
  go_wp2_with fail
  go_ret
  exact ⟨rfl, hb⟩
set_option maxHeartbeats 1000000 in
theorem tick_nil (nw : Int) (w : World) : Calls Try.prog 19 #[.pointer none, .int .i64 nw] w fun r w' => r = .returned (.slice none 0 0) ∧ Below w.heap.size w w' := by
  go_enter Try.func19, Try.ntmps19
  go_wp2_with fail
  go_ret
  exact ⟨rfl, Below.refl _ _⟩
set_option maxHeartbeats 1000000 in
theorem open_nil (w : World) : Calls Try.prog 7 #[.pointer none] w fun r w' => r = .returned (.tuple #[.agg #[.int .i64 0, .int .i64 0, .int .i64 0, .string ⟨#[]⟩, .float .f64 0, .int .i64 0], .bool false]) ∧ Below w.heap.size w w' := by
  have hb := below_alloc w (.cells #[.int .i64 0, .int .i64 0, .int .i64 0, .string ⟨#[]⟩, .float .f64 0, .int .i64 0] 35 (0, 0))
  have hk := blk_alloc w (.cells #[.int .i64 0, .int .i64 0, .int .i64 0, .string ⟨#[]⟩, .float .f64 0, .int .i64 0] 35 (0, 0))
  have x0 : (w.alloc (.cells #[.int .i64 0, .int .i64 0, .int .i64 0, .string ⟨#[]⟩, .float .f64 0, .int .i64 0] 35 (0, 0))).cell? ⟨w.heap.size, 0, none⟩ = some (.int .i64 0) := by rw [blk_cell (blk_alloc _ _)]; rfl
  have x1 : (w.alloc (.cells #[.int .i64 0, .int .i64 0, .int .i64 0, .string ⟨#[]⟩, .float .f64 0, .int .i64 0] 35 (0, 0))).cell? ⟨w.heap.size, 1, none⟩ = some (.int .i64 0) := by rw [blk_cell (blk_alloc _ _)]; rfl
  have x2 : (w.alloc (.cells #[.int .i64 0, .int .i64 0, .int .i64 0, .string ⟨#[]⟩, .float .f64 0, .int .i64 0] 35 (0, 0))).cell? ⟨w.heap.size, 2, none⟩ = some (.int .i64 0) := by rw [blk_cell (blk_alloc _ _)]; rfl
  have x3 : (w.alloc (.cells #[.int .i64 0, .int .i64 0, .int .i64 0, .string ⟨#[]⟩, .float .f64 0, .int .i64 0] 35 (0, 0))).cell? ⟨w.heap.size, 3, none⟩ = some (.string ⟨#[]⟩) := by rw [blk_cell (blk_alloc _ _)]; rfl
  have x4 : (w.alloc (.cells #[.int .i64 0, .int .i64 0, .int .i64 0, .string ⟨#[]⟩, .float .f64 0, .int .i64 0] 35 (0, 0))).cell? ⟨w.heap.size, 4, none⟩ = some (.float .f64 0) := by rw [blk_cell (blk_alloc _ _)]; rfl
  have x5 : (w.alloc (.cells #[.int .i64 0, .int .i64 0, .int .i64 0, .string ⟨#[]⟩, .float .f64 0, .int .i64 0] 35 (0, 0))).cell? ⟨w.heap.size, 5, none⟩ = some (.int .i64 0) := by rw [blk_cell (blk_alloc _ _)]; rfl
  go_enter Try.func7, Try.ntmps7
  go_wp2_with fail
  exact bodyPost_ret (v := .tuple #[.agg #[.int .i64 0, .int .i64 0, .int .i64 0, .string ⟨#[]⟩, .float .f64 0, .int .i64 0], .bool false]) (by simp [results, Try.results7, go_sem, x0, x1, x2, x3, x4, x5]) rfl ⟨rfl, hb⟩
set_option maxHeartbeats 1000000 in
theorem epoch19_nil (w : World) : Calls Try.prog 20 #[.pointer none] w fun r w' => r = .returned (.int .i64 0) ∧ Below w.heap.size w w' := by
  go_enter Try.func20, Try.ntmps20
  go_wp2_with fail
  go_ret
  exact ⟨rfl, Below.refl _ _⟩
set_option maxHeartbeats 1000000 in
theorem chain19_nil (w : World) : Calls Try.prog 13 #[.pointer none] w fun r w' => r = .returned (.slice none 0 0) ∧ Below w.heap.size w w' := by
  go_enter Try.func13, Try.ntmps13
  go_wp2_with fail
  go_ret
  exact ⟨rfl, Below.refl _ _⟩
set_option maxHeartbeats 1000000 in
theorem accepted_nil (w : World) : Calls Try.prog 8 #[.pointer none] w fun r w' => r = .returned (.slice none 0 0) ∧ Below w.heap.size w w' := by
  go_enter Try.func8, Try.ntmps8
  go_wp2_with fail
  go_ret
  exact ⟨rfl, Below.refl _ _⟩
set_option maxHeartbeats 1000000 in
theorem results_nil (w : World) : Calls Try.prog 10 #[.pointer none] w fun r w' => r = .returned (.slice none 0 0) ∧ Below w.heap.size w w' := by
  go_enter Try.func10, Try.ntmps10
  go_wp2_with fail
  go_ret
  exact ⟨rfl, Below.refl _ _⟩
theorem wpList_gcall {P : Program} {ops : Array Oper} {rest : List Oper} {o : Oper} {a : Act} {w : World} {Q : Exit → Act → World → Prop} {R : Ending → World → Prop} (hw : Region.wanted o (yielded ops a.tmps) = true)
    (f : FuncId) (args : Array Value) (hrun : (execOp a.eval o).run P w = .ok (.enter f args) w) (hc : Calls P f args w R) (h : ∀ e w', R e w' → ∃ v, e = .returned v ∧ wpList P ops Q rest (a.put o.dst v) w') : wpList P ops Q (o :: rest) a w :=
  wpList_step fun K hK => step_calls_g hw f args hrun hc fun e w' he => by
    obtain ⟨v, rfl, hv⟩ := h e w' he
    exact ⟨v, rfl, hK _ _ hv⟩
theorem load_msg19 (ρ : Operand → Value) (o : Oper) (x : Operand) {b off : Nat} {cs : List Value} {w : World} (ho : o.op = .load 50 x) (hx : ρ x = .pointer (some ⟨b, off, none⟩)) (hr : ∀ (j : Nat) (u : Value), cs[j]? = some u → w.cell? ⟨b, off + j, none⟩ = some u) (hi : (Try.prog.info? 50).map (·.size) = some cs.length) : (execOp ρ o).run Try.prog w = .ok (.value (.agg cs.toArray)) w := by
  have hld := run_loadVar_mid (P := Try.prog) w b off 50 cs _ hr Try.underlying50 rfl hi
  unfold execOp
  simp only [ho, hx, Instr.loadAt, Instr.sureAddr, Sem.run_bind, Sem.run_pure, Result.andThen_ok, hld]
end Go.Proofs.Ytijeieamodjgbab
namespace Go.Proofs.Ytijeieamodjgbab.clientNil
set_option maxRecDepth 100000
open Go.ChangeShapes Go.WideShapes Go.ChangeAt Go.RowKit Go.Deep Go.Maps
set_option linter.unusedVariables false
set_option linter.unusedSimpArgs false
attribute [local go_sem] run_store_float
set_option maxRecDepth 100000 in
set_option maxHeartbeats 8000000 in
theorem walk (w : World) (y : St19) (a1 : Option Addr) (n1 c1 : Nat) (a2 : Option Addr) (n2 c2 : Nat) (a3 : Option Addr) (n3 c3 : Nat) (a4 : Option Addr) (n4 c4 : Nat) (hst : StepIn w y a1 n1 c1 a2 n2 c2 a3 n3 c3 a4 n4 c4) :
    Calls Try.prog 4 #[.agg (stCs y a1 n1 c1 a2 n2 c2 a3 n3 c3 a4 n4 c4).toArray] w fun e w' => e = .returned (.bool true) ∧ Below w.heap.size w w' := by
  have LV := Lib.hid lives19_any
  obtain ⟨w1, hw1⟩ : ∃ u, u = w.alloc (.cells (stCs y a1 n1 c1 a2 n2 c2 a3 n3 c3 a4 n4 c4).toArray 52 (0, 0)) := ⟨_, rfl⟩
  have b1 : Below w.heap.size w w1 := by rw [hw1]; exact below_alloc _ _
  have k1 : w1.heap[w.heap.size]? = some (.cells (stCs y a1 n1 c1 a2 n2 c2 a3 n3 c3 a4 n4 c4).toArray 52 (0, 0)) := by rw [hw1]; exact blk_alloc _ _
  have HLD := Lib.hid (show ∀ (wa : World), Below w1.heap.size w1 wa → ∀ (j : Nat) (u : Value), (stCs y a1 n1 c1 a2 n2 c2 a3 n3 c3 a4 n4 c4)[j]? = some u → wa.cell? ⟨w.heap.size, j, none⟩ = some u from fun wa hb j u hu => by rw [blk_cell (blk_below k1 hb)]; simpa using hu)
  have HLM := Lib.hid (show ∀ (wa : World), Below w1.heap.size w1 wa → ∀ (j : Nat) (u : Value), (mgCs y.m a1 n1 c1 a2 n2 c2 a3 n3 c3 a4 n4 c4)[j]? = some u → wa.cell? ⟨w.heap.size, 9 + j, none⟩ = some u from fun wa hb j u hu => by
    have := HLD.out wa hb (j + 9) u hu
    rw [Nat.add_comm] at this; exact this)
  have HCE := Lib.hid (show ∀ (wa : World), Below w1.heap.size w1 wa → wa.cell? ⟨w.heap.size, 1, none⟩ = some (.int .i64 y.nw) ∧ wa.cell? ⟨w.heap.size, 2, none⟩ = some (.int .i64 y.fr) ∧ wa.cell? ⟨w.heap.size, 3, none⟩ = some (.int .i64 y.q.c) ∧ wa.cell? ⟨w.heap.size, 4, none⟩ = some (.int .i64 y.q.s) ∧ wa.cell? ⟨w.heap.size, 5, none⟩ = some (.int .i64 y.q.kind) ∧ wa.cell? ⟨w.heap.size, 6, none⟩ = some (.string y.q.key) ∧ wa.cell? ⟨w.heap.size, 7, none⟩ = some (.int .u64 y.q.b) ∧ wa.cell? ⟨w.heap.size, 8, none⟩ = some (.int .i64 y.q.id) from fun wa hb =>
    ⟨HLD.out wa hb 1 _ rfl, HLD.out wa hb 2 _ rfl, HLD.out wa hb 3 _ rfl, HLD.out wa hb 4 _ rfl, HLD.out wa hb 5 _ rfl, HLD.out wa hb 6 _ rfl, HLD.out wa hb 7 _ rfl, HLD.out wa hb 8 _ rfl⟩)
  have hmj : (Try.prog.info? 50).map (·.size) = some (mgCs y.m a1 n1 c1 a2 n2 c2 a3 n3 c3 a4 n4 c4).length := by show _ = some 17; kernel_rfl
  have HMJ := Lib.hid hmj
  have CQ := Lib.hid (fun (wa : World) => request_any y.q wa)
  unfold Rq.ask Rq.v at CQ
  have hfl : ∀ (wa : World), (Instr.field 35 (.agg #[.int .i64 y.q.c, .int .i64 y.q.s, .int .i64 y.q.kind, .string y.q.key, .float .f64 y.q.b, .int .i64 y.q.id]) 2).run Try.prog wa = .ok (.agg #[.int .i64 y.q.kind, .string y.q.key, .float .f64 y.q.b, .int .i64 y.q.id]) wa := fun wa => by kernel_rfl
  have B1 := Lib.hid b1
  generalize stCs y a1 n1 c1 a2 n2 c2 a3 n3 c3 a4 n4 c4 = cs at *
  generalize mgCs y.m a1 n1 c1 a2 n2 c2 a3 n3 c3 a4 n4 c4 = ms at *
  clear b1 k1 hmj hst HLD
  go_enter Try.func4, Try.ntmps4
  go_upto_region 1 with (fail)
  rw [← hw1]
  clear hw1
  go_wp2_with fail
  refine (LV.out _).mono ?_
  rintro r w2 ⟨rfl, b2⟩
  obtain ⟨-, -, y3, y4, y5, y6, y7, y8⟩ := HCE.out w2 b2
  have B2 := Lib.hid b2
  clear b2
  go_wp2_with fail
  refine (CQ.out w2).mono ?_
  rintro r w3 ⟨rfl, b3⟩
  have B3 := Lib.hid (bthen B2.out b3)
  clear b3 y3 y4 y5 y6 y7 y8
  go_wp2_with fail
  refine (ask_nil y.q.kind y.q.key y.q.b y.q.id w3).mono ?_
  rintro r w4 ⟨rfl, b4⟩
  have B4 := Lib.hid (bthen B3.out b4)
  clear b4
  go_wp2_with fail
  refine (open_nil w4).mono ?_
  rintro r w45 ⟨rfl, b45⟩
  have B45 := Lib.hid (bthen B4.out b45)
  clear b45 hfl
  go_upto_region 6 with (fail)
  have b5 := below_alloc w45 (.cells #[.int .i64 0, .int .i64 0, .int .i64 0, .string ⟨#[]⟩, .float .f64 0, .int .i64 0] 35 (0, 0))
  generalize w45.alloc (.cells #[.int .i64 0, .int .i64 0, .int .i64 0, .string ⟨#[]⟩, .float .f64 0, .int .i64 0] 35 (0, 0)) = w5 at *
  have Bw5 := Lib.hid (bthen B45.out b5)
  clear b5
  obtain ⟨x1, x2, -⟩ := HCE.out w5 Bw5.out
  refine wp_region_lit ?_
  refine wpList_val (w' := w5) rfl (v := .int .i64 1) (by simp only [execOp]; go_simp) ?_
  simp only [Act.put, List.setIfInBounds_toArray, List.set_cons_succ, List.set_cons_zero]
  refine wpList_val (w' := w5) rfl (v := .bool true) (by simp only [execOp]; go_simp) ?_
  simp only [Act.put, List.setIfInBounds_toArray, List.set_cons_succ, List.set_cons_zero]
  refine wpList_val (w' := w5) rfl (v := .bool true) (by simp only [execOp]; go_simp) ?_
  simp only [Act.put, List.setIfInBounds_toArray, List.set_cons_succ, List.set_cons_zero]
  refine wpList_gval (w' := w5) rfl (v := .slice none 0 0) (by simp only [execOp]; go_simp) ?_
  simp only [Act.put, List.setIfInBounds_toArray, List.set_cons_succ, List.set_cons_zero]
  refine wpList_gval (w' := w5) rfl (v := .int .i64 0) (by simp only [execOp]; go_simp) ?_
  simp only [Act.put, List.setIfInBounds_toArray, List.set_cons_succ, List.set_cons_zero]
  refine wpList_gval (w' := w5) rfl (v := .bool true) (by simp only [execOp]; go_simp) ?_
  simp only [Act.put, List.setIfInBounds_toArray, List.set_cons_succ, List.set_cons_zero]
  refine wpList_val (w' := w5) rfl (v := .bool true) (by simp only [execOp]; go_simp) ?_
  simp only [Act.put, List.setIfInBounds_toArray, List.set_cons_succ, List.set_cons_zero]
  refine wpList_val (w' := w5) rfl (v := .bool true) (by simp only [execOp]; go_simp) ?_
  simp only [Act.put, List.setIfInBounds_toArray, List.set_cons_succ, List.set_cons_zero]
  refine wpList_gval (w' := w5) rfl (v := .pointer none) (by simp only [execOp]; go_simp) ?_
  simp only [Act.put, List.setIfInBounds_toArray, List.set_cons_succ, List.set_cons_zero]
  refine wpList_gval (w' := w5) rfl (v := .pointer (some ⟨w.heap.size, 1, none⟩)) (by simp only [execOp]; go_simp) ?_
  simp only [Act.put, List.setIfInBounds_toArray, List.set_cons_succ, List.set_cons_zero]
  refine wpList_gval (w' := w5) rfl (v := .int .i64 y.nw) (by simp only [execOp]; go_simp) ?_
  simp only [Act.put, List.setIfInBounds_toArray, List.set_cons_succ, List.set_cons_zero]
  refine wpList_gval (w' := w5) rfl (v := .pointer (some ⟨w.heap.size, 2, none⟩)) (by simp only [execOp]; go_simp) ?_
  simp only [Act.put, List.setIfInBounds_toArray, List.set_cons_succ, List.set_cons_zero]
  refine wpList_gval (w' := w5) rfl (v := .int .i64 y.fr) (by simp only [execOp]; go_simp) ?_
  simp only [Act.put, List.setIfInBounds_toArray, List.set_cons_succ, List.set_cons_zero]
  refine wpList_gval (w' := w5) rfl (v := .pointer (some ⟨w.heap.size, 9, none⟩)) (by simp only [execOp]; go_simp) ?_
  simp only [Act.put, List.setIfInBounds_toArray, List.set_cons_succ, List.set_cons_zero]
  refine wpList_gval (w' := w5) rfl (v := .agg ms.toArray) (load_msg19 _ _ (.tmp 37) rfl rfl (HLM.out w5 Bw5.out) HMJ.out) ?_
  simp only [Act.put, List.setIfInBounds_toArray, List.set_cons_succ, List.set_cons_zero]
  refine wpList_gcall rfl 18 #[.pointer none, .int .i64 y.nw, .int .i64 y.fr, .agg ms.toArray] (by simp only [execOp]; go_simp) (handle_nil _ _ _ _) ?_
  rintro r w6 ⟨rfl, bw6⟩
  have Bw6 := Lib.hid (bthen Bw5.out bw6)
  refine ⟨_, rfl, ?_⟩
  clear bw6
  simp only [Act.put, List.setIfInBounds_toArray, List.set_cons_succ, List.set_cons_zero]
  obtain ⟨x1', -⟩ := HCE.out w6 Bw6.out
  clear x1 x2
  go_wp2_with fail
  refine (tick_nil y.nw w6).mono ?_
  rintro r w7 ⟨rfl, b7⟩
  have B7 := Lib.hid (bthen Bw6.out b7)
  clear b7 x1'
  go_wp2_with fail
  refine (epoch19_nil w7).mono ?_
  rintro r w8 ⟨rfl, b8⟩
  have B8 := Lib.hid (bthen B7.out b8)
  clear b8
  go_wp2_with fail
  refine (chain19_nil w8).mono ?_
  rintro r w9 ⟨rfl, b9⟩
  have B9 := Lib.hid (bthen B8.out b9)
  clear b9
  go_wp2_with fail
  refine (accepted_nil w9).mono ?_
  rintro r w10 ⟨rfl, b10⟩
  have B10 := Lib.hid (bthen B9.out b10)
  clear b10
  go_wp2_with fail
  refine (results_nil w10).mono ?_
  rintro r w11 ⟨rfl, b11⟩
  have B11 := Lib.hid (bthen B10.out b11)
  clear b11
  go_wp2_with fail
  go_ret
  exact ⟨rfl, bthen B1.out B11.out⟩

set_option maxRecDepth 100000 in
theorem lifted (os : Os) (started : os.Started) (H : Type) (enc : TypeId × Value → H) :
    ReturnsInHanded {} Try.checked os 4 .any (Rows.clientNilSpec.pre6 enc Try.prog Try.f4 Rows.clientNilRow.domain false) (Rows.clientNilSpec.post enc Try.prog Try.f4 false true false false) := by
  refine returnsInHanded_of_change_sized (C := Try.checked) own started (by kernel_rfl) Try.func4
    (ChangeSpec.witness6 (enc := enc) (C := Try.checked) false ⟨#[], #[.agg #[.int .i64 0, .int .i64 0, .int .i64 0, .int .i64 0, .int .i64 0, .int .i64 0, .string ⟨#[]⟩, .int .u64 0, .int .i64 0, .int .i64 0, .int .i64 0, .int .i64 0, .int .i64 0, .int .i64 0, .int .i64 0, .int .i64 0, .string ⟨#[]⟩, .float .f64 0, .int .i64 0, .int .i64 0, .float .f64 0, .string ⟨#[]⟩, .slice none 0 0, .slice none 0 0, .slice none 0 0, .slice none 0 0]], []⟩ 8 (by kernel_rfl) (by kernel_rfl) (by kernel_rfl) (by kernel_rfl)) ?_
  intro W base args ds gs before hval0 hW hcnd hsz _
  have hval : ∀ (j : Nat) t v, Try.f4.params[j]? = some t → args[j]? = some v → Value.okWide Try.prog W .any base t v := hval0
  have hW' := hW
  obtain ⟨p, q, hA0, hV, rfl, hfz, hnd⟩ := hW
  have hA : DataW.TrodAll enc Try.prog W 0 (fun _ => true) true Try.f4.params.toList args.toList ds p := hA0
  rw [Try.params4] at hA hval hsz
  have hA2 := hA
  obtain ⟨v0, vs0, d0, ds0, p0, q0, hargs, rfl, rfl, h0, r0⟩ := trodAll_cons hA
  obtain ⟨rfl, rfl, rfl⟩ := trodAll_nil r0
  obtain rfl : args = #[v0] := by cases args; simp_all
  obtain ⟨rfl, rfl⟩ := trodVars_none hV
  clear hargs
  have k0 := hval 0 52 v0 rfl rfl
  obtain ⟨fu0, m0⟩ := h0
  have w0 := weights_of hsz (j := 0) (t := 52) rfl rfl
  have F0 : Fit Try.prog 52 d0 := .inl w0
  have s0 := cells_agg Try.underlying52 k0
  obtain ⟨y0, E0, g0⟩ := vwStep19.2.2 m0 F0
  obtain ⟨pa1_0, pn1_0, pc1_0, pa2_0, pn2_0, pc2_0, pa3_0, pn3_0, pc3_0, pa4_0, pn4_0, pc4_0, e0, b0⟩ := step19_open E0
  obtain ⟨z0, s01, s02⟩ := s0
  have e0' := agg_of ⟨s01, s02⟩ e0
  subst e0'
  refine (walk W y0 pa1_0 pn1_0 pc1_0 pa2_0 pn2_0 pc2_0 pa3_0 pn3_0 pc3_0 pa4_0 pn4_0 pc4_0 b0).mono fun e W' ⟨he, bel⟩ => ?_
  subst he
  exact ⟨_, rfl, _, _, _, [], _, [], hW', trodAll_mk1 (shut_bool Try.underlying4 _), trodAll_again laidOut bel (by kernel_rfl) hA2, rfl, bel.frame _, fun h => by cases h⟩

theorem over : Rows.clientNilRow.holds Try.pinned (OpenSpec.ofChange Rows.clientNilSpec) :=
  OpenClaim.holds_of_wide 4 Try.f4 rfl rfl rfl rfl rfl rfl rfl ⟨rfl, rfl, rfl, rfl, rfl⟩ rfl rfl rfl rfl rfl (by kernel_rfl) Try.func4 (by kernel_rfl)
    (of_decide_eq_true (by kernel_rfl)) (by unfold Func.isWrapper; first | (rw [if_pos (by decide +kernel)]; kernel_rfl) | (rw [if_neg (by decide +kernel)]; exact ⟨rfl, rfl⟩))
    (fun os started H enc _ => lifted os started H enc)

theorem proved : Rows.ClientNilSaid := over
#print axioms proved
end Go.Proofs.Ytijeieamodjgbab.clientNil
