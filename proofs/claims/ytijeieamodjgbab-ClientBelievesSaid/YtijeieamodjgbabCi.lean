
/- The client in memory; its small functions. -/
import Derived.Test.YtijeieamodjgbabCm
import Derived.Deep.DeepCutAuto
import Derived.Deep.QuietTactic
import Derived.BigQuiet
import Derived.Lib.Hide
import Derived.Deep.MidRow

namespace Go.Proofs.Ytijeieamodjgbab
set_option maxRecDepth 100000
open Go.RowKit Go.Maps
set_option linter.unusedVariables false
set_option linter.unusedSimpArgs false

/-- A client's state. -/
structure Cst where
  id : Int
  c0 : Cf
  cs : List Cf
  ss : List (List Sg)
  st : Int
  q : Rq
  cm : Came
  ac : List (Int × Rq)
  rs : List (Int × Nat)
  hs : Nat
def entsV (l : List (Int × Rq)) : List Value := l.flatMap fun x => .int .i64 x.1 :: x.2.cs
def ressV (l : List (Int × Nat)) : List Value := l.flatMap fun x => [.int .i64 x.1, .float .f64 x.2]
/-- What holds of every state. -/
structure CInv (s : Cst) : Prop where
  len : s.cs.length = s.ss.length
  l64 : s.ss.length ≤ 64
  id : 1 ≤ s.id ∧ s.id ≤ 8
  st : 0 ≤ s.st ∧ s.st ≤ 1048576
  q : s.q.Ok
  right : ∀ c ∈ s.c0 :: s.cs, rightB c.1 c.2 = true
  opn : 0 < s.q.c → s.q.c = s.id ∧ s.q.s = s.st
  na : (s.ac.length : Int) = if 0 < s.q.c then s.st - 1 else s.st
  nr : s.rs.length = s.ac.length
  ac : ∀ (k : Nat) x, s.ac[k]? = some x → x.1 = k + 1 ∧ x.2.c = s.id ∧ x.2.s = k + 1
  hs : s.cm.length ≤ s.hs
/-- A client's own blocks, but for its tracker's. -/
def cliY (p : Nat) (om oa ob : Option Nat) : Nat → Prop := fun k => k = p ∨ om = some k ∨ oa = some k ∨ ob = some k
structure CliAt (X : Nat → Prop) (w : World) (B p t : Nat) (oc os om oa ob : Option Nat) (s : Cst) : Prop where
  trk : Trk X w B t oc os (s.c0 :: s.cs) s.ss
  inv : CInv s
  hB : B ≤ p
  hm : ∀ k, om = some k → B ≤ k ∧ k < w.heap.size
  own : ∀ k, cliY p om oa ob k → X k ∧ ¬ trX t oc os k
  nop : om ≠ some p ∧ oa ≠ some p ∧ ob ≠ some p
  nom : ∀ k, om = some k → oa ≠ some k ∧ ob ≠ some k
  noa : ∀ k, oa = some k → ob ≠ some k
  ex : ∃ va vb, w.heap[p]? = some (.cells #[.int .i64 s.id, .pointer (some ⟨t, 0, none⟩), .int .i64 s.st, .int .i64 s.q.c, .int .i64 s.q.s, .int .i64 s.q.kind, .string s.q.key, .float .f64 s.q.b, .int .i64 s.q.id, .map om, va, vb] 79 (0, 0)) ∧
    w.ownsRow B 57 7 va s.ac.length (entsV s.ac) ∧ va.ownBlock = oa ∧ w.ownsRow B 45 2 vb s.rs.length (ressV s.rs) ∧ vb.ownBlock = ob
  mp : 0 < s.q.c → ∃ m n D, om = some m ∧ w.ownsMap Try.prog 128 rawC m n D ∧ n ≤ s.cm.length ∧ CMp s.cm D
section
variable {X Y : Nat → Prop} {w w' : World} {B p t : Nat} {oc os om oa ob : Option Nat} {s : Cst}
theorem CliAt.len (h : CliAt X w B p t oc os om oa ob s) : s.cs.length = s.ss.length := h.inv.len
theorem CliAt.l64 (h : CliAt X w B p t oc os om oa ob s) : s.ss.length ≤ 64 := h.inv.l64
theorem CliAt.id (h : CliAt X w B p t oc os om oa ob s) : 1 ≤ s.id ∧ s.id ≤ 8 := h.inv.id
theorem CliAt.st (h : CliAt X w B p t oc os om oa ob s) : 0 ≤ s.st ∧ s.st ≤ 1048576 := h.inv.st
theorem CliAt.q (h : CliAt X w B p t oc os om oa ob s) : s.q.Ok := h.inv.q
theorem CliAt.right (h : CliAt X w B p t oc os om oa ob s) : ∀ c ∈ s.c0 :: s.cs, rightB c.1 c.2 = true := h.inv.right
theorem CliAt.lt (h : CliAt X w B p t oc os om oa ob s) : ∀ k, cliY p om oa ob k → B ≤ k ∧ k < w.heap.size := by
  obtain ⟨va, vb, hp, h1, rfl, h2, rfl⟩ := h.ex
  rintro k (rfl | hk | hk | hk)
  · exact ⟨h.hB, blk_lt hp⟩
  · exact h.hm k hk
  · exact h1.lt k hk
  · exact h2.lt k hk
theorem CliAt.keep (h : CliAt X w B p t oc os om oa ob s) (hk : Keep Y w w') (hY : ∀ k, k < w.heap.size → Y k → X k ∧ ¬ trX t oc os k ∧ ¬ cliY p om oa ob k) : CliAt X w' B p t oc os om oa ob s := by
  have hlt := h.lt
  obtain ⟨va, vb, hp, h1, e1, h2, e2⟩ := h.ex
  refine ⟨h.trk.keep hk (fun k hkl hy => ⟨(hY k hkl hy).1, (hY k hkl hy).2.1⟩), h.inv, h.hB, fun k hm => ⟨(h.hm k hm).1, Nat.lt_of_lt_of_le (h.hm k hm).2 hk.size⟩, h.own, h.nop, h.nom, h.noa, ⟨va, vb, ?_, ?_, e1, ?_, e2⟩, fun hq => ?_⟩
  · rw [hk.block p (blk_lt hp) (fun hy => (hY p (blk_lt hp) hy).2.2 (.inl rfl))]; exact hp
  · exact owns_keep h1 hk (fun k hk' hy => (hY k (h1.lt k hk').2 hy).2.2 (.inr (.inr (.inl (by rw [← e1]; exact hk')))))
  · exact owns_keep h2 hk (fun k hk' hy => (hY k (h2.lt k hk').2 hy).2.2 (.inr (.inr (.inr (by rw [← e2]; exact hk')))))
  · obtain ⟨m, n, D, hm, ho, hn, hc⟩ := h.mp hq
    exact ⟨m, n, D, hm, rawC_block ho (hk.block m ho.lt (fun hy => (hY m ho.lt hy).2.2 (.inr (.inl hm)))), hn, hc⟩
theorem CliAt.old (h : CliAt X w B p t oc os om oa ob s) (hb : Below w.heap.size w w') : CliAt X w' B p t oc os om oa ob s :=
  h.keep (Y := fun _ => False) (Keep.of_below hb) (fun _ _ hf => hf.elim)
end
/-- A client whose own blocks are Z. -/
structure Cli (Z : Nat → Prop) (w : World) (B p : Nat) (s : Cst) : Prop where
  ex : ∃ X t oc os om oa ob, CliAt X w B p t oc os om oa ob s ∧ ∀ k, Z k ↔ (cliY p om oa ob k ∨ trX t oc os k)
section
variable {Z Y : Nat → Prop} {w w' : World} {B p : Nat} {s : Cst}
theorem Cli.lt (h : Cli Z w B p s) : ∀ k, Z k → B ≤ k ∧ k < w.heap.size := by
  obtain ⟨X, t, oc, os, om, oa, ob, h, hz⟩ := h.ex
  intro k hk
  rcases (hz k).1 hk with hk | hk
  · exact h.lt k hk
  · have hl := h.trk.lt
    rcases hk with rfl | hk | hk
    · exact ⟨h.trk.hB, hl.1⟩
    · exact hl.2.1 k hk
    · exact hl.2.2 k hk
theorem Cli.old (h : Cli Z w B p s) (hb : Below w.heap.size w w') : Cli Z w' B p s := by
  obtain ⟨X, t, oc, os, om, oa, ob, h, hz⟩ := h.ex
  exact ⟨X, t, oc, os, om, oa, ob, h.old hb, hz⟩
end

theorem node_any {X : Nat → Prop} {B p t : Nat} {oc os om oa ob : Option Nat} {s : Cst} (w : World) (h : CliAt X w B p t oc os om oa ob s) :
    Calls Try.prog 53 #[.pointer (some ⟨p, 0, none⟩)] w fun r w' => r = .returned (.int .i64 (100 + s.id)) ∧ w = w' := by
  obtain ⟨va, vb, hp, -⟩ := h.ex
  have hi := h.id
  have p0 : w.cell? ⟨p, 0, none⟩ = some (.int .i64 s.id) := by rw [blk_cell hp]; rfl
  have hw : IntKind.i64.wrap (100 + s.id) = 100 + s.id := IntWalk.i64_in _ (by omega)
  clear h hp
  go_enter Try.func53, Try.ntmps53
  go_wp2_with fail
  go_ret
  exact ⟨rfl, rfl⟩
def wtB (s : Cst) : Bool := decide (0 < s.q.c)
theorem waiting_any {X : Nat → Prop} {B p t : Nat} {oc os om oa ob : Option Nat} {s : Cst} (w : World) (h : CliAt X w B p t oc os om oa ob s) :
    Calls Try.prog 24 #[.pointer (some ⟨p, 0, none⟩)] w fun r w' => r = .returned (.bool (wtB s)) ∧ w = w' := by
  obtain ⟨va, vb, hp, -⟩ := h.ex
  have p0 : w.cell? ⟨p, 3, none⟩ = some (.int .i64 s.q.c) := by rw [blk_cell hp]; rfl
  have HW := Lib.hid (show wtB s = decide (0 < s.q.c) from rfl)
  clear h hp
  generalize wtB s = b at *
  generalize s.q.c = c at *
  go_enter Try.func24, Try.ntmps24
  go_wp2_with fail
  go_ret
  exact ⟨by rw [HW.out]; rfl, rfl⟩
end Go.Proofs.Ytijeieamodjgbab
