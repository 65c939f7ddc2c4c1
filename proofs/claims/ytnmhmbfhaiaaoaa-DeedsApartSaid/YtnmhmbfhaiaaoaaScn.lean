
/- Scan: the deferred closure's contracts. -/
import Derived.Test.YtnmhmbfhaiaaoaaVal
import Derived.Test.YtnmhmbfhaiaaoaaQuiet
import Derived.Tactics
import Derived.Tactics2
import Derived.Defers
import Derived.Recover
import Derived.Laws.Pointers
namespace Go.Proofs.Ytnmhmbfhaiaaoaa
set_option maxRecDepth 100000
open Go.RowKit
set_option linter.unusedVariables false

theorem assert_none (w : World) : (Instr.typeAssert Value.nilIface 20 103 true).run Try.prog w = .ok (.tuple #[.int .i64 0, .bool false]) w := by kernel_rfl
theorem assert_some (n : Int) (w : World) : (Instr.typeAssert (.iface 103 (.int .i64 n)) 20 103 true).run Try.prog w = .ok (.tuple #[.int .i64 n, .bool true]) w := by kernel_rfl

theorem catch_idle (p q : Addr) (w : World) :
    CallsD Try.prog 69 #[.pointer (some p), .pointer (some q)] .returning w fun e u' w' => e = .returned (.tuple #[]) ∧ u' = .returning ∧ w' = w := by
  refine callsD_of_wpS Try.func69 rfl fun c₀ cs hu => ?_
  apply wpS_seq
  apply wpS_region
  simp [wpOpsS, go_sem, recoverD, hu, Try.ntmps69, Exit.thenS, assert_none]
  apply wpS_seq
  apply wpS_region
  simp [wpOpsS, go_sem, Exit.thenS]
  refine wpS_cond (t := false) (by simp [Act.eval, Array.replicate]) ?_
  simp only [Bool.false_eq_true, if_false]
  refine wpS_of_wp (wp_skip ?_)
  cases c₀
  simp_all [bodyPostS, results, Try.results69]

theorem catch_panicking (p q : Nat) (u v : Value) (n : Int) (older : List PanicEntry) (w : World) (hp : w.cell? ⟨p, 0, none⟩ = some u) (hq : w.cell? ⟨q, 0, none⟩ = some v) (zp : w.frozen? ⟨p, 0, none⟩ = false) (zq : w.frozen? ⟨q, 0, none⟩ = false) (hne : ¬ q = p) :
    CallsD Try.prog 69 #[.pointer (some ⟨p, 0, none⟩), .pointer (some ⟨q, 0, none⟩)] (.panicking ({ v := .iface 103 (.int .i64 n), recovered := false } :: older)) w fun e u' w' =>
      e = .returned (.tuple #[]) ∧ u' = .panicking ({ v := .iface 103 (.int .i64 n), recovered := true } :: older) ∧ w' = (w.setCell ⟨p, 0, none⟩ (.slice none 0 0)).setCell ⟨q, 0, none⟩ (.int .i64 n) := by
  have hq' : (w.setCell ⟨p, 0, none⟩ (.slice none 0 0)).cell? ⟨q, 0, none⟩ = some v := cell_set_other hq _ _ _ hne
  refine callsD_of_wpS Try.func69 rfl fun c₀ cs hu => ?_
  apply wpS_seq
  apply wpS_region
  simp [wpOpsS, go_sem, recoverD, hu, Try.ntmps69, Exit.thenS, assert_some]
  apply wpS_seq
  apply wpS_region
  simp [wpOpsS, go_sem, Exit.thenS]
  refine wpS_cond (t := true) (by simp [Act.eval, Array.replicate]) ?_
  simp only [if_true]
  apply wpS_region
  simp [wpOpsS, go_sem, hp, hq', zp, zq, bodyPostS, results, Try.results69]
end Go.Proofs.Ytnmhmbfhaiaaoaa
