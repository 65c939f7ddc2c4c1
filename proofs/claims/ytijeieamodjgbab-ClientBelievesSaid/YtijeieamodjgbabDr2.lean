
/- Results: SameResult; ReadResult of both layers. -/
import Derived.Test.YtijeieamodjgbabDh

namespace Go.Proofs.Ytijeieamodjgbab
set_option maxRecDepth 100000
open Go.RowKit
set_option linter.unusedVariables false
set_option linter.unusedSimpArgs false
attribute [local go_sem] run_store_float

def sameResB (c : Int) (b : Nat) (c' : Int) (b' : Nat) : Bool := decide (c = c') && decide (canonB b = canonB b')
set_option maxHeartbeats 1000000 in
theorem sameres_any (c : Int) (b : Nat) (c' : Int) (b' : Nat) (w : World) (hb : b < 18446744073709551616) (hb' : b' < 18446744073709551616) :
    Calls Try.prog 29 #[.agg #[.int .i64 c, .float .f64 b], .agg #[.int .i64 c', .float .f64 b']] w fun e w' => e = .returned (.bool (sameResB c b c' b')) ∧ Below w.heap.size w w' := by
  have C1 := Lib.hid (fun w => bits02_q b hb w)
  have C2 := Lib.hid (fun w => bits02_q b' hb' w)
  by_cases h : c = c'
  · subst h
    have HX := Lib.hid (show sameResB c b c b' = ((canonB b : Int) == (canonB b' : Int)) by rw [sameResB, decide_eq_true rfl, Bool.true_and, Bool.eq_iff_iff]; simp only [beq_iff_eq, decide_eq_true_eq]; omega)
    rw [HX.out]
    generalize canonB b = cb at *
    generalize canonB b' = cb' at *
    clear HX hb hb'
    go_enter Try.func29, Try.ntmps29
    go_wp2_with fail
    go_quiet (first | (go_at_call 47; exact Calls.quiet_of_same (C1.out _)) | (go_at_call 47; exact Calls.quiet_of_same (C2.out _)))
    go_wp2_with fail
    go_ret
    exact ⟨rfl, below_drewN (balloc (below_alloc _ _) _) _⟩
  · have hc : (c == c') = false := by simpa using h
    have HX := Lib.hid (show sameResB c b c' b' = false by rw [sameResB, decide_eq_false h]; rfl)
    rw [HX.out]
    clear HX hb hb' h
    go_enter Try.func29, Try.ntmps29
    go_wp2_with fail
    go_quiet (fail)
    go_wp2_with fail
    go_ret
    exact ⟨rfl, below_drewN (balloc (below_alloc _ _) _) _⟩

/-- What a text is read as, as a result. -/
def p1 (t : List UInt8) : R := rNext ⟨t, false⟩ 1
def p2 (t : List UInt8) : R := rNext (p1 t) 8
def pReal (t : List UInt8) : Nat := rVal (p1 t) 8
def rsOk (t : List UInt8) : Bool := decide (endE (p2 t) = 0) && decide (qHead t ≤ 8) && fromOk (pReal t)
def rsC (t : List UInt8) : Int := if rsOk t = true then qHead t else 0
def rsB (t : List UInt8) : Nat := if rsOk t = true then fromV (pReal t) else 0
def rsE (t : List UInt8) : Int := if rsOk t = true then 0 else 5
theorem rs_yes {t : List UInt8} (h : rsOk t = true) : rsC t = qHead t ∧ rsB t = fromV (pReal t) ∧ rsE t = 0 := by rw [rsC, rsB, rsE, h]; exact ⟨rfl, rfl, rfl⟩
end Go.Proofs.Ytijeieamodjgbab
