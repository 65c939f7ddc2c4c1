
/- Wire, plain: what the reference's Fits says is what the program's tests say. -/
import Derived.Test.YtijeieamodjgbaaGreatWfi
namespace Go.Proofs.YtijeieamodjgbaaGreat
set_option maxRecDepth 100000
open Go.RowKit Go.Deep
set_option linter.unusedVariables false
set_option linter.unusedSimpArgs false
theorem size_ne (t : ByteArray) : (!(t.toList.isEmpty)) = decide (t.size ≠ 0) := by
  rw [str_empty]; simp
theorem int_beq (a b : Int) : (a == b) = decide (a = b) := by rw [Bool.eq_iff_iff]; simp
theorem okR_eq (m : Mg) (hk : kindB m = true) (he : 0 ≤ m.e ∧ m.e ≤ 60) : okR m = okM m := by
  have hkk : m.k = 1 ∨ m.k = 2 ∨ m.k = 3 ∨ m.k = 4 ∨ m.k = 5 ∨ m.k = 6 ∨ m.k = 7 ∨ m.k = 8 ∨ m.k = 9 ∨ m.k = 10 := by
    unfold kindB at hk
    simp at hk
    omega
  have h0 : wrap64 (m.e + 1) = m.e + 1 := IntWalk.wrap64_in _ (by omega)
  have h1 : wrap64 (4 * wrap64 (m.e + 1)) = 4 * m.e + 4 := by rw [h0, IntWalk.wrap64_in _ (by omega)]; omega
  have h2 : wrap64 (4 * m.e) = 4 * m.e := IntWalk.wrap64_in _ (by omega); have l1 : decide ((m.sg.length : Int) = 1) = decide (m.sg.length = 1) := decide_eq_decide.2 (by omega); have l2 : decide ((m.sg.length : Int) = 2) = decide (m.sg.length = 2) := decide_eq_decide.2 (by omega); have l3 : decide ((m.ch.length : Int) = 1) = decide (m.ch.length = 1) := decide_eq_decide.2 (by omega); have l4 : decide ((1 : Int) ≤ m.ch.length) = decide (1 ≤ m.ch.length) := decide_eq_decide.2 (by omega); have l5 : decide ((m.ch.length : Int) ≤ 10) = decide (m.ch.length ≤ 10) := decide_eq_decide.2 (by omega); have l6 : decide (1 ≤ m.e) = decide (0 < m.e) := decide_eq_decide.2 (by omega)
  have l7 : (resErr m.c == 0) = (decide (0 ≤ m.c) && decide (m.c ≤ 8)) := by
    unfold resErr
    by_cases h : 0 ≤ m.c ∧ m.c ≤ 8
    · rw [if_pos h, decide_eq_true h.1, decide_eq_true h.2]; rfl
    · rw [if_neg h]
      have : ¬ (0 ≤ m.c) ∨ ¬ (m.c ≤ 8) := by omega
      rcases this with h | h <;> simp [h]
  unfold okR okM
  rcases hkk with h | h | h | h | h | h | h | h | h | h <;> rw [h] <;> simp only [Int.reduceEq, if_true, if_false] <;>
    simp [okR1, okR2, okR3, okR4, okR5, okR6, okR7, okR8, okR9, okR10, viewB, ofR_in he, changesR_none he, h1, h2, l1, l2, l3, l4, l5, l6, l7, size_ne, int_beq, Bool.and_assoc]
  simp [restB, Bool.and_assoc, Bool.and_comm, Bool.and_left_comm]
theorem fitR_eq (m : Mg) : fitR m = if kindB m then (if fitsP m then 0 else 4) else 19 := by
  unfold fitR
  cases hk : kindB m with
  | false => rfl
  | true =>
    rw [if_pos rfl, if_pos rfl]
    by_cases he : 0 ≤ m.e ∧ m.e ≤ 60
    · rw [okR_eq m hk he]
      unfold fitsP
      rw [decide_eq_true he.1, decide_eq_true he.2, decide_eq_false (show ¬ m.e < 0 by omega), decide_eq_false (show ¬ 60 < m.e by omega)]
      cases okM m <;> cases sigsB m.sg <;> rfl
    · have hf : fitsP m = false := by
        unfold fitsP
        rcases Int.lt_or_le m.e 0 with h | h
        · rw [decide_eq_false (show ¬ 0 ≤ m.e by omega)]; rfl
        · rw [decide_eq_false (show ¬ m.e ≤ 60 by omega), Bool.and_false]; rfl
      rw [hf]
      rcases Int.lt_or_le m.e 0 with h | h
      · rw [decide_eq_true h]; simp
      · rw [decide_eq_true (show 60 < m.e by omega)]; simp
end Go.Proofs.YtijeieamodjgbaaGreat
