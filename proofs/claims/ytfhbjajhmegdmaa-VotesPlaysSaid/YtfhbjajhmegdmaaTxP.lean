
/- Plain law: a configuration's bytes. No program in sight. -/
import Derived.Test.YtfhbjajhmegdmaaCoP
import Derived.Test.YtfhbjajhmegdmaaRdM
namespace Go.Proofs.Ytfhbjajhmegdmaa
set_option maxRecDepth 100000
set_option linter.unusedVariables false

def byteL (l : List Int) : List UInt8 := l.map fun x => UInt8.ofNat x.toNat
/-- A right configuration's bytes. -/
def textP (e : Int) (l : List Int) : List UInt8 := beN 67 1 ++ beN e.toNat 2 ++ beN l.length 1 ++ byteL l
def textHead (e : Int) (n : Nat) : List UInt8 := beN 67 1 ++ beN e.toNat 2 ++ beN n 1
theorem textP_eq (e : Int) (l : List Int) : textP e l = textHead e l.length ++ byteL l := rfl
theorem textHead_len (e : Int) (n : Nat) : (textHead e n).length = 4 := by simp [textHead, beN_len]
theorem byteL_len (l : List Int) : (byteL l).length = l.length := by simp [byteL]
theorem byteL_snoc (l : List Int) (x : Int) : byteL (l ++ [x]) = byteL l ++ beN x.toNat 1 := by
  simp only [byteL, List.map_append, List.map_cons, List.map_nil, beN, List.nil_append]
  congr 2
  apply UInt8.toNat_inj.1
  simp

theorem wByte_step (out : List UInt8) (room n : Int) (h0 : 0 ≤ n) (h1 : n ≤ 255) (hr : 1 ≤ room) :
    wPut ⟨out, room, 0⟩ (decide (0 ≤ n ∧ n ≤ 255)) (beN n.toNat 1) = ⟨out ++ beN n.toNat 1, room - 1, 0⟩ := by
  rw [show decide (0 ≤ n ∧ n ≤ 255) = true by simp; omega, wPut_ok rfl, wAdd_room (by rw [beN_len]; show ¬ room < _; omega), beN_len]; rfl
theorem wWord_step (out : List UInt8) (room n : Int) (h0 : 0 ≤ n) (h1 : n ≤ 65535) (hr : 2 ≤ room) :
    wPut ⟨out, room, 0⟩ (decide (0 ≤ n ∧ n ≤ 65535)) (beN n.toNat 2) = ⟨out ++ beN n.toNat 2, room - 2, 0⟩ := by
  rw [show decide (0 ≤ n ∧ n ≤ 65535) = true by simp; omega, wPut_ok rfl, wAdd_room (by rw [beN_len]; show ¬ room < _; omega), beN_len]; rfl
theorem wNum_step (out : List UInt8) (room n : Int) (k : Nat) (h0 : 0 ≤ n) (h1 : n < ((256 ^ k : Nat) : Int)) (hr : (k : Int) ≤ room) :
    wPut ⟨out, room, 0⟩ (decide (0 ≤ n ∧ n < ((256 ^ k : Nat) : Int))) (beN n.toNat k) = ⟨out ++ beN n.toNat k, room - k, 0⟩ := by
  rw [show decide (0 ≤ n ∧ n < ((256 ^ k : Nat) : Int)) = true by simp only [decide_eq_true_eq]; exact ⟨h0, h1⟩, wPut_ok rfl, wAdd_room (by rw [beN_len]; show ¬ room < _; omega), beN_len]
end Go.Proofs.Ytfhbjajhmegdmaa
