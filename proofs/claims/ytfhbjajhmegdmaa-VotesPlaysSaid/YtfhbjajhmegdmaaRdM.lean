
/- What the walks are told of a reader. No program in sight. -/
import Derived.Test.YtfhbjajhmegdmaaPkM
import Derived.Lib.Strings
namespace Go.Proofs.Ytfhbjajhmegdmaa
set_option maxRecDepth 100000
open Go.RowKit
set_option linter.unusedVariables false

/-- A reader's state: what is left, whether it fell short. -/
structure R where
  rest : List UInt8
  bad : Bool
def valBE : List UInt8 → Nat := fun l => l.foldl (fun n b => n * 256 + b.toNat) 0
def rVal (s : R) (k : Nat) : Nat := if s.bad = true ∨ s.rest.length < k then 0 else valBE (s.rest.take k)
def rNext (s : R) (k : Nat) : R := if s.bad = true ∨ s.rest.length < k then ⟨s.rest, true⟩ else ⟨s.rest.drop k, false⟩
theorem rVal_bad {s : R} {k : Nat} (h : s.bad = true ∨ s.rest.length < k) : rVal s k = 0 := by rw [rVal, if_pos h]
theorem rNext_bad {s : R} {k : Nat} (h : s.bad = true ∨ s.rest.length < k) : rNext s k = ⟨s.rest, true⟩ := by rw [rNext, if_pos h]
theorem rVal_ok {s : R} {k : Nat} (h : ¬ (s.bad = true ∨ s.rest.length < k)) : rVal s k = valBE (s.rest.take k) := by rw [rVal, if_neg h]
theorem rNext_ok {s : R} {k : Nat} (h : ¬ (s.bad = true ∨ s.rest.length < k)) : rNext s k = ⟨s.rest.drop k, false⟩ := by rw [rNext, if_neg h]

theorem valBE_snoc (l : List UInt8) (b : UInt8) : valBE (l ++ [b]) = valBE l * 256 + b.toNat := by simp [valBE]
theorem foldBE_lt : ∀ (l : List UInt8) (a : Nat), l.foldl (fun n b => n * 256 + b.toNat) a < (a + 1) * 256 ^ l.length
  | [], a => by simp
  | b :: r, a => by
    have h := foldBE_lt r (a * 256 + b.toNat)
    have hb := b.toNat_lt
    have h2 : (a * 256 + b.toNat + 1) * 256 ^ r.length ≤ ((a + 1) * 256) * 256 ^ r.length := Nat.mul_le_mul_right _ (by omega)
    rw [List.foldl_cons, List.length_cons, Nat.pow_succ, Nat.mul_comm (256 ^ r.length) 256, ← Nat.mul_assoc]
    omega
theorem valBE_lt (l : List UInt8) : valBE l < 256 ^ l.length := by
  have := foldBE_lt l 0
  simpa [valBE] using this
theorem pow8 {k : Nat} (h : k ≤ 8) : 256 ^ k ≤ 18446744073709551616 := Nat.pow_le_pow_right (n := 256) (by omega) h
theorem pow7 {k : Nat} (h : k < 8) : 256 ^ k ≤ 72057594037927936 := Nat.pow_le_pow_right (n := 256) (by omega) (show k ≤ 7 by omega)

/-- n<<8 | c, of a byte c. -/
theorem or_byte (n c : Nat) (hc : c < 256) : n * 256 ||| c = n * 256 + c := by
  have := Nat.shiftLeft_add_eq_or_of_lt (i := 8) (show c < 2 ^ 8 by omega) n
  rw [Nat.shiftLeft_eq] at this
  exact this.symm

theorem or_bits (m c : Nat) (hm : m < 72057594037927936) (hc : c < 256) : bits .or .u64 ((m : Int) * 256) (c : Int) = ((m * 256 + c : Nat) : Int) := by
  have := u64_or_nat (m * 256) c (by omega) (by omega)
  rw [or_byte m c hc] at this
  rw [← this]
  congr 1
/-- What '[]byte(x)' has laid. -/
theorem bytes_row_cell (u : World) (x : ByteArray) (cap : Nat) (t : TypeId) (fr : Nat × Nat) (n : Nat) (hn : n = u.heap.size) (j : Nat) (b : UInt8) (h : x.data.toList[j]? = some b) :
    (u.alloc (.cells (bytesRow x cap) t fr)).cell? ⟨n, j, none⟩ = some (.int .u8 (b.toNat : Int)) := by
  subst hn
  rw [World.cell?_alloc_mark]
  have hj : j < x.data.size := by have := (List.getElem?_eq_some_iff.1 h).1; simpa using this
  have h2 : x.data[j]? = some b := by simpa using h
  rw [bytesRow, Array.getElem?_append_left (by simpa using hj), Array.getElem?_map, h2]
  rfl

/-- The reference's reader: what is left, and whether something could not be read. -/
def RRdT (T : TypeId) (w : World) (p : Nat) (s : R) : Prop :=
  ∃ S : ByteArray, w.heap[p]? = some (.cells #[.string S, .bool s.bad] T (0, 0)) ∧ S.data.toList = s.rest ∧ S.size ≤ 140737488351232
/-- The program's reader over a text. -/
def PRdT (T : TypeId) (w : World) (p : Nat) (text : ByteArray) (s : R) : Prop :=
  ∃ at0 : Nat, at0 ≤ text.size ∧ text.size ≤ 140737488351232 ∧ w.heap[p]? = some (.cells #[.string text, .int .i64 at0, .bool s.bad] T (0, 0)) ∧ s.rest = text.data.toList.drop at0
end Go.Proofs.Ytfhbjajhmegdmaa
