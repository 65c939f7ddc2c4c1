
/- Maps from ints and from signatures to counts: what they read as. -/
import Derived.Test.YtijeieamodjgbabVw
import Derived.Test.YtijeieamodjgbabKp
import Derived.Maps.OwnSet
import Derived.Maps.OwnOps
import Derived.DeepKeys4
import Derived.WideKeyEntry
import Derived.Laws.StructEq

namespace Go.Proofs.Ytijeieamodjgbab
set_option maxRecDepth 100000
open Go.RowKit Go.Maps
set_option linter.unusedVariables false
set_option linter.unusedSimpArgs false

instance sgMem (s : Sg) (l : List Sg) : Decidable (s ∈ l) := decidable_of_iff (l.any (fun y => decide (y = s)) = true) (by simp)
set_option maxHeartbeats 2000000 in
theorem sigRow : (108 : TypeId) < Try.prog.types.size := of_decide_eq_true (by kernel_rfl)
theorem sigWide : (match Try.prog.underlying 108 with | some (.array _ _) | some (.struct _) => true | _ => false) = true := by rw [Try.underlying108]
theorem laidOut9 : laidOutB Try.prog = true := by kernel_rfl
theorem sigLaw : Go.WideMaps.KeyLaw Try.prog 108 := deep_law_laid laidOut9 (m := 2) (by omega) sigRow (by kernel_rfl) sigWide
theorem sigK : Keyed Try.prog 108 := Keyed.of_law sigLaw
def sgV (s : Sg) : Value := .agg #[.int .i64 s.1, .string s.2]
def sgL (s : Sg) : Lit := .string (keyBytes [.int .i64 s.1, .string s.2.data.toList])
def sgOk (s : Sg) : Prop := i64 s.1 ∧ s.2.size ≤ 1125899906842624
theorem typesSize : ∃ m, Try.prog.types.size = m + 1 := ⟨Try.prog.types.size - 1, by kernel_rfl⟩
theorem sigKeyType : Try.prog.keyType 108 = true := by kernel_rfl
theorem sigCells : Try.prog.cellsOf 108 = 2 := by kernel_rfl
theorem intCells : Try.prog.cellsOf 3 = 1 := by kernel_rfl
theorem strCells : Try.prog.cellsOf 9 = 1 := by kernel_rfl
theorem keyOf_two {P : Program} {k ti ts : TypeId} {f1 f2 : Field} (hk : P.underlying k = some (.struct #[f1, f2])) (h1 : f1.type = ti ∧ f1.offset = 0 ∧ f1.name ≠ "_") (h2 : f2.type = ts ∧ f2.offset = 1 ∧ f2.name ≠ "_") (hi : P.underlying ti = some (.int .i64)) (hs : P.underlying ts = some .string)
    (hkt : P.keyType k = true) (hc : P.cellsOf k = 2) (hc1 : P.cellsOf ti = 1) (hc2 : P.cellsOf ts = 1) (hsz : ∃ m, P.types.size = m + 1) (x : Int) (t : ByteArray) (hx : (Lit.int .i64 x).wf = true) (ht : t.size ≤ maxLen) :
    keyOf P k (.agg #[.int .i64 x, .string t]) = some (.string (keyBytes [.int .i64 x, .string t.data.toList])) := by
  obtain ⟨m, hm⟩ := hsz
  have hf : (Value.agg #[.int .i64 x, .string t]).formed P k = true := by simp [Value.formed, hk, hc]
  simp [keyOf, hk, hkt, hf, hm, Program.keyLits, h1, h2, hi, hs, hc, hc1, hc2, hx, ht, Value.cells]
theorem sgKey (s : Sg) (h : sgOk s) : keyOf Try.prog 108 (sgV s) = some (sgL s) := by
  obtain ⟨x, t⟩ := s
  exact keyOf_two Try.underlying108 ⟨rfl, rfl, by decide⟩ ⟨rfl, rfl, by decide⟩ Try.underlying3 Try.underlying9 sigKeyType sigCells intCells strCells typesSize x t (Go.WalkArith.wf_i64 h.1) (Nat.le_trans h.2 (by unfold maxLen; omega))
theorem sgL_inj {s s' : Sg} (h : sgOk s) (h' : sgOk s') (he : sgL s = sgL s') : s = s' := by
  have h1 := sgKey s h
  have h2 := sgKey s' h'
  rw [← he] at h2
  have h3 := sigK.inj h1 h2
  obtain ⟨x, t⟩ := s
  obtain ⟨x', t'⟩ := s'
  simpa [sgV] using h3
abbrev li (n : Int) : DataW Unit := .lit (.int .i64 n)
section
open Go.WideElems Go.MapKept Go.ChangeMaps
variable {P : Program} {w : World} {t k e : TypeId} {b n : Nat} {D : DataW Unit}
end
end Go.Proofs.Ytijeieamodjgbab
