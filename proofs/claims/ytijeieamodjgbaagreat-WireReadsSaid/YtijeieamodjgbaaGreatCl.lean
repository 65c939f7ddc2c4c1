
/- Walks of slices.Clone at ints and at signatures. -/
import Derived.Test.YtijeieamodjgbaaGreatVw
import Derived.Test.YtijeieamodjgbaaGreatOwn
import Derived.Test.YtijeieamodjgbaaGreatKp
import Derived.Test.YtijeieamodjgbaaGreatQuiet

namespace Go.Proofs.YtijeieamodjgbaaGreat
set_option maxRecDepth 100000
open Go.RowKit
set_option linter.unusedVariables false

theorem info_sig' : (Tryz.prog.info? 84).map (fun i => (i.zero, i.size, i.bytes)) = some (some (.agg #[.int .i64 0, .string ⟨#[]⟩]), 2, 24) := by kernel_rfl

def sigV (l : List Sg) : List Value := l.flatMap fun s => [.int .i64 s.1, .string s.2]
end Go.Proofs.YtijeieamodjgbaaGreat

/- The program's tracker: what it is in memory; walks of own, Epoch. -/
namespace Go.Proofs.YtijeieamodjgbaaGreat
set_option maxRecDepth 100000
open Go.RowKit
set_option linter.unusedVariables false

theorem ints_row {w : World} {B n c : Nat} {a : Option Addr} {l : List Int} (h : w.ownsRow B 3 1 (.slice a n c) n (intsV l)) (hl : l.length = n) (hf : ∀ x ∈ l, i64 x) (hb : n * 8 ≤ 140737488355328) : SlAt Sh.int w a n c l := by
  subst hl
  have hm : maxLen = 9223372036854775807 := rfl
  obtain ⟨a', c', hv, hi⟩ := owns_ints h hf (by omega)
  injection hv with h1 h2 h3
  subst h1 h3
  rcases h.2 with ⟨hv, h0⟩ | ⟨g, cap, cur, hv, hB, hg, hnc, hcm, _, _⟩
  · injection hv with h1 h2 h3
    exact sl_of_ints hi (by omega) (by omega) hb (fun _ => h3)
  · injection hv with h1 h2 h3
    subst h3
    exact sl_of_ints hi hnc (by omega) hb (fun h => by rw [h1] at h; cases h)
theorem sigs_row {w : World} {B n c : Nat} {a : Option Addr} {l : List Sg} (h : w.ownsRow B 84 2 (.slice a n c) n (sigV l)) (hl : l.length = n) (hf : ∀ s ∈ l, i64 s.1 ∧ s.2.size ≤ 1125899906842624) (hb : n * 24 ≤ 140737488355328) : SlAt shSig w a n c l := by
  subst hl
  have hr : ∀ (l : List Sg), (∀ s ∈ l, i64 s.1 ∧ s.2.size ≤ 1125899906842624) → rowOf shSig (fun _ => False) w l (sigV l) := by
    intro l
    induction l with
    | nil => intro _; rfl
    | cons s r ih =>
      intro hf
      refine ⟨[.int .i64 s.1, .string s.2], sigV r, rfl, rfl, fun w' _ => ?_, ih (fun x hx => hf x (List.mem_cons_of_mem _ hx))⟩
      obtain ⟨h1, h2⟩ := hf s (List.mem_cons_self ..)
      exact ⟨[.int .i64 s.1], [.string s.2], rfl, ⟨rfl, h1⟩, rfl, h2⟩
  exact sl_of_row (S := shSig) h (hr l hf) hb
end Go.Proofs.YtijeieamodjgbaaGreat
