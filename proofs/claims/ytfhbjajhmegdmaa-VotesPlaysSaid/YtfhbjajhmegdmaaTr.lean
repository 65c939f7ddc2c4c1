
/- The program's tracker: what it is in memory; walks of own, Epoch. -/
import Derived.Test.YtfhbjajhmegdmaaKp
import Derived.Test.YtfhbjajhmegdmaaCl
import Derived.Test.YtfhbjajhmegdmaaPhase
namespace Go.Proofs.Ytfhbjajhmegdmaa
set_option maxRecDepth 100000
open Go.RowKit
set_option linter.unusedVariables false

theorem ints_row {w : World} {B n c : Nat} {a : Option Addr} {l : List Int} (h : w.ownsRow B 3 1 (.slice a n c) n (intsV l)) (hl : l.length = n) (hf : ∀ x ∈ l, i64 x) (hb : n * 8 ≤ 140737488355328) : SlAt Sh.int w a n c l := by
  subst hl
  have hm : maxLen = 9223372036854775807 := rfl
  obtain ⟨a', c', hv, hi⟩ := owns_ints h hf (by omega)
  injection hv with h1 h2 h3
  subst h1 h3
  rcases h.2 with ⟨hv, h0⟩ | ⟨g, cap, cur, hv, hB, hg, hnc, hcm, _, _⟩
  · injection hv with h1 h2 h3
    exact sl_of_ints hi (by omega) (by omega) hb (fun _ => h3)
  · injection hv with h1 h2 h3
    subst h3
    exact sl_of_ints hi hnc (by omega) hb (fun h => by rw [h1] at h; cases h)
theorem sigs_row {w : World} {B n c : Nat} {a : Option Addr} {l : List Sg} (h : w.ownsRow B 47 2 (.slice a n c) n (sigV l)) (hl : l.length = n) (hf : ∀ s ∈ l, i64 s.1 ∧ s.2.size ≤ 1125899906842624) (hb : n * 24 ≤ 140737488355328) : SlAt shSig w a n c l := by
  subst hl
  have hr : ∀ (l : List Sg), (∀ s ∈ l, i64 s.1 ∧ s.2.size ≤ 1125899906842624) → rowOf shSig (fun _ => False) w l (sigV l) := by
    intro l
    induction l with
    | nil => intro _; rfl
    | cons s r ih =>
      intro hf
      refine ⟨[.int .i64 s.1, .string s.2], sigV r, rfl, rfl, fun w' _ => ?_, ih (fun x hx => hf x (List.mem_cons_of_mem _ hx))⟩
      obtain ⟨h1, h2⟩ := hf s (List.mem_cons_self ..)
      exact ⟨[.int .i64 s.1], [.string s.2], rfl, ⟨rfl, h1⟩, rfl, h2⟩
  exact sl_of_row (S := shSig) h (hr l hf) hb
theorem sl_fit {w : World} {a : Option Addr} {n c : Nat} {l : List Sg} (h : SlAt shSig w a n c l) : ∀ s ∈ l, i64 s.1 ∧ s.2.size ≤ 1125899906842624 := fun s hs => by
  obtain ⟨i, hi, rfl⟩ := List.getElem_of_mem hs
  obtain ⟨b, o, x, t, _, hit, _, _, h1, h2⟩ := sig_cells h (by rw [← h.len]; exact hi)
  have : l[i]? = some l[i] := List.getElem?_eq_getElem hi
  rw [this] at hit
  injection hit with hit
  rw [hit]; exact ⟨h1, h2⟩

/-- A configuration's cells with members of its own: whatever is done to older blocks. -/
theorem conf_rob {X : Nat → Prop} {w : World} {B n c : Nat} {a : Option Addr} {e : Int} {l : List Int} (h : w.ownsRow B 3 1 (.slice a n c) n (intsV l)) (hl : l.length = n) (hX : ∀ k, (Value.slice a n c).ownBlock = some k → ¬ X k) (he : i64 e) (hf : ∀ x ∈ l, i64 x) (hb : n * 8 ≤ 140737488355328) :
    Rob X (fun w' => shConf.E w' (e, l) [.int .i64 e, .slice a n c]) w := fun w' hk => by
  have h2 := owns_keep h hk hX
  exact ⟨[.int .i64 e], [.slice a n c], rfl, ⟨rfl, he⟩, a, n, c, rfl, ints_row h2 hl hf hb⟩
theorem sigs_rob {X : Nat → Prop} {w : World} {B n c : Nat} {a : Option Addr} {l : List Sg} (h : w.ownsRow B 47 2 (.slice a n c) n (sigV l)) (hl : l.length = n) (hX : ∀ k, (Value.slice a n c).ownBlock = some k → ¬ X k) (hf : ∀ s ∈ l, i64 s.1 ∧ s.2.size ≤ 1125899906842624) (hb : n * 24 ≤ 140737488355328) :
    Rob X (fun w' => shSig.slice.E w' l [.slice a n c]) w := fun w' hk => by
  have h2 := owns_keep h hk hX
  exact ⟨a, n, c, rfl, sigs_row h2 hl hf hb⟩

/-- What own answers: a configuration with members of its own. -/
def OwnPost (e0 : Int) (n : Nat) (l : List Int) (w : World) (r : Ending) (w' : World) : Prop :=
  ∃ a' c', r = .returned (.agg #[.int .i64 e0, .slice a' n c']) ∧ w'.ownsRow w.heap.size 3 1 (.slice a' n c') n (intsV l) ∧ Below w.heap.size w w'

end Go.Proofs.Ytfhbjajhmegdmaa
