
/- lives of witanlaw01. -/
import Derived.Test.YtnmhmbfhaiaaoaaSca
namespace Go.Proofs.Ytnmhmbfhaiaaoaa
set_option maxRecDepth 100000
open Go.RowKit
set_option linter.unusedVariables false

theorem vs_cells {w : World} {B e n : Nat} {a : Option Addr} {c : Nat} {vs : List V} (h : w.ownsRow B e 3 (.slice a n c) vs.length (vsV vs)) :
    n = vs.length ∧ ∀ i x, vs[i]? = some x → ∃ g, a = some ⟨g, 0, none⟩ ∧ B ≤ g ∧ w.cell? ⟨g, i * 3, none⟩ = some (.int .i64 x.n) ∧ w.cell? ⟨g, i * 3 + 1, none⟩ = some (.int .u64 x.b) ∧ w.cell? ⟨g, i * 3 + 2, none⟩ = some (.string ⟨x.t.toArray⟩) := by
  have hget : ∀ (vs : List V) i x, vs[i]? = some x → (vsV vs)[i * 3]? = some (.int .i64 x.n) ∧ (vsV vs)[i * 3 + 1]? = some (.int .u64 x.b) ∧ (vsV vs)[i * 3 + 2]? = some (.string ⟨x.t.toArray⟩) := by
    intro vs
    induction vs with
    | nil => intro i x h; simp at h
    | cons v r ih =>
      intro i x h
      cases i with
      | zero => simp at h; subst h; simp [vsV]
      | succ i =>
        have := ih i x (by simpa using h)
        have e : vsV (v :: r) = .int .i64 v.n :: .int .u64 v.b :: .string ⟨v.t.toArray⟩ :: vsV r := rfl
        rw [e]
        refine ⟨?_, ?_, ?_⟩
        · rw [show (i + 1) * 3 = i * 3 + 3 by omega]; exact this.1
        · rw [show (i + 1) * 3 + 1 = i * 3 + 1 + 3 by omega]; exact this.2.1
        · rw [show (i + 1) * 3 + 2 = i * 3 + 2 + 3 by omega]; exact this.2.2
  rcases h.2 with ⟨hv, h0⟩ | ⟨g, cap, cur, hv, hB, hg, _⟩
  · injection hv with h1 h2 h3
    refine ⟨by rw [h0, h2], fun i x hx => ?_⟩
    have hl : vs = [] := List.eq_nil_of_length_eq_zero h0
    rw [hl] at hx
    cases hx
  · injection hv with h1 h2 h3
    subst h1
    refine ⟨h2, fun i x hx => ⟨g, rfl, hB, ?_, ?_, ?_⟩⟩
    · have := h.cells (g := g) rfl _ _ (hget vs i x hx).1; rwa [Addr.add_lit, Nat.zero_add] at this
    · have := h.cells (g := g) rfl _ _ (hget vs i x hx).2.1; rwa [Addr.add_lit, Nat.zero_add] at this
    · have := h.cells (g := g) rfl _ _ (hget vs i x hx).2.2; rwa [Addr.add_lit, Nat.zero_add] at this

theorem lives_put : wPut (wNew 2) (decide (0 ≤ (515 : Int) ∧ (515 : Int) ≤ 65535)) (beN (515 : Int).toNat 2) = ⟨[2, 3], 0, 0⟩ := rfl
theorem lives_scE : scE [98, 98] [2, 3] = 0 := rfl
theorem lives_scL : scL [98, 98] [2, 3] = [⟨2, 0, []⟩, ⟨3, 0, []⟩] := rfl

end Go.Proofs.Ytnmhmbfhaiaaoaa
