
/- Walks of slices.Clone at ints and at signatures. -/
import Derived.Test.YtelmpoaioccpoaaSg
import Derived.Test.YtelmpoaioccpoaaOwn
namespace Go.Proofs.Ytelmpoaioccpoaa
set_option maxRecDepth 100000
open Go.RowKit
set_option linter.unusedVariables false

theorem info_int' : (Try.prog.info? 3).map (fun i => (i.zero, i.size, i.bytes)) = some (some (.int .i64 0), 1, 8) := by kernel_rfl
theorem info_sig' : (Try.prog.info? 34).map (fun i => (i.zero, i.size, i.bytes)) = some (some (.agg #[.int .i64 0, .string ⟨#[]⟩]), 2, 24) := by kernel_rfl

def sigV (l : List Sg) : List Value := l.flatMap fun s => [.int .i64 s.1, .string s.2]
theorem sigV_len (l : List Sg) : (sigV l).length = l.length * 2 := by
  induction l with
  | nil => rfl
  | cons s r ih => rw [show sigV (s :: r) = .int .i64 s.1 :: .string s.2 :: sigV r from rfl, List.length_cons, List.length_cons, List.length_cons, ih]; omega
theorem sigV_one (l : List Sg) : ∀ u ∈ sigV l, u.oneCell' = true := by
  intro u hu
  rw [sigV, List.mem_flatMap] at hu
  obtain ⟨v, _, hu⟩ := hu
  simp at hu
  rcases hu with rfl | rfl <;> rfl
theorem sigV_get : ∀ (l : List Sg) (i : Nat) (x : Int) (t : ByteArray), l[i]? = some (x, t) → (sigV l)[i * 2]? = some (.int .i64 x) ∧ (sigV l)[i * 2 + 1]? = some (.string t) := by
  intro l
  induction l with
  | nil => intro i x t h; simp at h
  | cons s r ih =>
    intro i x t h
    have e : sigV (s :: r) = .int .i64 s.1 :: .string s.2 :: sigV r := rfl
    cases i with
    | zero => simp at h; subst h; rw [e]; exact ⟨rfl, rfl⟩
    | succ i =>
      have := ih i x t (by simpa using h)
      rw [e]
      exact ⟨by rw [show (i + 1) * 2 = i * 2 + 2 by omega]; exact this.1, by rw [show (i + 1) * 2 + 1 = i * 2 + 1 + 2 by omega]; exact this.2⟩
theorem sigV_at (l : List Sg) (j : Nat) (u : Value) (h : (sigV l)[j]? = some u) : ∃ i x t, l[i]? = some (x, t) ∧ ((j = i * 2 ∧ u = .int .i64 x) ∨ (j = i * 2 + 1 ∧ u = .string t)) := by
  have hj : j < l.length * 2 := by rw [← sigV_len]; exact (List.getElem?_eq_some_iff.1 h).1
  obtain ⟨⟨x, t⟩, hs⟩ : ∃ s, l[j / 2]? = some s := ⟨_, List.getElem?_eq_getElem (by omega)⟩
  obtain ⟨h1, h2⟩ := sigV_get l _ x t hs
  refine ⟨j / 2, x, t, hs, ?_⟩
  by_cases hm : j % 2 = 0
  · have : j = j / 2 * 2 := by omega
    rw [← this, h] at h1
    exact .inl ⟨this, by injection h1⟩
  · have : j = j / 2 * 2 + 1 := by omega
    rw [← this, h] at h2
    exact .inr ⟨this, by injection h2⟩

theorem empty_owned (w : World) (e k : Nat) (t : TypeId) (hk : e = t) : (w.alloc (.cells #[] t)).ownsRow w.heap.size e k (.slice (some ⟨w.heap.size, 0, none⟩) 0 0) 0 [] := by
  subst hk
  exact ⟨by simp, .inr ⟨w.heap.size, 0, #[], rfl, Nat.le_refl _, blk_alloc w _, Nat.le_refl _, by decide, by simp, by simp⟩⟩


end Go.Proofs.Ytelmpoaioccpoaa
