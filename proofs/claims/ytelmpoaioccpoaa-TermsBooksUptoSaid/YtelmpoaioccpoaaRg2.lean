
/- The reference's Gather: plain, and what its stores leave. -/
import Derived.Test.YtelmpoaioccpoaaRg
namespace Go.Proofs.Ytelmpoaioccpoaa
set_option maxRecDepth 100000
open Go.RowKit
set_option linter.unusedVariables false
set_option linter.unusedSimpArgs false

theorem split2 (l : List Sg) (k : Nat) (h : k + 1 < l.length) : ∃ A a b B, l = A ++ a :: b :: B ∧ A.length = k ∧ l[k]? = some a ∧ l[k + 1]? = some b := by
  refine ⟨l.take k, l[k], l[k + 1], l.drop (k + 2), ?_, by simp; omega, List.getElem?_eq_getElem _, List.getElem?_eq_getElem _⟩
  have h1 := List.drop_eq_getElem_cons (l := l) (i := k) (by omega)
  have h2 := List.drop_eq_getElem_cons (l := l) (i := k + 1) (by omega)
  rw [← h2, ← h1, List.take_append_drop]
def swp2 (l : List Sg) (k : Nat) (a b : Sg) : List Sg := (l.set (k + 1) a).set k b
theorem swp2_perm {l : List Sg} {k : Nat} {a b : Sg} (ha : l[k]? = some a) (hb : l[k + 1]? = some b) : (swp2 l k a b).Perm l := by
  have hk : k + 1 < l.length := (List.getElem?_eq_some_iff.1 hb).1
  obtain ⟨A, a', b', B, rfl, hA, ha', hb'⟩ := split2 l k hk
  rw [ha] at ha'; injection ha' with ha'; subst ha'
  rw [hb] at hb'; injection hb' with hb'; subst hb'
  have : swp2 (A ++ a :: b :: B) k a b = A ++ b :: a :: B := by
    subst hA
    simp [swp2, List.set_append]
  rw [this]
  exact List.Perm.append_left A (List.Perm.swap a b B)
theorem swp2_get {l : List Sg} {k : Nat} {a b : Sg} (ha : l[k]? = some a) (hb : l[k + 1]? = some b) (j : Nat) : (swp2 l k a b)[j]? = if j = k then some b else if j = k + 1 then some a else l[j]? := by
  have hk : k + 1 < l.length := (List.getElem?_eq_some_iff.1 hb).1
  unfold swp2
  rw [List.getElem?_set]
  by_cases h1 : j = k
  · subst h1; rw [if_pos rfl, if_pos (by simp; omega), if_pos rfl]
  · rw [if_neg (fun e => h1 e.symm), if_neg h1, List.getElem?_set]
    by_cases h2 : j = k + 1
    · subst h2; rw [if_pos rfl, if_pos (by omega), if_pos rfl]
    · rw [if_neg (fun e => h2 e.symm), if_neg h2]
/-- Up to i in order, but for what stands at k against those before. -/
def InvS (l : List Sg) (i k : Nat) : Prop := ∀ p q x y, p < q → q ≤ i → q ≠ k → l[p]? = some x → l[q]? = some y → x.1 ≤ y.1
def SortTo (l : List Sg) (i : Nat) : Prop := ∀ p q x y, p < q → q < i → l[p]? = some x → l[q]? = some y → x.1 ≤ y.1
theorem InvS.start {l : List Sg} {i : Nat} (h : SortTo l i) : InvS l i i := fun p q x y hpq hq hne hx hy => h p q x y hpq (by omega) hx hy
theorem InvS.stop {l : List Sg} {i k : Nat} (h : InvS l i k) (hs : k = 0 ∨ ∃ k' a b, k = k' + 1 ∧ l[k']? = some a ∧ l[k' + 1]? = some b ∧ a.1 ≤ b.1) : SortTo l (i + 1) := fun p q x y hpq hq hx hy => by
  by_cases hqk : q = k
  · rcases hs with h0 | ⟨k', a, b, rfl, ha, hb, hab⟩
    · omega
    · subst hqk
      rw [hb] at hy; injection hy with hy; subst hy
      by_cases hp : p = k'
      · subst hp
        rw [ha] at hx; injection hx with hx; subst hx
        exact hab
      · have := h p k' x a (by omega) (by omega) (by omega) hx ha
        omega
  · exact h p q x y hpq (by omega) hqk hx hy
theorem InvS.step {l : List Sg} {i k : Nat} {a b : Sg} (h : InvS l i (k + 1)) (hk : k + 1 ≤ i) (ha : l[k]? = some a) (hb : l[k + 1]? = some b) (hab : b.1 < a.1) : InvS (swp2 l k a b) i k := fun p q x y hpq hq hne hx hy => by
  rw [swp2_get ha hb] at hx hy
  rw [if_neg hne] at hy
  by_cases hq1 : q = k + 1
  · subst hq1
    rw [if_pos rfl] at hy; injection hy with hy; subst hy
    by_cases hp : p = k
    · subst hp
      rw [if_pos rfl] at hx; injection hx with hx; subst hx
      omega
    · rw [if_neg hp, if_neg (by omega)] at hx
      exact h p k x a (by omega) (by omega) (by omega) hx ha
  · rw [if_neg hq1] at hy
    by_cases hp : p = k
    · subst hp
      rw [if_pos rfl] at hx; injection hx with hx; subst hx
      exact h (p + 1) q b y (by omega) hq (by omega) hb hy
    · rw [if_neg hp] at hx
      by_cases hp1 : p = k + 1
      · subst hp1
        rw [if_pos rfl] at hx; injection hx with hx; subst hx
        exact h k q a y (by omega) hq (by omega) ha hy
      · rw [if_neg hp1] at hx
        exact h p q x y hpq hq (by omega) hx hy
theorem SortTo.all {l : List Sg} (h : SortTo l l.length) : l.Pairwise (fun x y => ¬ y.1 < x.1) := by
  rw [List.pairwise_iff_getElem]
  intro i j hi hj hij
  have := h i j l[i] l[j] hij hj (List.getElem?_eq_getElem hi) (List.getElem?_eq_getElem hj)
  omega

/-- A store into an owned row. -/
theorem owns_set {w : World} {B e size n c : Nat} {g : Nat} {xs : List Value} (h : w.ownsRow B e size (.slice (some ⟨g, 0, none⟩) n c) n xs) (j : Nat) (u : Value) : (w.setCell ⟨g, j, none⟩ u).ownsRow B e size (.slice (some ⟨g, 0, none⟩) n c) n (xs.set j u) := by
  refine ⟨by rw [List.length_set]; exact h.1, ?_⟩
  rcases h.2 with ⟨hv, _⟩ | ⟨g', cap, cur, hv, hB, hg, hnc, hcm, hs, ht⟩
  · cases hv
  · injection hv with h1 h2 h3
    injection h1 with h1
    injection h1 with h1
    subst h1; subst h3
    refine .inr ⟨g, c, _, rfl, hB, blk_set hg j u, hnc, hcm, by simpa using hs, ?_⟩
    rw [← ht, Array.toList_setIfInBounds, List.take_set]
theorem flatV_set : ∀ (l : List Sg) (k : Nat) (s : Sg), ((flatV l).set (k * 2) (.int .i64 s.1)).set (k * 2 + 1) (.string s.2) = flatV (l.set k s)
  | [], k, s => by simp [flatV]
  | y :: r, 0, s => by simp [flatV, encS]
  | y :: r, k + 1, s => by
    have h := flatV_set r k s
    show ((encS y ++ flatV r).set ((k + 1) * 2) _).set ((k + 1) * 2 + 1) _ = encS y ++ flatV (r.set k s)
    have he : (encS y).length = 2 := rfl
    rw [← h, List.set_append_right _ _ (by rw [he]; omega), List.set_append_right _ _ (by rw [he]; omega), he, show (k + 1) * 2 - 2 = k * 2 by omega, show (k + 1) * 2 + 1 - 2 = k * 2 + 1 by omega]
theorem owns_cellS {w : World} {B e n c : Nat} {g : Nat} {l : List Sg} (h : w.ownsRow B e 2 (.slice (some ⟨g, 0, none⟩) n c) n (flatV l)) {k : Nat} {s : Sg} (hk : l[k]? = some s) :
    w.cell? ⟨g, k * 2, none⟩ = some (.int .i64 s.1) ∧ w.cell? ⟨g, k * 2 + 1, none⟩ = some (.string s.2) := by
  have h1 := h.cells (g := g) rfl _ _ (flatV_at l k 0 s _ hk rfl)
  have h2 := h.cells (g := g) rfl _ _ (flatV_at l k 1 s _ hk rfl)
  rw [Addr.add_lit, Nat.zero_add] at h1 h2
  exact ⟨h1, h2⟩
theorem owns_frozen {w : World} {B e size n c : Nat} {g : Nat} {xs : List Value} (h : w.ownsRow B e size (.slice (some ⟨g, 0, none⟩) n c) n xs) (j : Nat) : w.frozen? ⟨g, j, none⟩ = false := by
  rcases h.2 with ⟨hv, _⟩ | ⟨g', cap, cur, hv, hB, hg, _⟩
  · cases hv
  · injection hv with h1 h2 h3
    injection h1 with h1
    injection h1 with h1
    subst h1
    exact blk_frozen hg _
theorem owns_swap {w : World} {B e n c : Nat} {g : Nat} {l : List Sg} (h : w.ownsRow B e 2 (.slice (some ⟨g, 0, none⟩) n c) n (flatV l)) (k : Nat) (a b : Sg) :
    ((((w.setCell ⟨g, (k + 1) * 2, none⟩ (.int .i64 a.1)).setCell ⟨g, (k + 1) * 2 + 1, none⟩ (.string a.2)).setCell ⟨g, k * 2, none⟩ (.int .i64 b.1)).setCell ⟨g, k * 2 + 1, none⟩ (.string b.2)).ownsRow B e 2 (.slice (some ⟨g, 0, none⟩) n c) n (flatV (swp2 l k a b)) := by
  have h4 := owns_set (owns_set (owns_set (owns_set h ((k + 1) * 2) (.int .i64 a.1)) ((k + 1) * 2 + 1) (.string a.2)) (k * 2) (.int .i64 b.1)) (k * 2 + 1) (.string b.2)
  rw [flatV_set, flatV_set] at h4
  exact h4
end Go.Proofs.Ytelmpoaioccpoaa
