/- lives of witanlaw01. -/
import Derived.Test.YtldlkhnhpbonkaaSca
namespace Go.Proofs.Ytldlkhnhpbonkaa
open Go.RowKit
set_option linter.unusedVariables false

theorem vs_cells {w : World} {B e n : Nat} {a : Option Addr} {c : Nat} {vs : List V} (h : w.ownsRow B e 3 (.slice a n c) vs.length (vsV vs)) :
    n = vs.length ∧ ∀ i x, vs[i]? = some x → ∃ g, a = some ⟨g, 0, none⟩ ∧ B ≤ g ∧ w.cell? ⟨g, i * 3, none⟩ = some (.int .i64 x.n) ∧ w.cell? ⟨g, i * 3 + 1, none⟩ = some (.int .u64 x.b) ∧ w.cell? ⟨g, i * 3 + 2, none⟩ = some (.string ⟨x.t.toArray⟩) := by
  have hget : ∀ (vs : List V) i x, vs[i]? = some x → (vsV vs)[i * 3]? = some (.int .i64 x.n) ∧ (vsV vs)[i * 3 + 1]? = some (.int .u64 x.b) ∧ (vsV vs)[i * 3 + 2]? = some (.string ⟨x.t.toArray⟩) := by
    intro vs
    induction vs with
    | nil => intro i x h; simp at h
    | cons v r ih =>
      intro i x h
      cases i with
      | zero => simp at h; subst h; simp [vsV]
      | succ i =>
        have := ih i x (by simpa using h)
        have e : vsV (v :: r) = .int .i64 v.n :: .int .u64 v.b :: .string ⟨v.t.toArray⟩ :: vsV r := rfl
        rw [e]
        refine ⟨?_, ?_, ?_⟩
        · rw [show (i + 1) * 3 = i * 3 + 3 by omega]; exact this.1
        · rw [show (i + 1) * 3 + 1 = i * 3 + 1 + 3 by omega]; exact this.2.1
        · rw [show (i + 1) * 3 + 2 = i * 3 + 2 + 3 by omega]; exact this.2.2
  rcases h.2 with ⟨hv, h0⟩ | ⟨g, cap, cur, hv, hB, hg, _⟩
  · injection hv with h1 h2 h3
    refine ⟨by rw [h0, h2], fun i x hx => ?_⟩
    have hl : vs = [] := List.eq_nil_of_length_eq_zero h0
    rw [hl] at hx
    cases hx
  · injection hv with h1 h2 h3
    subst h1
    refine ⟨h2, fun i x hx => ⟨g, rfl, hB, ?_, ?_, ?_⟩⟩
    · have := h.cells (g := g) rfl _ _ (hget vs i x hx).1; rwa [Addr.add_lit, Nat.zero_add] at this
    · have := h.cells (g := g) rfl _ _ (hget vs i x hx).2.1; rwa [Addr.add_lit, Nat.zero_add] at this
    · have := h.cells (g := g) rfl _ _ (hget vs i x hx).2.2; rwa [Addr.add_lit, Nat.zero_add] at this

theorem lives_put : wPut (wNew 2) (decide (0 ≤ (515 : Int) ∧ (515 : Int) ≤ 65535)) (beN (515 : Int).toNat 2) = ⟨[2, 3], 0, 0⟩ := rfl
theorem lives_scE : scE [98, 98] [2, 3] = 0 := rfl
theorem lives_scL : scL [98, 98] [2, 3] = [⟨2, 0, []⟩, ⟨3, 0, []⟩] := rfl

set_option maxHeartbeats 1000000 in
theorem lives_any (w : World) : Calls Try.prog 10 #[] w fun e w' => e = .returned (.bool true) ∧ Below w.heap.size w w' := by
  have g1 := Lib.hid (show max (2 : Int) 0 = 2 by omega)
  go_enter Try.func10, Try.ntmps10
  go_wp2_with fail
  refine (wnew_any 2 w).mono ?_
  rintro e w1 ⟨rfl, hw1, b1⟩
  have hp1 := hw1.lt
  go_wp2_with fail
  refine (wword_any _ _ _ _ 515 w1 hw1 b1.size ⟨by simp [wNew, g1.out], by simp [wNew]⟩ (fits_of (by simp [wNew])) (by simp [i64])).mono ?_
  rintro e w2 ⟨rfl, ob, ho, hw2, o2⟩
  rw [lives_put] at hw2
  have B2 := Only.below b1 o2 (Nat.le_refl _) (fun k hk => by cases hk)
  go_wp2_with fail
  refine (wdone_any _ _ _ _ w2 hw2).mono ?_
  rintro e w3 ⟨rfl, b3⟩
  have B3 := bthen B2 b3
  have hd : doneS ⟨[2, 3], 0, 0⟩ = ⟨#[2, 3]⟩ := rfl
  rw [hd]
  go_wp2_with fail
  refine (scan_any ⟨#[98, 98]⟩ ⟨#[2, 3]⟩ w3 (by decide) (by decide)).mono ?_
  rintro e w4 ⟨v, rfl, hr, b4⟩
  have B4 := bthen B3 b4
  replace hr : w4.ownsRow w3.heap.size 44 3 v [(⟨2, 0, []⟩ : V), ⟨3, 0, []⟩].length (vsV [⟨2, 0, []⟩, ⟨3, 0, []⟩]) := hr
  rw [show scE (ByteArray.mk #[98, 98]).data.toList (ByteArray.mk #[2, 3]).data.toList = 0 from rfl]
  obtain ⟨a, c, rfl⟩ := owns_slice3 hr
  obtain ⟨_, hc⟩ := vs_cells hr
  obtain ⟨g, rfl, _, c0, _⟩ := hc 0 _ rfl
  obtain ⟨g', hg, _, c1, _⟩ := hc 1 _ rfl
  obtain rfl : g = g' := by simpa using hg
  have HB := Lib.hid B4
  clear hc hg B4 B3 b4 b3 hr B2 o2 b1 ho hw1 hw2
  go_wp2_with fail
  go_ret
  exact ⟨rfl, HB.out⟩
end Go.Proofs.Ytldlkhnhpbonkaa
