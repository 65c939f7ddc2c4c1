
/- Blocks that keep their shape. No program in sight. -/
import Derived.Test.YtfhbjajhmegdmaaKp
namespace Go.Proofs.Ytfhbjajhmegdmaa
set_option maxRecDepth 100000
open Go.RowKit
set_option linter.unusedVariables false

/-- Each block of cells has kept its type, its mark and its size. -/
def Shp (w w' : World) : Prop := ∀ (k : Nat) cs t fr, w.heap[k]? = some (.cells cs t fr) → ∃ cs', w'.heap[k]? = some (.cells cs' t fr) ∧ cs'.size = cs.size
theorem Shp.refl (w : World) : Shp w w := fun k cs t fr h => ⟨cs, h, rfl⟩
theorem Shp.trans {w w1 w2 : World} (h : Shp w w1) (h2 : Shp w1 w2) : Shp w w2 := fun k cs t fr hk => by
  obtain ⟨cs1, h1, h3⟩ := h k cs t fr hk
  obtain ⟨cs2, h4, h5⟩ := h2 k cs1 t fr h1
  exact ⟨cs2, h4, h5.trans h3⟩
theorem Shp.of_below {w w' : World} (h : Below w.heap.size w w') : Shp w w' := fun k cs t fr hk => ⟨cs, blk_below hk h, rfl⟩
theorem Shp.set (w : World) (p o : Nat) (v : Value) : Shp w (w.setCell ⟨p, o, none⟩ v) := fun k cs t fr hk => by
  by_cases hp : k = p
  · subst hp; exact ⟨_, blk_set hk o v, by simp⟩
  · exact ⟨cs, blk_set_other hk p o v hp, rfl⟩
theorem ownw_shp {w w' : World} {e B n : Nat} {ao : Option Addr} (h : OwnW w e B ao n) (hs : Shp w w') : OwnW w' e B ao n := by
  rcases h with h | ⟨g, cur, h1, h2, h3, h4⟩
  · exact .inl h
  · obtain ⟨cs', h5, h6⟩ := hs g _ _ _ h3
    exact .inr ⟨g, cs', h1, h2, h5, by omega⟩
theorem owns_ownws {w : World} {B e n n' c s : Nat} {ao : Option Addr} {xs : List Value} (h : w.ownsRow B e s (.slice ao n' c) n xs) : OwnW w e B ao (n * s) := by
  rcases h.2 with ⟨_, h0⟩ | ⟨g, cap, cur, hv, hB, hg, hn, _, hs, _⟩
  · exact .inl (by rw [h0]; simp)
  · injection hv with h1
    exact .inr ⟨g, cur, h1, hB, hg, by rw [hs]; exact Nat.mul_le_mul_right _ hn⟩
/-- What holds whatever is done to X owns no block of X. -/
theorem rob_apart {X : Nat → Prop} {w : World} {B e s n : Nat} {v : Value} {xs : List Value} (h : Rob X (fun w' => w'.ownsRow B e s v n xs) w) : ∀ k, v.ownBlock = some k → ¬ X k := fun k hk hx => by
  have h0 := h.self
  rcases h0.2 with ⟨rfl, _⟩ | ⟨g, cap, cur, rfl, hb, hg, _⟩
  · cases hk
  · have hgk : g = k := by simpa [Value.ownBlock] using hk
    subst hgk
    have hlt := blk_lt hg
    have hK : Keep X w { w with heap := w.heap.set g (.cells cur (e + 1) (0, 0)) hlt } := ⟨rfl, rfl, rfl, by simp, fun j hj hjx => by
      have hne : g ≠ j := fun hc => hjx (hc ▸ hx)
      simp [hne]⟩
    rcases (h _ hK).2 with ⟨hv, _⟩ | ⟨g', cap', cur', hv, _, hg', _⟩
    · cases hv
    · injection hv with h1
      injection h1 with h1
      injection h1 with h1
      subst h1
      simp at hg'
end Go.Proofs.Ytfhbjajhmegdmaa
