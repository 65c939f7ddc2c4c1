
/- What is settled, in one form. -/
import Derived.Test.YtfhbjajhmegdmaaVtQ
namespace Go.Proofs.Ytfhbjajhmegdmaa
set_option maxRecDepth 100000
open Go.RowKit
set_option linter.unusedVariables false
set_option linter.unusedSimpArgs false

/-- What is settled, in one form. -/
structure SetG (e : Int) (l : List Int) (V : List Vt) (X : Nat → Prop) (w : World) (tx : ByteArray) (a1 : Option Addr) (n1 c1 : Nat) (ep : Int) (a2 : Option Addr) (n2 c2 : Nat) (a3 : Option Addr) (n3 c3 : Nat) : Prop where
  none : winner l V = none → n1 = 0
  some : ∀ y, winner l V = some y → tx = y.1 ∧ ep = e + 1 ∧ Rob X (fun w' => SlAt shSig w' a1 n1 c1 ((who l V y).map fun x => (x, stS e y.1)) ∧ SlAt Sh.int w' a2 n2 c2 y.2 ∧ SlAt shSig w' a3 n3 c3 ((who l V y).map fun x => (x, textS (e + 1) y.2))) w
theorem SetG.step {e : Int} {l : List Int} {V : List Vt} {X X' Y : Nat → Prop} {w w' : World} {tx : ByteArray} {a1 : Option Addr} {n1 c1 : Nat} {ep : Int} {a2 : Option Addr} {n2 c2 : Nat} {a3 : Option Addr} {n3 c3 : Nat} (h : SetG e l V X w tx a1 n1 c1 ep a2 n2 c2 a3 n3 c3)
    (hk : Keep Y w w') (hY : ∀ k, k < w.heap.size → Y k → X k) (hX : ∀ k, k < w.heap.size → X' k → X k) : SetG e l V X' w' tx a1 n1 c1 ep a2 n2 c2 a3 n3 c3 :=
  ⟨h.none, fun y hy => ⟨(h.some y hy).1, (h.some y hy).2.1, (h.some y hy).2.2.step hk hY hX⟩⟩
theorem set_gen {e : Int} {l : List Int} {V : List Vt} {w w' : World} {r : Ending} (h : SetPost e l V w r w') : Below w.heap.size w w' ∧ ∃ tx a1 n1 c1 ep a2 n2 c2 a3 n3 c3, r = .returned (.tuple #[.agg #[.string tx, .slice a1 n1 c1, .int .i64 ep, .slice a2 n2 c2, .slice a3 n3 c3], .bool (winner l V).isSome]) ∧
    SetG e l V (fun k => k < w.heap.size) w' tx a1 n1 c1 ep a2 n2 c2 a3 n3 c3 := by
  obtain ⟨hb, h⟩ := h
  refine ⟨hb, ?_⟩
  cases hw : winner l V with
  | none =>
    rw [hw] at h
    exact ⟨_, none, 0, 0, _, none, 0, 0, none, 0, 0, h, ⟨fun _ => rfl, fun y hy => (by rw [hw] at hy; cases hy)⟩⟩
  | some y =>
    rw [hw] at h
    obtain ⟨a1, c1, a2, n2, c2, a3, c3, h1, h2⟩ := h
    exact ⟨_, a1, _, c1, _, a2, n2, c2, a3, _, c3, h1, ⟨fun hn => (by rw [hw] at hn; cases hn), fun z hz => by
      rw [hw] at hz
      injection hz with hz
      subst hz
      exact ⟨rfl, rfl, h2⟩⟩⟩
end Go.Proofs.Ytfhbjajhmegdmaa
