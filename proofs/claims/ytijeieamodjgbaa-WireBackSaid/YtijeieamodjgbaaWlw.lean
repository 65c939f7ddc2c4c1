
/- What the laws of witanlaw13 share: a message in memory is one that the plain laws speak of. -/
import Derived.Test.YtijeieamodjgbaaWlv
import Derived.Test.YtijeieamodjgbaaWp1
namespace Go.Proofs.Ytijeieamodjgbaa
set_option maxRecDepth 100000
open Go.RowKit Go.Deep
set_option linter.unusedVariables false
set_option linter.unusedSimpArgs false

theorem cells_of {α : Type} {S : Sh α} {w : World} {a : Option Addr} {n c : Nat} {l : List α} (h : SlAt S w a n c l) {P : α → Prop} (hP : ∀ w y cs, S.E w y cs → P y) : ∀ y ∈ l, P y := fun y hy => by
  obtain ⟨i, hi, rfl⟩ := List.getElem_of_mem hy
  obtain ⟨b, o, cs, _, hE, _⟩ := h.cell i _ (List.getElem?_eq_getElem hi)
  exact hP _ _ _ hE
theorem msg_b {w : World} {m : Mg} {a1 : Option Addr} {n1 c1 : Nat} {a2 : Option Addr} {n2 c2 : Nat} {a3 : Option Addr} {n3 c3 : Nat} {a4 : Option Addr} {n4 c4 : Nat} (h : MsgIn w m a1 n1 c1 a2 n2 c2 a3 n3 c3 a4 n4 c4) : MgB m :=
  ⟨h.q.b, h.r, cells_of h.ch fun w y cs hE => by
    obtain ⟨a, n, c, rfl, _, _, h3, _⟩ := change_open hE
    exact cells_of h3 fun w x cs hx => by
      obtain ⟨a, n, c, rfl, _, _, h3, _⟩ := cert_open hx
      exact h3.b⟩
end Go.Proofs.Ytijeieamodjgbaa
