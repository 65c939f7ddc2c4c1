
/- Walk of the program's New. -/
import Derived.Test.YtfhbjajhmegdmaaTr2
import Derived.Test.YtfhbjajhmegdmaaLgV
namespace Go.Proofs.Ytfhbjajhmegdmaa
set_option maxRecDepth 100000
open Go.RowKit
set_option linter.unusedVariables false

theorem one_owned (w : World) (B e k : Nat) (xs : List Value) (hk : xs.length = k) (hB : B ≤ w.heap.size) : (w.alloc (.cells xs.toArray e)).ownsRow B e k (.slice (some ⟨w.heap.size, 0, none⟩) 1 1) 1 xs :=
  ⟨by simp [hk], .inr ⟨w.heap.size, 1, xs.toArray, rfl, hB, blk_alloc w _, Nat.le_refl _, by decide, by simp [hk], by simp [← hk]⟩⟩



end Go.Proofs.Ytfhbjajhmegdmaa

/- Reading the program's tracker; walk of Add. -/
namespace Go.Proofs.Ytfhbjajhmegdmaa
set_option maxRecDepth 100000
open Go.RowKit
attribute [local irreducible] wpQuiet
set_option linter.unusedVariables false

theorem conf_cells {w : World} {a : Option Addr} {n c : Nat} {cs : List Cf} (h : SlAt shConf w a n c cs) {i : Nat} {e : Int} {l : List Int} (hi : cs[i]? = some (e, l)) :
    ∃ b o a' n' c', a = some ⟨b, o, none⟩ ∧ w.cell? ⟨b, o + i * 2, none⟩ = some (.int .i64 e) ∧ w.cell? ⟨b, o + i * 2 + 1, none⟩ = some (.slice a' n' c') ∧ i64 e ∧ SlAt Sh.int w a' n' c' l := by
  obtain ⟨b, o, xs, ha, hE, hc⟩ := h.cell i _ hi
  obtain ⟨x1, x2, rfl, ⟨rfl, he⟩, a', n', c', rfl, hs⟩ := hE
  exact ⟨b, o, a', n', c', ha, hc 0 _ rfl, hc 1 _ rfl, he, hs⟩

theorem i64_sub1 {n m : Nat} (h : n = m + 1) (hb : n ≤ 1000) : IntKind.i64.wrap ((n : Int) - 1) = (m : Int) := by
  rw [show ((n : Int) - 1) = (m : Int) by omega]
  exact IntWalk.i64_in _ (by omega)
theorem slRob {α : Type} {S : Sh α} {w w0 : World} {X : Nat → Prop} {a : Option Addr} {n c : Nat} {l : List α} (hs : SlAt S w0 a n c l) (hb : Below w0.heap.size w0 w) (hX : ∀ k, X k → w0.heap.size ≤ k) : Rob X (fun w' => SlAt S w' a n c l) w :=
  fun w' hk => hs.old (hk.below hb hX)


end Go.Proofs.Ytfhbjajhmegdmaa

/- Walks of Epoch and At. -/
namespace Go.Proofs.Ytfhbjajhmegdmaa
set_option maxRecDepth 100000
open Go.RowKit
set_option linter.unusedVariables false


def AtPost (B : Nat) (x : Int) (cs : List Cf) (w : World) (r : Ending) (w' : World) : Prop :=
  Below w.heap.size w w' ∧ ((∃ k e l a n c, x = (k : Nat) ∧ cs[k]? = some (e, l) ∧ r = .returned (.tuple #[.agg #[.int .i64 e, .slice a n c], .bool true]) ∧ w'.ownsRow w.heap.size 3 1 (.slice a n c) n (intsV l) ∧ l.length = n ∧ i64 e ∧ (∀ y ∈ l, i64 y) ∧ n * 8 ≤ 140737488355328) ∨
    ((x < 0 ∨ (cs.length : Int) ≤ x) ∧ r = .returned (.tuple #[.agg #[.int .i64 0, .slice none 0 0], .bool false])))

end Go.Proofs.Ytfhbjajhmegdmaa

/- Walk of Chain. -/
namespace Go.Proofs.Ytfhbjajhmegdmaa
set_option maxRecDepth 100000
open Go.RowKit
set_option linter.unusedVariables false

/-- A link whose lists are the owner's own, from block B on. -/
def shOLink (B : Nat) : Sh Lk where
  k := 3
  bs := 56
  E := fun w y cs => ∃ a n c sa sn sc, cs = [.int .i64 y.1.1, .slice a n c, .slice sa sn sc] ∧ i64 y.1.1 ∧ w.ownsRow B 3 1 (.slice a n c) n (intsV y.1.2) ∧ y.1.2.length = n ∧ (∀ x ∈ y.1.2, i64 x) ∧ n * 8 ≤ 140737488355328 ∧
    w.ownsRow B 47 2 (.slice sa sn sc) sn (sigV y.2) ∧ y.2.length = sn ∧ (∀ s ∈ y.2, i64 s.1 ∧ s.2.size ≤ 1125899906842624) ∧ sn * 24 ≤ 140737488355328
  sz := fun _ => 0
  len := fun ⟨a, n, c, sa, sn, sc, h, _⟩ => by rw [h]; rfl
  old := fun ⟨a, n, c, sa, sn, sc, h, he, h1, h2, h3, h4, h5, h6, h7, h8⟩ hb => ⟨a, n, c, sa, sn, sc, h, he, owns_old h1 hb, h2, h3, h4, owns_old h5 hb, h6, h7, h8⟩
theorem olink_link {B : Nat} {w : World} {y : Lk} {cs : List Value} (h : (shOLink B).E w y cs) : shLink.E w y cs := by
  obtain ⟨a, n, c, sa, sn, sc, rfl, he, h1, h2, h3, h4, h5, h6, h7, h8⟩ := h
  exact ⟨[.int .i64 y.1.1, .slice a n c], [.slice sa sn sc], rfl, ⟨[.int .i64 y.1.1], [.slice a n c], rfl, ⟨rfl, he⟩, a, n, c, rfl, ints_row h1 h2 h3 h4⟩, sa, sn, sc, rfl, sigs_row h5 h6 h7 h8⟩
def chainL (cs : List Cf) (ss : List (List Sg)) : List Lk := cs.tail.zip ss
theorem chainL_get {cs : List Cf} {ss : List (List Sg)} {i : Nat} {c : Cf} {s : List Sg} (h1 : cs[i + 1]? = some c) (h2 : ss[i]? = some s) : (chainL cs ss)[i]? = some (c, s) := by
  rw [chainL, List.getElem?_zip_eq_some]
  exact ⟨by rw [List.getElem?_tail]; exact h1, h2⟩

theorem link_new (w : World) (e : Int) (a : Option Addr) (n c : Nat) (sa : Option Addr) (sn sc : Nat) (t : TypeId) : ∀ j u, [Value.int .i64 e, .slice a n c, .slice sa sn sc][j]? = some u → (w.alloc (.cells #[.int .i64 e, .slice a n c, .slice sa sn sc] t)).cell? ((⟨w.heap.size, 0, none⟩ : Addr).add j) = some u := by
  intro j u h
  rw [Addr.add_lit, blk_cell (blk_alloc w _), ← h]
  simp
theorem info_link' : (Try.prog.info? 49).map (fun i => (i.zero, i.size, i.bytes)) = some (some (.agg #[.int .i64 0, .slice none 0 0, .slice none 0 0]), 3, 56) := by kernel_rfl

def ChainPost (l : List Lk) (w : World) (r : Ending) (w' : World) : Prop :=
  Below w.heap.size w w' ∧ ∃ a c xs, r = .returned (.slice a l.length c) ∧ w'.ownsRow w.heap.size 49 3 (.slice a l.length c) l.length xs ∧ rowOf (shOLink w.heap.size) (fun j => j < w.heap.size ∨ (Value.slice a l.length c).ownBlock = some j) w' l xs

end Go.Proofs.Ytfhbjajhmegdmaa

/- A tracker that isn't there. -/
namespace Go.Proofs.Ytfhbjajhmegdmaa
set_option maxRecDepth 100000
open Go.RowKit
set_option linter.unusedVariables false

end Go.Proofs.Ytfhbjajhmegdmaa

/- Walk of four. -/
namespace Go.Proofs.Ytfhbjajhmegdmaa
set_option maxRecDepth 100000
open Go.RowKit
set_option linter.unusedVariables false

end Go.Proofs.Ytfhbjajhmegdmaa
