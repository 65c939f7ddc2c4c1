
/- Walk of check. -/
import Derived.Test.YtfhbjajhmegdmaaTr3
import Derived.Test.YtfhbjajhmegdmaaEq
import Derived.Deep.RegionHeld3
namespace Go.Proofs.Ytfhbjajhmegdmaa
set_option maxRecDepth 100000
open Go.RowKit
attribute [local irreducible] wpQuiet
set_option linter.unusedVariables false

/-- The first error of a chain behind a configuration; a chain that differs from a known one; check's answer. -/
def chainC (c : Cf) : List Lk → Int
  | [] => 0
  | y :: r => if validC c.1 c.2 y.1.1 y.1.2 y.2 = 0 then chainC y.1 r else validC c.1 c.2 y.1.1 y.1.2 y.2
def otherB (cs : List Cf) (chain : List Lk) : Bool := (cs.tail.zip chain).any fun p => !decide (p.1.2 = p.2.1.2)
def checkC (c : Cf) (cs : List Cf) (chain : List Lk) : Int :=
  if chainC c chain ≠ 0 then chainC c chain else if otherB cs chain then 22 else if chain.length < cs.length then 17 else 0
def Differs (cs : List Cf) (chain : List Lk) (j : Nat) : Prop := ∃ c y, cs[j + 1]? = some c ∧ chain[j]? = some y ∧ c.2 ≠ y.1.2
theorem otherB_true {cs : List Cf} {chain : List Lk} {j : Nat} (h : Differs cs chain j) : otherB cs chain = true := by
  obtain ⟨c, y, h1, h2, h3⟩ := h
  rw [otherB, List.any_eq_true]
  refine ⟨(c, y), List.mem_of_getElem? (i := j) ?_, by simpa using h3⟩
  rw [List.getElem?_zip_eq_some]
  exact ⟨by rw [List.getElem?_tail]; exact h1, h2⟩
theorem otherB_false {cs : List Cf} {chain : List Lk} (h : ∀ j, j < chain.length → ¬ Differs cs chain j) : otherB cs chain = false := by
  rw [otherB, List.any_eq_false]
  rintro ⟨c, y⟩ hm
  obtain ⟨j, hj⟩ := List.getElem?_of_mem hm
  rw [List.getElem?_zip_eq_some, List.getElem?_tail] at hj
  have := h j (List.getElem?_eq_some_iff.1 hj.2).1
  simp only [Bool.not_eq_true', decide_eq_false_iff_not, Classical.not_not]
  exact Classical.byContradiction fun hc => this ⟨c, y, hj.1, hj.2, hc⟩
theorem link_cells {w : World} {a : Option Addr} {n c : Nat} {ls : List Lk} (h : SlAt shLink w a n c ls) {i : Nat} {e : Int} {l : List Int} {s : List Sg} (hi : ls[i]? = some ((e, l), s)) :
    ∃ b o a' n' c' sa sn sc, a = some ⟨b, o, none⟩ ∧ w.cell? ⟨b, o + i * 3, none⟩ = some (.int .i64 e) ∧ w.cell? ⟨b, o + i * 3 + 1, none⟩ = some (.slice a' n' c') ∧ w.cell? ⟨b, o + i * 3 + 2, none⟩ = some (.slice sa sn sc) ∧ i64 e ∧ SlAt Sh.int w a' n' c' l ∧ SlAt shSig w sa sn sc s := by
  obtain ⟨b, o, xs, ha, hE, hc⟩ := h.cell i _ hi
  obtain ⟨x1, x2, rfl, ⟨y1, y2, rfl, ⟨rfl, he⟩, a', n', c', rfl, hs⟩, sa, sn, sc, rfl, hss⟩ := hE
  exact ⟨b, o, a', n', c', sa, sn, sc, ha, hc 0 _ rfl, hc 1 _ rfl, hc 2 _ rfl, he, hs, hss⟩

end Go.Proofs.Ytfhbjajhmegdmaa

/- Walk of lives, and its plain facts. -/
namespace Go.Proofs.Ytfhbjajhmegdmaa
set_option maxRecDepth 100000
open Go.RowKit
set_option linter.unusedVariables false

def sg3 : List Sg := [(0, textS 1 [0, 1, 2, 3, 4]), (1, textS 1 [0, 1, 2, 3, 4]), (3, textS 1 [0, 1, 2, 3, 4])]
theorem sg3_len (h : (textS 1 [0, 1, 2, 3, 4]).size ≤ 1125899906842624) : ∀ s ∈ sg3, i64 s.1 ∧ s.2.size ≤ 1125899906842624 := by
  intro s hs
  simp only [sg3, List.mem_cons, List.not_mem_nil, or_false] at hs
  rcases hs with rfl | rfl | rfl
  all_goals exact ⟨by simp [i64], h⟩
theorem valid_lives : validC 0 [0, 1, 2, 3] 1 [0, 1, 2, 3, 4] sg3 = 0 := by
  have h : ∀ t : ByteArray, sigsUp [0, 1, 2, 3] t (-1) [(0, t), (1, t), (3, t)] = true := fun t => by simp [sigsUp, hasB]
  have hr : rightB 0 [0, 1, 2, 3] = true := by decide +kernel
  have hr1 : rightB 1 [0, 1, 2, 3, 4] = true := by decide +kernel
  rw [validC_end hr hr1 rfl, provesB_4 hr (by simp [sg3]) (by decide +kernel), sg3, h]
  rfl
theorem valid_lives0 : validC 0 [0, 1, 2, 3] 1 [0, 1, 2, 3, 4] [] = 15 := by
  have hr : rightB 0 [0, 1, 2, 3] = true := by decide +kernel
  have hr1 : rightB 1 [0, 1, 2, 3, 4] = true := by decide +kernel
  rw [validC_end hr hr1 rfl, provesB_3 (by decide +kernel)]
  rfl
theorem text_small : (textS 1 [0, 1, 2, 3, 4]).size ≤ 1125899906842624 := by decide +kernel

theorem made_ints (w : World) (l : List Int) (t : TypeId) (hf : ∀ x ∈ l, i64 x) (hl : l.length * 8 ≤ 140737488355328) : SlAt Sh.int (w.alloc (.cells (intsV l).toArray t)) (some ⟨w.heap.size, 0, none⟩) l.length l.length l :=
  sl_of_ints (IntsAt.made w l t hf (by omega)) (Nat.le_refl _) (by omega) hl (fun h => by cases h)
theorem made_sigs (w : World) (l : List Sg) (hf : ∀ s ∈ l, i64 s.1 ∧ s.2.size ≤ 1125899906842624) (hl : l.length * 24 ≤ 140737488355328) : SlAt shSig (w.alloc (.cells (sigV l).toArray 47)) (some ⟨w.heap.size, 0, none⟩) l.length l.length l :=
  sigs_row (B := w.heap.size) ⟨sigV_len l, .inr ⟨w.heap.size, l.length, (sigV l).toArray, rfl, Nat.le_refl _, blk_alloc w _, Nat.le_refl _, by simp only [maxLen]; omega, by simp [sigV_len], by simp [← sigV_len]⟩⟩ rfl hf hl


end Go.Proofs.Ytfhbjajhmegdmaa
