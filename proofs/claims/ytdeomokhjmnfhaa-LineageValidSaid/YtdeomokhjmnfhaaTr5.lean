
/- Walks of Epoch and At. -/
import Derived.Test.YtdeomokhjmnfhaaTr4
namespace Go.Proofs.Ytdeomokhjmnfhaa
open Go.RowKit
set_option linter.unusedVariables false

set_option maxHeartbeats 1000000 in
theorem epoch_any (B p : Nat) (oc os : Option Nat) (cs : List Cf) (ss : List (List Sg)) (w : World) (h : Trk w B p oc os cs ss) (hcl : cs.length ≤ 1000) (hsl : ss.length ≤ 1000) :
    Calls Try.prog 14 #[.pointer (some ⟨p, 0, none⟩)] w fun r w' => r = .returned (.int .i64 ss.length) ∧ w = w' := by
  obtain ⟨ac, cc, ag, cg, hp, hC, hG⟩ := h.view hcl hsl
  have p1 : w.cell? ⟨p, 1, none⟩ = some (.slice ag ss.length cg) := by rw [blk_cell hp]; rfl
  clear h hp hC hG hcl hsl
  go_enter Try.func14, Try.ntmps14
  go_wp2_with fail
  go_ret
  exact ⟨rfl, rfl⟩

def AtPost (B : Nat) (x : Int) (cs : List Cf) (w : World) (r : Ending) (w' : World) : Prop :=
  Below w.heap.size w w' ∧ ((∃ k e l a n c, x = (k : Nat) ∧ cs[k]? = some (e, l) ∧ r = .returned (.tuple #[.agg #[.int .i64 e, .slice a n c], .bool true]) ∧ w'.ownsRow w.heap.size 3 1 (.slice a n c) n (intsV l) ∧ l.length = n ∧ i64 e ∧ (∀ y ∈ l, i64 y) ∧ n * 8 ≤ 140737488355328) ∨
    ((x < 0 ∨ (cs.length : Int) ≤ x) ∧ r = .returned (.tuple #[.agg #[.int .i64 0, .slice none 0 0], .bool false])))

set_option maxHeartbeats 1000000 in
theorem at_any (B p : Nat) (oc os : Option Nat) (cs : List Cf) (ss : List (List Sg)) (x : Int) (w : World) (h : Trk w B p oc os cs ss) (hcl : cs.length ≤ 1000) (hsl : ss.length ≤ 1000) :
    Calls Try.prog 24 #[.pointer (some ⟨p, 0, none⟩), .int .i64 x] w (AtPost B x cs w) := by
  obtain ⟨ac, cc, ag, cg, hp, hC, hG⟩ := h.view hcl hsl
  obtain ⟨wa, hwa⟩ : ∃ wa, wa = w.alloc (.cells #[.int .i64 0, .slice none 0 0] 24) := ⟨_, rfl⟩
  have ba : Below w.heap.size w wa := by rw [hwa]; exact below_alloc _ _
  have kx : wa.heap[w.heap.size]? = some (.cells #[.int .i64 0, .slice none 0 0] 24 (0, 0)) := by rw [hwa]; exact blk_alloc _ _
  have p0 : wa.cell? ⟨p, 0, none⟩ = some (.slice ac cs.length cc) := by rw [blk_cell (blk_below hp ba)]; rfl
  have x0 : wa.cell? ⟨w.heap.size, 0, none⟩ = some (.int .i64 0) := by rw [blk_cell kx]; rfl
  have x1 : wa.cell? ⟨w.heap.size, 1, none⟩ = some (.slice none 0 0) := by rw [blk_cell kx]; rfl
  have xf : ∀ o, wa.frozen? ⟨w.heap.size, o, none⟩ = false := fun o => blk_frozen kx o
  have q0 : (w.alloc (.cells #[.int .i64 0, .slice none 0 0] 24)).cell? ⟨p, 0, none⟩ = some (.slice ac cs.length cc) := by rw [← hwa]; exact p0
  have BA := Lib.hid ba
  have HC := Lib.hid (hC.old ba)
  have KX := Lib.hid kx
  clear h hp hC hG ba kx
  by_cases hx0 : x < 0
  · go_enter Try.func24, Try.ntmps24
    go_wp2_with fail
    rw [← hwa]
    clear hwa
    exact bodyPost_ret (v := .tuple #[.agg #[.int .i64 0, .slice none 0 0], .bool false]) (by simp [results, Try.results24, go_sem, x0, x1]) rfl ⟨BA.out, .inr ⟨.inl hx0, rfl⟩⟩
  · by_cases hx1 : (cs.length : Int) ≤ x
    · go_enter Try.func24, Try.ntmps24
      go_wp2_with fail
      rw [← hwa]
      clear hwa
      exact bodyPost_ret (v := .tuple #[.agg #[.int .i64 0, .slice none 0 0], .bool false]) (by simp [results, Try.results24, go_sem, x0, x1]) rfl ⟨BA.out, .inr ⟨.inr hx1, rfl⟩⟩
    · obtain ⟨k, rfl⟩ : ∃ k : Nat, x = k := ⟨x.toNat, by omega⟩
      have hk : k < cs.length := by omega
      obtain ⟨⟨e, l⟩, hcm⟩ : ∃ y, cs[k]? = some y := ⟨_, List.getElem?_eq_getElem hk⟩
      obtain ⟨b, o, a', n', c', rfl, d0, d1, he0, hs0⟩ := conf_cells HC.out hcm
      have q1 : (w.alloc (.cells #[.int .i64 0, .slice none 0 0] 24)).cell? ⟨b, o + k * 2, none⟩ = some (.int .i64 e) := by rw [← hwa]; exact d0
      have q2 : (w.alloc (.cells #[.int .i64 0, .slice none 0 0] 24)).cell? ⟨b, o + k * 2 + 1, none⟩ = some (.slice a' n' c') := by rw [← hwa]; exact d1
      have CO := Lib.hid (own_any e a' n' c' l wa (ints_of_sl hs0) (fun hn => ⟨hs0.nil hn, by have := hs0.nil hn; have := hs0.cap; omega⟩) hs0.bytes)
      have HL := Lib.hid hs0.len
      have HF := Lib.hid (ints_of_sl hs0).fit
      have HBY := Lib.hid hs0.bytes
      have HCM := Lib.hid hcm
      clear hs0 hcm
      go_enter Try.func24, Try.ntmps24
      go_wp2_with fail
      rw [← hwa]
      clear hwa q0 q1 q2
      refine CO.out.mono ?_
      rintro r w6 ⟨a6, c6, rfl, ho6, b6⟩
      have k6 := blk_below KX.out b6
      have m0 : w6.cell? ⟨w.heap.size, 0, none⟩ = some (.int .i64 0) := by rw [blk_cell k6]; rfl
      have m1 : w6.cell? ⟨w.heap.size, 1, none⟩ = some (.slice none 0 0) := by rw [blk_cell k6]; rfl
      have mf : ∀ o, w6.frozen? ⟨w.heap.size, o, none⟩ = false := fun o => blk_frozen k6 o
      have HO := Lib.hid ho6
      have HB6 := Lib.hid b6
      have K6 := Lib.hid k6
      clear ho6 b6 k6 p0 x0 x1 xf d0 d1 CO
      go_wp2_with fail
      have hs := blk_set (blk_set K6.out 0 (.int .i64 e)) 1 (.slice a6 n' c6)
      have f0 : ((w6.setCell ⟨w.heap.size, 0, none⟩ (.int .i64 e)).setCell ⟨w.heap.size, 1, none⟩ (.slice a6 n' c6)).cell? ⟨w.heap.size, 0, none⟩ = some (.int .i64 e) := by rw [blk_cell hs]; rfl
      have f1 : ((w6.setCell ⟨w.heap.size, 0, none⟩ (.int .i64 e)).setCell ⟨w.heap.size, 1, none⟩ (.slice a6 n' c6)).cell? ⟨w.heap.size, 1, none⟩ = some (.slice a6 n' c6) := by rw [blk_cell hs]; rfl
      have hlt := blk_lt KX.out
      exact bodyPost_ret (v := .tuple #[.agg #[.int .i64 e, .slice a6 n' c6], .bool true]) (by simp [results, Try.results24, go_sem, f0, f1]) rfl
        ⟨((bthen BA.out HB6.out).setCell (p := ⟨w.heap.size, 0, none⟩) (Nat.le_refl _) (.int .i64 e)).setCell (p := ⟨w.heap.size, 1, none⟩) (Nat.le_refl _) (.slice a6 n' c6),
          .inl ⟨k, e, l, a6, n', c6, rfl, HCM.out, rfl, owns_lower (owns_setlow (owns_setlow HO.out hlt 0 _) hlt 1 _) (Nat.le_of_lt hlt), HL.out, he0, HF.out, HBY.out⟩⟩
end Go.Proofs.Ytdeomokhjmnfhaa
