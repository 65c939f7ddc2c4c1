
/- What is settled is shown by proofs, and stays: plain. -/
import Derived.Test.YtfhbjajhmegdmaaVtQ
import Derived.Test.YtfhbjajhmegdmaaLgV
namespace Go.Proofs.Ytfhbjajhmegdmaa
set_option maxRecDepth 100000
open Go.RowKit
set_option linter.unusedVariables false
set_option linter.unusedSimpArgs false

theorem up_who {T : ByteArray} {m : List Int} : ∀ (l : List Int) (z : Int) (p : Int → Bool), upFrom z l = true → (∀ x ∈ l, x ∈ m) → sigsUp m T z ((l.filter p).map fun x => (x, T)) = true
  | [], z, p, _, _ => rfl
  | x :: r, z, p, h, hm => by
    rw [upFrom] at h
    split at h
    · cases h
    · rename_i hx
      rw [not_or] at hx
      by_cases hp : p x = true
      · rw [List.filter_cons_of_pos hp, List.map_cons, sigsUp, if_pos ⟨rfl, by show z < x; omega, hasB_mem (hm x (by simp))⟩]
        exact up_who r x p h (fun y hy => hm y (by simp [hy]))
      · rw [List.filter_cons_of_neg hp]
        have h2 : upFrom z r = true := by
          cases r with
          | nil => rfl
          | cons y s =>
            rw [upFrom] at h ⊢
            split at h
            · cases h
            · rename_i hy
              rw [not_or] at hy
              rw [if_neg (by rw [not_or]; exact ⟨by omega, hy.2⟩)]
              exact h
        exact up_who r z p h2 (fun y hy => hm y (by simp [hy]))
theorem proves_who {e : Int} {l : List Int} {V : List Vt} (h : VOk e l V) {y : ByteArray × List Int} (hw : winner l V = some y) (T : ByteArray) : provesB e l T ((who l V y).map fun x => (x, T)) = true := by
  have hr := rightB_rising h.right
  have hl := who_len h (right_nodup h.right) y
  have hq := (winner_some hw).1
  have h10 := h.ten
  have hc : cntC V y ≤ V.length := List.length_filter_le _ _
  unfold provesB
  rw [h.right, Bool.true_and, Bool.and_eq_true, Bool.and_eq_true, decide_eq_true_eq, decide_eq_true_eq, List.length_map, hl]
  exact ⟨⟨by omega, by omega⟩, up_who l (-1) _ (risingB_up hr.2.2) (fun x hx => hx)⟩
theorem won_good {e : Int} {l : List Int} {V : List Vt} (h : VOk e l V) {y : ByteArray × List Int} (hw : winner l V = some y) : vGood e l y.1 y.2 = true ∧ y.1.size ≤ 140737488355328 := by
  obtain ⟨x, hx⟩ := (winner_some hw).2
  exact ⟨(h.good _ hx).1, (h.good _ hx).2.2⟩
theorem valid_won {e : Int} {l : List Int} {V : List Vt} (h : VOk e l V) {y : ByteArray × List Int} (hw : winner l V = some y) : validC e l (e + 1) y.2 ((who l V y).map fun x => (x, textS (e + 1) y.2)) = 0 := by
  rw [validC_end h.right (vGood_parts (won_good h hw).1).2.2 rfl, if_pos (proves_who h hw _)]
theorem cnt_add {e : Int} {l : List Int} {V : List Vt} {x : Int} {t : ByteArray} {nx : List Int} {sigs : List Sg} (y : ByteArray × List Int) : cntC V y ≤ cntC (addV e l V x t nx sigs) y := by
  unfold addV
  split
  · rw [cntC_snoc]; omega
  · exact Nat.le_refl _
theorem won_stays {e : Int} {l : List Int} {V : List Vt} {x : Int} {t : ByteArray} {nx : List Int} {sigs : List Sg} (h : VOk e l V) (ht : t.size ≤ 140737488355328) {y : ByteArray × List Int} (hw : winner l V = some y) : winner l (addV e l V x t nx sigs) = some y := by
  have h2 := h.add (x := x) (nx := nx) (sigs := sigs) ht
  rw [win_iff h2]
  have := (winner_some hw).1
  have := cnt_add (e := e) (l := l) (V := V) (x := x) (t := t) (nx := nx) (sigs := sigs) y
  omega
end Go.Proofs.Ytfhbjajhmegdmaa
