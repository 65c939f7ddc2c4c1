
/- Unlike requests have unlike texts: plain. -/
import Derived.Test.YtnmhmbfhaiaaoaaDbP
namespace Go.Proofs.Ytnmhmbfhaiaaoaa
set_option maxRecDepth 100000
open Go.RowKit
set_option linter.unusedVariables false
set_option linter.unusedSimpArgs false

theorem null_canon {r : Rq} (h : r.null = true) : r.canon = zeroRq := by
  unfold Rq.null nullQ noneB at h
  simp only [Bool.and_eq_true, decide_eq_true_eq] at h
  obtain ⟨⟨⟨⟨⟨h1, h2⟩, h3⟩, h4⟩, h5⟩, h6⟩ := h
  have hk : r.key = ⟨#[]⟩ := by
    have : r.key.data = #[] := Array.eq_empty_of_size_eq_zero h5
    cases hr : r.key with | mk d => rw [hr] at this; simp only at this; rw [this]
  unfold Rq.canon
  rw [h1, h2, h3, h4, h6, hk]; rfl
theorem read_canon {r : Rq} (h : r.Ok) (he : r.err = 0) : readRq r.text.data.toList = r.canon := by
  cases hr : r.right with
  | true =>
    obtain ⟨a1, a2⟩ := text_right hr
    obtain ⟨b1, b2⟩ := rq_back r hr h.b
    have hd : r.text.data.toList = textQ r.c r.s r.kind r.key r.b r.id := by rw [a1]
    rw [hd, readRq, if_pos b1, b2]
  | false =>
    cases hn : r.null with
    | false => rw [(text_wrong hr hn).2] at he; cases he
    | true =>
      obtain ⟨a1, a2⟩ := text_null hn
      have hd : r.text.data.toList = [0] := by rw [a1]
      rw [hd, readRq_no (rdOk_no (by rw [zero_bad]; omega)), null_canon hn]
theorem whole_canon (x y : Rq) : wholeB x y = true ↔ x.canon = y.canon := by
  unfold wholeB Rq.canon
  simp only [Bool.and_eq_true, decide_eq_true_eq, Rq.mk.injEq]
  constructor
  · rintro ⟨⟨⟨⟨⟨h1, h2⟩, h3⟩, h4⟩, h5⟩, h6⟩; exact ⟨h1, h2, h3, h4, h6, h5⟩
  · rintro ⟨h1, h2, h3, h4, h6, h5⟩; exact ⟨⟨⟨⟨⟨h1, h2⟩, h3⟩, h4⟩, h5⟩, h6⟩
theorem text_of_canon {x y : Rq} (ex : x.err = 0) (ey : y.err = 0) (h : x.canon = y.canon) : x.text = y.text := by
  have hr : x.right = y.right := by rw [← right_canon x, ← right_canon y, h]
  cases hx : x.right with
  | true =>
    have hy : y.right = true := by rw [← hr, hx]
    have h1 := (canon_text hx).1
    rw [h, (canon_text hy).1] at h1
    exact h1.symm
  | false =>
    have hy : y.right = false := by rw [← hr, hx]
    cases nx : x.null with
    | false => rw [(text_wrong hx nx).2] at ex; cases ex
    | true =>
      cases ny : y.null with
      | false => rw [(text_wrong hy ny).2] at ey; cases ey
      | true => rw [(text_null nx).1, (text_null ny).1]
theorem unlike {x y : Rq} (hx : x.Ok) (hy : y.Ok) (ex : x.err = 0) (ey : y.err = 0) : (x.text.toList == y.text.toList) = wholeB x y ∧ sameQ x y = wholeB x y := by
  have h : decide (x.text = y.text) = wholeB x y := by
    rw [Bool.eq_iff_iff, decide_eq_true_iff, whole_canon]
    exact ⟨fun h => by rw [← read_canon hx ex, ← read_canon hy ey, h], text_of_canon ex ey⟩
  refine ⟨by rw [str_beq, h], ?_⟩
  rw [sameQ, h, ex, ey]; simp
theorem same_no {x y : Rq} (h : ¬ (x.err = 0 ∧ y.err = 0)) : sameQ x y = false := by
  cases hs : sameQ x y with
  | false => rfl
  | true =>
    simp only [sameQ, Bool.and_eq_true, decide_eq_true_eq] at hs
    exact absurd ⟨hs.1.2, hs.2⟩ h
theorem err_01 (r : Rq) : r.err = 0 ∨ r.err = 1 := by unfold Rq.err rqErr; split <;> first | exact .inl rfl | (split <;> simp)
end Go.Proofs.Ytnmhmbfhaiaaoaa
