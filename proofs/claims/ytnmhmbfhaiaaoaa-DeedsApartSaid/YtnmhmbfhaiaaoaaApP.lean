
/- What is signed elsewhere has another text, and is of another kind: plain. -/
import Derived.Test.YtnmhmbfhaiaaoaaUlP
import Derived.Test.YtnmhmbfhaiaaoaaTxW
namespace Go.Proofs.Ytnmhmbfhaiaaoaa
set_option maxRecDepth 100000
open Go.RowKit
set_option linter.unusedVariables false
set_option linter.unusedSimpArgs false

theorem beN_inj {n m k : Nat} (hn : n < 256 ^ k) (hm : m < 256 ^ k) (h : beN n k = beN m k) : n = m := by
  have h1 := rd_beN n k [] hn
  have h2 := rd_beN m k [] hm
  rw [h] at h1
  have := h1.1.symm.trans h2.1
  exact this
/-- The first byte of a text. -/
def headB (t : ByteArray) : Option UInt8 := t.data.toList.head?
theorem headB_ne {s t : ByteArray} {x y : UInt8} (hs : headB s = some x) (ht : headB t = some y) (h : x ≠ y) : (s.toList == t.toList) = false := by
  have hne : s ≠ t := fun e => by rw [e, ht] at hs; injection hs with hs; exact h hs.symm
  rw [str_beq]; simpa using hne
theorem prep_ok {e v s : Int} {r : Rq} (h : prepErr e v s r = 0) : r.err = 0 ∧ longOk [e, v, s] = true := by
  unfold prepErr at h
  by_cases hr : r.err = 0
  · rw [if_pos hr, hdErr] at h
    refine ⟨hr, ?_⟩
    cases hl : longOk [e, v, s] with
    | true => rfl
    | false => rw [hl] at h; cases h
  · rw [if_neg hr] at h; exact absurd h hr
theorem prep_text {e v s : Int} {r : Rq} (h : prepErr e v s r = 0) : prepText e v s r = ⟨(80 :: (longBs [e, v, s] ++ r.text.data.toList)).toArray⟩ := by
  obtain ⟨h1, h2⟩ := prep_ok h
  unfold prepText hdText
  rw [if_pos h1, if_pos h2]
  refine Go.WideShapes.bytes_inj ?_
  simp [beN]
theorem prep_none {e v s : Int} {r : Rq} (h : ¬ prepErr e v s r = 0) : prepText e v s r = ⟨#[]⟩ := by
  unfold prepErr at h
  unfold prepText
  by_cases hr : r.err = 0
  · rw [if_pos hr] at h ⊢
    unfold hdErr at h
    unfold hdText
    cases hl : longOk [e, v, s] with
    | true => rw [hl] at h; exact absurd rfl h
    | false => rfl
  · rw [if_neg hr]
theorem longBs3 (e v s : Int) : longBs [e, v, s] = beN e.toNat 4 ++ (beN v.toNat 4 ++ beN s.toNat 4) := by simp [longBs]
theorem longOk3 {e v s : Int} (h : longOk [e, v, s] = true) : (0 ≤ e ∧ e ≤ 4294967295) ∧ (0 ≤ v ∧ v ≤ 4294967295) ∧ (0 ≤ s ∧ s ≤ 4294967295) := by
  simp only [longOk, List.all_cons, List.all_nil, Bool.and_true, Bool.and_eq_true, decide_eq_true_eq] at h
  exact h
theorem prep_same {e v s e' v' s' : Int} {x y : Rq} (hx : prepErr e v s x = 0) (hy : prepErr e' v' s' y = 0) :
    ((prepText e v s x).toList == (prepText e' v' s' y).toList) = ((decide (e = e') && decide (v = v') && decide (s = s')) && sameQ x y) := by
  obtain ⟨x1, x2⟩ := prep_ok hx
  obtain ⟨y1, y2⟩ := prep_ok hy
  obtain ⟨a1, a2, a3⟩ := longOk3 x2
  obtain ⟨b1, b2, b3⟩ := longOk3 y2
  rw [str_beq, Bool.eq_iff_iff, decide_eq_true_iff]
  simp only [sameQ, x1, y1, decide_true, Bool.and_true, Bool.and_eq_true, decide_eq_true_eq]
  constructor
  · intro h
    have h2 : (prepText e v s x).data.toList = (prepText e' v' s' y).data.toList := by rw [h]
    rw [prep_text hx, prep_text hy] at h2
    simp only [List.cons.injEq, true_and, longBs3, List.append_assoc] at h2
    obtain ⟨h3, h4⟩ := List.append_inj h2 (by simp [beN_len])
    obtain ⟨h5, h6⟩ := List.append_inj h4 (by simp [beN_len])
    obtain ⟨h7, h8⟩ := List.append_inj h6 (by simp [beN_len])
    have e1 := beN_inj (by omega) (by omega) h3
    have e2 := beN_inj (by omega) (by omega) h5
    have e3 := beN_inj (by omega) (by omega) h7
    refine ⟨⟨⟨by omega, by omega⟩, by omega⟩, Go.WideShapes.bytes_inj h8⟩
  · rintro ⟨⟨⟨rfl, rfl⟩, rfl⟩, h⟩
    rw [prep_text hx, prep_text hy, h]
theorem prep_head {e v s : Int} {r : Rq} (h : prepErr e v s r = 0) : headB (prepText e v s r) = some 80 := by rw [prep_text h]; rfl
theorem state_head {s : Int} {t : ByteArray} (h : hdErr [s] = 0) : headB (hdText 83 [s] t) = some 83 := by
  have hl : longOk [s] = true := by
    cases hl : longOk [s] with
    | true => rfl
    | false => rw [hdErr, hl] at h; cases h
  rw [hdText, if_pos hl, headB]
  simp [beN]
theorem conf_head {e : Int} {l : List Int} (h : textE e l = 0) : headB (textS e l) = some 67 := by
  have hr : rightB e l = true := by
    cases hr : rightB e l with
    | true => rfl
    | false => rw [textE, hr] at h; cases h
  rw [textS, if_pos hr, headB, textP]
  simp [beN]
theorem rq_head {r : Rq} (h : r.err = 0) : headB r.text = some 1 ∨ headB r.text = some 0 := by
  cases hr : r.right with
  | true => left; rw [(text_right hr).1, headB, textQ]; simp [beN]
  | false =>
    cases hn : r.null with
    | true => right; rw [(text_null hn).1]; rfl
    | false => rw [(text_wrong hr hn).2] at h; cases h
end Go.Proofs.Ytnmhmbfhaiaaoaa
