
/- Requests told, read, told again: what the laws ask, plain. -/
import Derived.Test.YtnmhmbfhaiaaoaaDqT
import Derived.Test.YtnmhmbfhaiaaoaaDv
namespace Go.Proofs.Ytnmhmbfhaiaaoaa
set_option maxRecDepth 100000
open Go.RowKit
set_option linter.unusedVariables false
set_option linter.unusedSimpArgs false

def Rq.null (r : Rq) : Bool := nullQ r.c r.s r.kind r.key r.b r.id
theorem zero_null : zeroRq.null = true := by decide
theorem zero_right : zeroRq.right = false := by decide
theorem right_not_null {r : Rq} (h : r.right = true) : r.null = false := by
  have := (rightQ_parts h).1
  exact null_no (by rintro ⟨h0, _⟩; omega)
theorem text_null {r : Rq} (h : r.null = true) : r.text = ⟨#[0]⟩ ∧ r.err = 0 := by
  unfold Rq.null at h
  unfold Rq.text Rq.err rqText rqErr
  rw [h]; exact ⟨rfl, rfl⟩
theorem text_right {r : Rq} (h : r.right = true) : r.text = ⟨(textQ r.c r.s r.kind r.key r.b r.id).toArray⟩ ∧ r.err = 0 := by
  have hn := right_not_null h
  unfold Rq.null at hn
  unfold Rq.right at h
  unfold Rq.text Rq.err rqText rqErr
  rw [hn, h]; exact ⟨rfl, rfl⟩
theorem text_wrong {r : Rq} (h : r.right = false) (hn : r.null = false) : r.text = ⟨#[]⟩ ∧ r.err = 1 := by
  unfold Rq.null at hn
  unfold Rq.right at h
  unfold Rq.text Rq.err rqText rqErr
  rw [hn, h]; exact ⟨rfl, rfl⟩
theorem err_iff (r : Rq) : (r.err == 0) = (r.right || r.null) := by
  cases hr : r.right with
  | true => rw [(text_right hr).2]; rfl
  | false =>
    cases hn : r.null with
    | true => rw [(text_null hn).2]; rfl
    | false => rw [(text_wrong hr hn).2]; rfl
theorem canon_text {r : Rq} (hr : r.right = true) : r.canon.text = r.text ∧ r.canon.err = 0 := by
  have h2 : r.canon.right = true := by rw [right_canon]; exact hr
  obtain ⟨a1, a2⟩ := text_right hr
  obtain ⟨b1, b2⟩ := text_right h2
  refine ⟨?_, b2⟩
  rw [a1, b1]
  show (⟨(textQ r.c r.s r.kind r.key (canonB r.b) r.id).toArray⟩ : ByteArray) = _
  unfold textQ
  rw [canon_idem]
/-- What was told is read as the same. -/
theorem back_read {r : Rq} (h : r.Ok) (he : r.err = 0) : readErr r.text.data.toList = 0 ∧ sameQ r (readRq r.text.data.toList) = true ∧ (readRq r.text.data.toList).right = r.right := by
  cases hr : r.right with
  | true =>
    obtain ⟨a1, a2⟩ := text_right hr
    obtain ⟨b1, b2⟩ := rq_back r hr h.b
    have hd : r.text.data.toList = textQ r.c r.s r.kind r.key r.b r.id := by rw [a1]
    obtain ⟨c1, c2⟩ := canon_text hr
    rw [hd, readErr, if_pos b1, readRq, if_pos b1, b2]
    refine ⟨rfl, ?_, by rw [right_canon]; exact hr⟩
    rw [sameQ, c1, c2, a2]; simp
  | false =>
    cases hn : r.null with
    | false => rw [(text_wrong hr hn).2] at he; cases he
    | true =>
      obtain ⟨a1, a2⟩ := text_null hn
      obtain ⟨z1, z2⟩ := text_null zero_null
      have hd : r.text.data.toList = [0] := by rw [a1]
      have hno : rdOk [0] = false := rdOk_no (by rw [zero_bad]; omega)
      rw [hd, readErr_nil rfl, readRq_no hno]
      refine ⟨rfl, ?_, zero_right⟩
      rw [sameQ, z1, z2, a1, a2]; simp
/-- What was read is told as just these bytes. -/
theorem back_told {text : ByteArray} (h : readErr text.data.toList = 0) : (readRq text.data.toList).err = 0 ∧ (readRq text.data.toList).text = text := by
  cases hk : rdOk text.data.toList with
  | true =>
    obtain ⟨a1, a2⟩ := rq_told hk
    rw [readRq, if_pos hk]
    obtain ⟨b1, b2⟩ := text_right a1
    refine ⟨b2, ?_⟩
    rw [b1, a2]
  | false =>
    have hz : text.data.toList = [0] := Classical.byContradiction fun hc => by rw [readErr_no hk hc] at h; cases h
    rw [readRq_no hk]
    obtain ⟨z1, z2⟩ := text_null zero_null
    refine ⟨z2, ?_⟩
    rw [z1]
    apply Go.WideShapes.bytes_inj
    rw [hz]
end Go.Proofs.Ytnmhmbfhaiaaoaa
