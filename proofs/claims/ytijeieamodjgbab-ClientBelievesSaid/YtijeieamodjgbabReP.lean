
/- Plain law: a configuration that is read. No program in sight. -/
import Derived.Test.YtijeieamodjgbabTxP

namespace Go.Proofs.Ytijeieamodjgbab
set_option maxRecDepth 100000
set_option linter.unusedVariables false

def intL (l : List UInt8) : List Int := l.map fun b => (b.toNat : Int)
theorem byteL_intL (l : List UInt8) : byteL (intL l) = l := by
  induction l with
  | nil => rfl
  | cons b r ih =>
    simp only [byteL, intL, List.map_cons, List.map_map] at ih ⊢
    rw [ih]; simp
theorem intL_byteL (l : List Int) (h : ∀ x ∈ l, 0 ≤ x ∧ x < 256) : intL (byteL l) = l := by
  induction l with
  | nil => rfl
  | cons x r ih =>
    have h1 := h x (by simp)
    have h2 := ih fun y hy => h y (by simp [hy])
    simp only [byteL, intL, List.map_cons, List.map_map] at h2 ⊢
    rw [h2]
    congr 1
    simp; omega
theorem intL_len (l : List UInt8) : (intL l).length = l.length := by simp [intL]
def rd1 (t : List UInt8) : R := rNext ⟨t, false⟩ 1
def rd2 (t : List UInt8) : R := rNext (rd1 t) 2
def rd3 (t : List UInt8) : R := rNext (rd2 t) 1
def headN (t : List UInt8) : Nat := rVal ⟨t, false⟩ 1
def epochN (t : List UInt8) : Nat := rVal (rd1 t) 2
def numN (t : List UInt8) : Nat := rVal (rd2 t) 1

theorem rd_long (a b c d : UInt8) (r : List UInt8) : headN (a :: b :: c :: d :: r) = a.toNat ∧ epochN (a :: b :: c :: d :: r) = b.toNat * 256 + c.toNat ∧ numN (a :: b :: c :: d :: r) = d.toNat ∧ rd3 (a :: b :: c :: d :: r) = ⟨r, false⟩ := by
  have h1 : rd1 (a :: b :: c :: d :: r) = ⟨b :: c :: d :: r, false⟩ := by simp [rd1, rNext]
  have h2 : rd2 (a :: b :: c :: d :: r) = ⟨d :: r, false⟩ := by rw [rd2, h1, rNext_ok (by simp)]; rfl
  refine ⟨by simp [headN, rVal, valBE], ?_, ?_, ?_⟩
  · rw [epochN, h1, rVal_ok (by simp)]; simp [valBE]
  · rw [numN, h2, rVal_ok (by simp)]; simp [valBE]
  · rw [rd3, h2, rNext_ok (by simp)]; rfl
/-- Is it a configuration's text? -/
def okB : List UInt8 → Bool
  | a :: b :: c :: d :: r => a.toNat == 67 && d.toNat == r.length && rightB ((b.toNat * 256 + c.toNat : Nat) : Int) (intL r)
  | _ => false
def readE : List UInt8 → Int
  | a :: b :: c :: d :: r => if okB (a :: b :: c :: d :: r) = true then ((b.toNat * 256 + c.toNat : Nat) : Int) else 0
  | _ => 0
def readL : List UInt8 → List Int
  | a :: b :: c :: d :: r => if okB (a :: b :: c :: d :: r) = true then intL r else []
  | _ => []
def readC (t : List UInt8) : Int := if okB t = true then 0 else 5

theorem readC_no {t : List UInt8} (h : okB t = false) : readC t = 5 := by rw [readC, if_neg (by rw [h]; simp)]
theorem readC_yes {t : List UInt8} (h : okB t = true) : readC t = 0 := by rw [readC, if_pos h]

theorem beN1 (n : Nat) : beN n 1 = [UInt8.ofNat n] := by
  simp only [beN, List.nil_append]
  congr 1
  apply UInt8.toNat_inj.1; simp
theorem beN2 (n : Nat) : beN n 2 = [UInt8.ofNat (n / 256), UInt8.ofNat n] := by
  simp only [beN, List.nil_append, List.cons_append]
  congr 1
  · apply UInt8.toNat_inj.1; simp
  · congr 1
    apply UInt8.toNat_inj.1; simp
theorem textP_form (b c : UInt8) (l : List Int) : textP ((b.toNat * 256 + c.toNat : Nat) : Int) l = 67 :: b :: c :: UInt8.ofNat l.length :: byteL l := by
  have hb := b.toNat_lt
  have hc := c.toNat_lt
  rw [textP, beN1, beN1, beN2, Int.toNat_natCast]
  simp only [List.cons_append, List.nil_append]
  congr 2
  · apply UInt8.toNat_inj.1; simp; omega
  · congr 1
    apply UInt8.toNat_inj.1; simp
theorem textP_len (e : Int) (l : List Int) : (textP e l).length = 4 + l.length := by rw [textP_eq, List.length_append, textHead_len, byteL_len]

/-- What the program's reader has read of the members. -/
def memN (t : List UInt8) : Nat := min (numN t) (rd3 t).rest.length
def memL (t : List UInt8) : List Int := intL ((rd3 t).rest.take (memN t))

theorem prog_ok {t : List UInt8} (h : okB t = true) : headN t = 67 ∧ rightB (epochN t) (memL t) = true ∧ textP (epochN t) (memL t) = t ∧ readE t = epochN t ∧ readL t = memL t := by
  match t, h with
  | a :: b :: c :: d :: r, h =>
    have h0 := h
    simp only [okB, Bool.and_eq_true, beq_iff_eq] at h
    obtain ⟨⟨h1, h2⟩, h3⟩ := h
    obtain ⟨e1, e2, e3, e4⟩ := rd_long a b c d r
    have hm : memL (a :: b :: c :: d :: r) = intL r := by
      rw [memL, memN, e3, e4, h2]; simp
    rw [hm, e1, e2, readE, readL, if_pos h0, if_pos h0, textP_form, byteL_intL, intL_len]
    refine ⟨h1, h3, ?_, rfl, rfl⟩
    congr 1
    · apply UInt8.toNat_inj.1; rw [h1]; rfl
    · congr 3
      apply UInt8.toNat_inj.1; rw [← h2]; simp
/-- What is told is read again. -/
theorem read_text {e : Int} {l : List Int} (h : rightB e l = true) (hl : l.length < 256) (hx : ∀ x ∈ l, 0 ≤ x ∧ x < 256) (h0 : 0 ≤ e) (h1 : e < 65536) : okB (textP e l) = true ∧ readE (textP e l) = e ∧ readL (textP e l) = l := by
  obtain ⟨n, rfl⟩ : ∃ n : Nat, e = (n : Int) := ⟨e.toNat, by omega⟩
  have hf : textP (n : Int) l = 67 :: UInt8.ofNat (n / 256) :: UInt8.ofNat n :: UInt8.ofNat l.length :: byteL l := by
    rw [textP, beN1, beN1, beN2, Int.toNat_natCast]; rfl
  have hv : (UInt8.ofNat (n / 256)).toNat * 256 + (UInt8.ofNat n).toNat = n := by simp; omega
  have hok : okB (67 :: UInt8.ofNat (n / 256) :: UInt8.ofNat n :: UInt8.ofNat l.length :: byteL l) = true := by
    simp only [okB, Bool.and_eq_true, beq_iff_eq]
    refine ⟨⟨rfl, ?_⟩, ?_⟩
    · rw [byteL_len]; simp; omega
    · rw [hv, intL_byteL l hx]; exact h
  rw [hf]
  refine ⟨hok, ?_, ?_⟩
  · rw [readE, if_pos hok, hv]
  · rw [readL, if_pos hok, intL_byteL l hx]
end Go.Proofs.Ytijeieamodjgbab
