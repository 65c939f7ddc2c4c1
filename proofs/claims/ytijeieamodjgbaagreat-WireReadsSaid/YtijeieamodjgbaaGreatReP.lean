
/- Plain law: a configuration that is read. No program in sight. -/
import Derived.Test.YtijeieamodjgbaaGreatTxP

namespace Go.Proofs.YtijeieamodjgbaaGreat
set_option maxRecDepth 100000
set_option linter.unusedVariables false

def intL (l : List UInt8) : List Int := l.map fun b => (b.toNat : Int)
theorem byteL_intL (l : List UInt8) : byteL (intL l) = l := by
  induction l with
  | nil => rfl
  | cons b r ih =>
    simp only [byteL, intL, List.map_cons, List.map_map] at ih ⊢
    rw [ih]; simp
theorem intL_byteL (l : List Int) (h : ∀ x ∈ l, 0 ≤ x ∧ x < 256) : intL (byteL l) = l := by
  induction l with
  | nil => rfl
  | cons x r ih =>
    have h1 := h x (by simp)
    have h2 := ih fun y hy => h y (by simp [hy])
    simp only [byteL, intL, List.map_cons, List.map_map] at h2 ⊢
    rw [h2]
    congr 1
    simp; omega
theorem intL_len (l : List UInt8) : (intL l).length = l.length := by simp [intL]
theorem intL_snoc (l : List UInt8) (b : UInt8) : intL (l ++ [b]) = intL l ++ [(b.toNat : Int)] := by simp [intL]
theorem intL_i64 (l : List UInt8) : ∀ x ∈ intL l, i64 x := by
  intro x hx
  obtain ⟨b, _, rfl⟩ := List.mem_map.1 hx
  have := b.toNat_lt
  unfold i64; omega

def rd1 (t : List UInt8) : R := rNext ⟨t, false⟩ 1
def rd2 (t : List UInt8) : R := rNext (rd1 t) 2
def rd3 (t : List UInt8) : R := rNext (rd2 t) 1
def headN (t : List UInt8) : Nat := rVal ⟨t, false⟩ 1
def epochN (t : List UInt8) : Nat := rVal (rd1 t) 2
def numN (t : List UInt8) : Nat := rVal (rd2 t) 1

theorem rd_long (a b c d : UInt8) (r : List UInt8) : headN (a :: b :: c :: d :: r) = a.toNat ∧ epochN (a :: b :: c :: d :: r) = b.toNat * 256 + c.toNat ∧ numN (a :: b :: c :: d :: r) = d.toNat ∧ rd3 (a :: b :: c :: d :: r) = ⟨r, false⟩ := by
  have h1 : rd1 (a :: b :: c :: d :: r) = ⟨b :: c :: d :: r, false⟩ := by simp [rd1, rNext]
  have h2 : rd2 (a :: b :: c :: d :: r) = ⟨d :: r, false⟩ := by rw [rd2, h1, rNext_ok (by simp)]; rfl
  refine ⟨by simp [headN, rVal, valBE], ?_, ?_, ?_⟩
  · rw [epochN, h1, rVal_ok (by simp)]; simp [valBE]
  · rw [numN, h2, rVal_ok (by simp)]; simp [valBE]
  · rw [rd3, h2, rNext_ok (by simp)]; rfl
theorem rNext_stays {s : R} (h : s.bad = true) (k : Nat) : (rNext s k).bad = true := by rw [rNext_bad (.inl h)]
theorem rd_short {t : List UInt8} (h : t.length < 4) : (rd3 t).bad = true := by
  match t, h with
  | [], _ => simp [rd3, rd2, rd1, rNext]
  | [a], _ => simp [rd3, rd2, rd1, rNext]
  | [a, b], _ => simp [rd3, rd2, rd1, rNext]
  | [a, b, c], _ => simp [rd3, rd2, rd1, rNext]

/-- Is it a configuration's text? -/
def okB : List UInt8 → Bool
  | a :: b :: c :: d :: r => a.toNat == 67 && d.toNat == r.length && rightB ((b.toNat * 256 + c.toNat : Nat) : Int) (intL r)
  | _ => false
def readE : List UInt8 → Int
  | a :: b :: c :: d :: r => if okB (a :: b :: c :: d :: r) = true then ((b.toNat * 256 + c.toNat : Nat) : Int) else 0
  | _ => 0
def readL : List UInt8 → List Int
  | a :: b :: c :: d :: r => if okB (a :: b :: c :: d :: r) = true then intL r else []
  | _ => []
def readC (t : List UInt8) : Int := if okB t = true then 0 else 5

theorem readE_no {t : List UInt8} (h : okB t = false) : readE t = 0 := by
  match t, h with
  | [], _ => rfl
  | [a], _ => rfl
  | [a, b], _ => rfl
  | [a, b, c], _ => rfl
  | a :: b :: c :: d :: r, h => rw [readE, if_neg (by rw [h]; simp)]
theorem readL_no {t : List UInt8} (h : okB t = false) : readL t = [] := by
  match t, h with
  | [], _ => rfl
  | [a], _ => rfl
  | [a, b], _ => rfl
  | [a, b, c], _ => rfl
  | a :: b :: c :: d :: r, h => rw [readL, if_neg (by rw [h]; simp)]
theorem readC_no {t : List UInt8} (h : okB t = false) : readC t = 5 := by rw [readC, if_neg (by rw [h]; simp)]
theorem readC_yes {t : List UInt8} (h : okB t = true) : readC t = 0 := by rw [readC, if_pos h]

theorem beN1 (n : Nat) : beN n 1 = [UInt8.ofNat n] := by
  simp only [beN, List.nil_append]
  congr 1
  apply UInt8.toNat_inj.1; simp
theorem beN2 (n : Nat) : beN n 2 = [UInt8.ofNat (n / 256), UInt8.ofNat n] := by
  simp only [beN, List.nil_append, List.cons_append]
  congr 1
  · apply UInt8.toNat_inj.1; simp
  · congr 1
    apply UInt8.toNat_inj.1; simp
theorem textP_form (b c : UInt8) (l : List Int) : textP ((b.toNat * 256 + c.toNat : Nat) : Int) l = 67 :: b :: c :: UInt8.ofNat l.length :: byteL l := by
  have hb := b.toNat_lt
  have hc := c.toNat_lt
  rw [textP, beN1, beN1, beN2, Int.toNat_natCast]
  simp only [List.cons_append, List.nil_append]
  congr 2
  · apply UInt8.toNat_inj.1; simp; omega
  · congr 1
    apply UInt8.toNat_inj.1; simp
theorem textP_len (e : Int) (l : List Int) : (textP e l).length = 4 + l.length := by rw [textP_eq, List.length_append, textHead_len, byteL_len]

/-- What the program's reader has read of the members. -/
def memN (t : List UInt8) : Nat := min (numN t) (rd3 t).rest.length
def memL (t : List UInt8) : List Int := intL ((rd3 t).rest.take (memN t))

theorem prog_ok {t : List UInt8} (h : okB t = true) : headN t = 67 ∧ rightB (epochN t) (memL t) = true ∧ textP (epochN t) (memL t) = t ∧ readE t = epochN t ∧ readL t = memL t := by
  match t, h with
  | a :: b :: c :: d :: r, h =>
    have h0 := h
    simp only [okB, Bool.and_eq_true, beq_iff_eq] at h
    obtain ⟨⟨h1, h2⟩, h3⟩ := h
    obtain ⟨e1, e2, e3, e4⟩ := rd_long a b c d r
    have hm : memL (a :: b :: c :: d :: r) = intL r := by
      rw [memL, memN, e3, e4, h2]; simp
    rw [hm, e1, e2, readE, readL, if_pos h0, if_pos h0, textP_form, byteL_intL, intL_len]
    refine ⟨h1, h3, ?_, rfl, rfl⟩
    congr 1
    · apply UInt8.toNat_inj.1; rw [h1]; rfl
    · congr 3
      apply UInt8.toNat_inj.1; rw [← h2]; simp
theorem prog_of {t : List UInt8} (h1 : headN t = 67) (h2 : rightB (epochN t) (memL t) = true) (h3 : textP (epochN t) (memL t) = t) : okB t = true := by
  have hlen : ¬ t.length < 4 := by rw [← h3, textP_len]; omega
  match t, hlen with
  | [], h => simp at h
  | [a], h => simp at h
  | [a, b], h => simp at h
  | [a, b, c], h => simp at h
  | a :: b :: c :: d :: r, _ =>
    obtain ⟨e1, e2, e3, e4⟩ := rd_long a b c d r
    have hr := congrArg List.length h3
    rw [textP_len] at hr
    have hl : (memL (a :: b :: c :: d :: r)).length = min d.toNat r.length := by rw [memL, intL_len, memN, e3, e4]; simp
    rw [hl] at hr
    simp only [List.length_cons] at hr
    have hm : memL (a :: b :: c :: d :: r) = intL r := by rw [memL, memN, e3, e4, List.take_of_length_le]; show r.length ≤ min d.toNat r.length; omega
    rw [hm, e2, textP_form] at h3
    rw [hm, e2] at h2
    injection h3 with _ h3
    injection h3 with _ h3
    injection h3 with _ h3
    injection h3 with h3 _
    have hd := d.toNat_lt
    have : (UInt8.ofNat (intL r).length).toNat = d.toNat := by rw [h3]
    rw [intL_len] at this
    simp at this
    simp only [okB, Bool.and_eq_true, beq_iff_eq]
    refine ⟨⟨by rw [← h1, e1], ?_⟩, h2⟩
    have hr16 : r.length < 256 := by omega
    omega

/-- What the reference's reader has read of the members. -/
def rAfter (s : R) : Nat → R
  | 0 => s
  | k + 1 => rNext (rAfter s k) 1
def rVals (s : R) : Nat → List Int
  | 0 => []
  | k + 1 => rVals s k ++ [(rVal (rAfter s k) 1 : Int)]
theorem rVals_len (s : R) : ∀ k, (rVals s k).length = k
  | 0 => rfl
  | k + 1 => by rw [rVals, List.length_append, rVals_len s k]; rfl
theorem rVals_i64 (s : R) : ∀ k, ∀ x ∈ rVals s k, i64 x
  | 0, x, h => by cases h
  | k + 1, x, h => by
    rw [rVals, List.mem_append, List.mem_singleton] at h
    rcases h with h | rfl
    · exact rVals_i64 s k x h
    · have : rVal (rAfter s k) 1 < 256 ^ 1 := by
        unfold rVal
        split
        · omega
        · have := valBE_lt ((rAfter s k).rest.take 1)
          exact Nat.lt_of_lt_of_le this (Nat.pow_le_pow_right (by omega) (by rw [List.length_take]; exact Nat.min_le_left _ _))
      unfold i64; omega
theorem rAfter_bad {s : R} (h : s.bad = true) : ∀ k, (rAfter s k).bad = true
  | 0 => h
  | k + 1 => rNext_stays (rAfter_bad h k) 1
theorem rAfter_ok (r : List UInt8) : ∀ k, k ≤ r.length → rAfter ⟨r, false⟩ k = ⟨r.drop k, false⟩ ∧ rVals ⟨r, false⟩ k = intL (r.take k)
  | 0, _ => by simp [rAfter, rVals, intL]
  | k + 1, h => by
    obtain ⟨h1, h2⟩ := rAfter_ok r k (by omega)
    have hk : k < r.length := by omega
    have hn : ¬ ((⟨r.drop k, false⟩ : R).bad = true ∨ (⟨r.drop k, false⟩ : R).rest.length < 1) := by simp; omega
    rw [rAfter, rVals, h1, h2, rNext_ok hn, rVal_ok hn]
    refine ⟨by simp, ?_⟩
    have ht : r.take (k + 1) = r.take k ++ [r[k]] := by rw [List.take_add_one, List.getElem?_eq_getElem hk]; rfl
    rw [ht, intL_snoc]
    congr 3
    show valBE ((r.drop k).take 1) = _
    rw [List.drop_eq_getElem_cons hk, List.take_succ_cons, List.take_zero]
    simp [valBE]
theorem rAfter_far (r : List UInt8) : ∀ k, r.length < k → (rAfter ⟨r, false⟩ k).bad = true
  | 0, h => by omega
  | k + 1, h => by
    by_cases hk : r.length < k
    · exact rNext_stays (rAfter_far r k hk) 1
    · rw [rAfter, (rAfter_ok r k (by omega)).1, rNext_bad]
      right; simp; omega

theorem ref_ok {t : List UInt8} (h : okB t = true) : headN t = 67 ∧ (rAfter (rd3 t) (numN t)).bad = false ∧ (rAfter (rd3 t) (numN t)).rest = [] ∧ rightB (epochN t) (rVals (rd3 t) (numN t)) = true ∧ readE t = epochN t ∧ readL t = rVals (rd3 t) (numN t) := by
  match t, h with
  | a :: b :: c :: d :: r, h =>
    have h0 := h
    simp only [okB, Bool.and_eq_true, beq_iff_eq] at h
    obtain ⟨⟨h1, h2⟩, h3⟩ := h
    obtain ⟨e1, e2, e3, e4⟩ := rd_long a b c d r
    obtain ⟨q1, q2⟩ := rAfter_ok r d.toNat (by omega)
    rw [e1, e2, e3, e4, q1, q2, readE, readL, if_pos h0, if_pos h0, List.take_of_length_le (by omega)]
    exact ⟨h1, rfl, by simp [h2], h3, rfl, rfl⟩
theorem ref_of {t : List UInt8} (h1 : headN t = 67) (h2 : (rAfter (rd3 t) (numN t)).bad = false) (h3 : (rAfter (rd3 t) (numN t)).rest = []) (h4 : rightB (epochN t) (rVals (rd3 t) (numN t)) = true) : okB t = true := by
  have hlen : ¬ t.length < 4 := fun hc => by
    rw [rAfter_bad (rd_short hc)] at h2; cases h2
  match t, hlen with
  | [], h => simp at h
  | [a], h => simp at h
  | [a, b], h => simp at h
  | [a, b, c], h => simp at h
  | a :: b :: c :: d :: r, _ =>
    obtain ⟨e1, e2, e3, e4⟩ := rd_long a b c d r
    rw [e3, e4] at h2 h3 h4
    rw [e2] at h4
    have hd : d.toNat ≤ r.length := by
      by_cases hc : r.length < d.toNat
      · rw [rAfter_far r _ hc] at h2; cases h2
      · omega
    obtain ⟨q1, q2⟩ := rAfter_ok r d.toNat hd
    rw [q1] at h3
    have hd2 : r.length = d.toNat := by
      have := congrArg List.length h3
      simp at this; omega
    rw [q2, List.take_of_length_le (by omega)] at h4
    simp only [okB, Bool.and_eq_true, beq_iff_eq]
    exact ⟨⟨by rw [← h1, e1], hd2.symm⟩, h4⟩

/-- What is told is read again. -/
theorem read_text {e : Int} {l : List Int} (h : rightB e l = true) (hl : l.length < 256) (hx : ∀ x ∈ l, 0 ≤ x ∧ x < 256) (h0 : 0 ≤ e) (h1 : e < 65536) : okB (textP e l) = true ∧ readE (textP e l) = e ∧ readL (textP e l) = l := by
  obtain ⟨n, rfl⟩ : ∃ n : Nat, e = (n : Int) := ⟨e.toNat, by omega⟩
  have hf : textP (n : Int) l = 67 :: UInt8.ofNat (n / 256) :: UInt8.ofNat n :: UInt8.ofNat l.length :: byteL l := by
    rw [textP, beN1, beN1, beN2, Int.toNat_natCast]; rfl
  have hv : (UInt8.ofNat (n / 256)).toNat * 256 + (UInt8.ofNat n).toNat = n := by simp; omega
  have hok : okB (67 :: UInt8.ofNat (n / 256) :: UInt8.ofNat n :: UInt8.ofNat l.length :: byteL l) = true := by
    simp only [okB, Bool.and_eq_true, beq_iff_eq]
    refine ⟨⟨rfl, ?_⟩, ?_⟩
    · rw [byteL_len]; simp; omega
    · rw [hv, intL_byteL l hx]; exact h
  rw [hf]
  refine ⟨hok, ?_, ?_⟩
  · rw [readE, if_pos hok, hv]
  · rw [readL, if_pos hok, intL_byteL l hx]
end Go.Proofs.YtijeieamodjgbaaGreat
