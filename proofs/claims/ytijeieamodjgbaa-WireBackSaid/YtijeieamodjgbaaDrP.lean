
/- Results' texts there and back: plain. No program in sight. -/
import Derived.Test.YtijeieamodjgbaaDr3
import Derived.Test.YtijeieamodjgbaaIt
namespace Go.Proofs.Ytijeieamodjgbaa
set_option maxRecDepth 100000
open Go.RowKit
set_option linter.unusedVariables false
set_option linter.unusedSimpArgs false

theorem valBE_of_beN : ∀ (k n : Nat), valBE (beN n k) = n % 256 ^ k
  | 0, n => by simp [beN, valBE, Nat.mod_one]
  | k + 1, n => by
    have hk := valBE_of_beN k (n / 256)
    rw [beN, valBE_snoc, hk]
    have hc : (UInt8.ofNat (n % 256)).toNat = n % 256 := by simp
    rw [hc, Nat.pow_succ, Nat.mul_comm (256 ^ k) 256, Nat.mod_mul]
    omega
/-- Reading behind a number that was written. -/
theorem rd_beN (n k : Nat) (r : List UInt8) (hn : n < 256 ^ k) : rVal ⟨beN n k ++ r, false⟩ k = n ∧ rNext ⟨beN n k ++ r, false⟩ k = ⟨r, false⟩ := by
  have hl : ¬ ((⟨beN n k ++ r, false⟩ : R).bad = true ∨ (⟨beN n k ++ r, false⟩ : R).rest.length < k) := by
    rintro (h | h)
    · cases h
    · have : (beN n k ++ r).length < k := h
      rw [List.length_append, beN_len] at this; omega
  have ht : (beN n k ++ r).take k = beN n k := by rw [List.take_append_of_le_length (by rw [beN_len]; omega), List.take_of_length_le (by rw [beN_len]; omega)]
  have hd : (beN n k ++ r).drop k = r := by
    have := List.drop_append_of_le_length (l₁ := beN n k) (l₂ := r) (i := k) (by rw [beN_len]; omega)
    rw [this, List.drop_of_length_le (by rw [beN_len]; omega)]; rfl
  refine ⟨?_, ?_⟩
  · rw [rVal_ok hl]
    show valBE ((beN n k ++ r).take k) = n
    rw [ht, valBE_of_beN, Nat.mod_eq_of_lt hn]
  · rw [rNext_ok hl]
    show (⟨(beN n k ++ r).drop k, false⟩ : R) = ⟨r, false⟩
    rw [hd]
theorem wild_nan : wildB 9221120237041090560 = true := by decide
theorem canon_from (b : Nat) : fromV (canonB b) = canonB b ∧ fromOk (canonB b) = true := by
  refine from_yes ?_
  rintro ⟨h1, h2⟩
  cases hw : wildB b with
  | true => rw [canonB_wild hw] at h2; exact h2 rfl
  | false => rw [canonB_tame hw] at h1; rw [h1] at hw; cases hw
theorem canon_idem (b : Nat) : canonB (canonB b) = canonB b := by
  cases hw : wildB b with
  | true => rw [canonB_wild hw]; exact canonB_wild wild_nan
  | false => rw [canonB_tame hw, canonB_tame hw]
theorem from_canon {n : Nat} (h : fromOk n = true) : fromV n = n ∧ canonB n = n := by
  have hn : ¬ (wildB n = true ∧ n ≠ 9221120237041090560) := fun hc => by
    rw [(from_no hc.1 hc.2).2] at h; cases h
  refine ⟨(from_yes hn).1, ?_⟩
  cases hw : wildB n with
  | true =>
    have : n = 9221120237041090560 := Classical.byContradiction fun hc => hn ⟨hw, hc⟩
    rw [canonB_wild hw, this]
  | false => exact canonB_tame hw
theorem res_back {c : Int} {b : Nat} (hc : 0 ≤ c ∧ c ≤ 8) (hb : b < 18446744073709551616) : rsE (resQ c b) = 0 ∧ rsC (resQ c b) = c ∧ rsB (resQ c b) = canonB b := by
  have hcb := canonB_lt hb
  obtain ⟨h1, h2⟩ := rd_beN c.toNat 1 (beN (canonB b) 8) (by omega)
  obtain ⟨h3, h4⟩ := rd_beN (canonB b) 8 [] (by omega)
  rw [List.append_nil] at h3 h4
  have q : qHead (resQ c b) = c.toNat := h1
  have s1 : p1 (resQ c b) = ⟨beN (canonB b) 8, false⟩ := h2
  have s2 : p2 (resQ c b) = ⟨[], false⟩ := by rw [p2, s1]; exact h4
  have s3 : pReal (resQ c b) = canonB b := by rw [pReal, s1]; exact h3
  obtain ⟨f1, f2⟩ := canon_from b
  have ok : rsOk (resQ c b) = true := by
    rw [rsOk, s2, q, s3, f2, decide_eq_true (show c.toNat ≤ 8 by omega)]; rfl
  obtain ⟨r1, r2, r3⟩ := rs_yes ok
  refine ⟨r3, ?_, ?_⟩
  · rw [r1, q]; omega
  · rw [r2, s3, f1]
theorem rd_good {s : R} {k : Nat} (h1 : s.bad = false) (h2 : k ≤ s.rest.length) : ¬ (s.bad = true ∨ s.rest.length < k) := by
  rintro (h | h)
  · rw [h1] at h; cases h
  · omega
theorem res_told {t : List UInt8} (h : rsOk t = true) : (0 ≤ rsC t ∧ rsC t ≤ 8) ∧ resQ (rsC t) (rsB t) = t := by
  obtain ⟨r1, r2, r3⟩ := rs_yes h
  simp only [rsOk, Bool.and_eq_true, decide_eq_true_eq] at h
  obtain ⟨⟨h1, h2⟩, h3⟩ := h
  obtain ⟨f1, f2⟩ := from_canon h3
  refine ⟨by rw [r1]; omega, ?_⟩
  obtain ⟨g1, g2⟩ : (p2 t).bad = false ∧ (p2 t).rest = [] := by
    cases hb : (p2 t).bad with
    | true => rw [endE, if_pos hb] at h1; omega
    | false =>
      rw [endE, if_neg (by simp [hb])] at h1
      split at h1
      · omega
      · rename_i hr
        exact ⟨rfl, List.eq_nil_of_length_eq_zero (by omega)⟩
  obtain ⟨k1, k2⟩ := rNext_good (s := p1 t) (k := 8) g1
  obtain ⟨_, k3⟩ := rNext_good (s := ⟨t, false⟩) (k := 1) k1
  have e1 : p1 t = ⟨t.drop 1, false⟩ := rNext_ok (rd_good rfl k3)
  have k4 : 8 ≤ (t.drop 1).length := by rw [e1] at k2; exact k2
  have e2 : p2 t = ⟨(t.drop 1).drop 8, false⟩ := by
    rw [p2, e1]
    exact rNext_ok (rd_good rfl k4)
  have e3 : (t.drop 1).drop 8 = [] := by rw [e2] at g2; exact g2
  have v1 : qHead t = valBE (t.take 1) := rVal_ok (rd_good rfl k3)
  have v2 : pReal t = valBE ((t.drop 1).take 8) := by
    rw [pReal, e1]
    exact rVal_ok (rd_good rfl k4)
  have l1 : (t.take 1).length = 1 := by rw [List.length_take]; have : 1 ≤ t.length := k3; omega
  have l2 : ((t.drop 1).take 8).length = 8 := by rw [List.length_take]; omega
  have b1 := beN_valBE (t.take 1)
  have b2 := beN_valBE ((t.drop 1).take 8)
  rw [l1] at b1
  rw [l2] at b2
  rw [resQ, r1, r2, f1, f2, v2, b2, v1, show ((valBE (t.take 1) : Nat) : Int).toNat = valBE (t.take 1) by omega, b1]
  have e4 : (t.drop 1).take 8 = t.drop 1 := by
    have := List.take_append_drop 8 (t.drop 1)
    rw [e3, List.append_nil] at this
    exact this
  rw [e4, List.take_append_drop]
end Go.Proofs.Ytijeieamodjgbaa
