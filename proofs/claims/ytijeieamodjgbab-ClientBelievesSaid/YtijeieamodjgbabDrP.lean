
/- Results' texts there and back: plain. No program in sight. -/
import Derived.Test.YtijeieamodjgbabDr2
import Derived.Test.YtijeieamodjgbabIt
import Derived.Test.YtijeieamodjgbabDv

namespace Go.Proofs.Ytijeieamodjgbab
set_option maxRecDepth 100000
open Go.RowKit
set_option linter.unusedVariables false
set_option linter.unusedSimpArgs false

theorem valBE_of_beN : ∀ (k n : Nat), valBE (beN n k) = n % 256 ^ k
  | 0, n => by simp [beN, valBE, Nat.mod_one]
  | k + 1, n => by
    have hk := valBE_of_beN k (n / 256)
    rw [beN, valBE_snoc, hk]
    have hc : (UInt8.ofNat (n % 256)).toNat = n % 256 := by simp
    rw [hc, Nat.pow_succ, Nat.mul_comm (256 ^ k) 256, Nat.mod_mul]
    omega
/-- Reading behind a number that was written. -/
theorem rd_beN (n k : Nat) (r : List UInt8) (hn : n < 256 ^ k) : rVal ⟨beN n k ++ r, false⟩ k = n ∧ rNext ⟨beN n k ++ r, false⟩ k = ⟨r, false⟩ := by
  have hl : ¬ ((⟨beN n k ++ r, false⟩ : R).bad = true ∨ (⟨beN n k ++ r, false⟩ : R).rest.length < k) := by
    rintro (h | h)
    · cases h
    · have : (beN n k ++ r).length < k := h
      rw [List.length_append, beN_len] at this; omega
  have ht : (beN n k ++ r).take k = beN n k := by rw [List.take_append_of_le_length (by rw [beN_len]; omega), List.take_of_length_le (by rw [beN_len]; omega)]
  have hd : (beN n k ++ r).drop k = r := by
    have := List.drop_append_of_le_length (l₁ := beN n k) (l₂ := r) (i := k) (by rw [beN_len]; omega)
    rw [this, List.drop_of_length_le (by rw [beN_len]; omega)]; rfl
  refine ⟨?_, ?_⟩
  · rw [rVal_ok hl]
    show valBE ((beN n k ++ r).take k) = n
    rw [ht, valBE_of_beN, Nat.mod_eq_of_lt hn]
  · rw [rNext_ok hl]
    show (⟨(beN n k ++ r).drop k, false⟩ : R) = ⟨r, false⟩
    rw [hd]
theorem wild_nan : wildB 9221120237041090560 = true := by decide
theorem canon_from (b : Nat) : fromV (canonB b) = canonB b ∧ fromOk (canonB b) = true := by
  refine from_yes ?_
  rintro ⟨h1, h2⟩
  cases hw : wildB b with
  | true => rw [canonB_wild hw] at h2; exact h2 rfl
  | false => rw [canonB_tame hw] at h1; rw [h1] at hw; cases hw
theorem canon_idem (b : Nat) : canonB (canonB b) = canonB b := by
  cases hw : wildB b with
  | true => rw [canonB_wild hw]; exact canonB_wild wild_nan
  | false => rw [canonB_tame hw, canonB_tame hw]
theorem from_canon {n : Nat} (h : fromOk n = true) : fromV n = n ∧ canonB n = n := by
  have hn : ¬ (wildB n = true ∧ n ≠ 9221120237041090560) := fun hc => by
    rw [(from_no hc.1 hc.2).2] at h; cases h
  refine ⟨(from_yes hn).1, ?_⟩
  cases hw : wildB n with
  | true =>
    have : n = 9221120237041090560 := Classical.byContradiction fun hc => hn ⟨hw, hc⟩
    rw [canonB_wild hw, this]
  | false => exact canonB_tame hw
theorem res_back {c : Int} {b : Nat} (hc : 0 ≤ c ∧ c ≤ 8) (hb : b < 18446744073709551616) : rsE (resQ c b) = 0 ∧ rsC (resQ c b) = c ∧ rsB (resQ c b) = canonB b := by
  have hcb := canonB_lt hb
  obtain ⟨h1, h2⟩ := rd_beN c.toNat 1 (beN (canonB b) 8) (by omega)
  obtain ⟨h3, h4⟩ := rd_beN (canonB b) 8 [] (by omega)
  rw [List.append_nil] at h3 h4
  have q : qHead (resQ c b) = c.toNat := h1
  have s1 : p1 (resQ c b) = ⟨beN (canonB b) 8, false⟩ := h2
  have s2 : p2 (resQ c b) = ⟨[], false⟩ := by rw [p2, s1]; exact h4
  have s3 : pReal (resQ c b) = canonB b := by rw [pReal, s1]; exact h3
  obtain ⟨f1, f2⟩ := canon_from b
  have ok : rsOk (resQ c b) = true := by
    rw [rsOk, s2, q, s3, f2, decide_eq_true (show c.toNat ≤ 8 by omega)]; rfl
  obtain ⟨r1, r2, r3⟩ := rs_yes ok
  refine ⟨r3, ?_, ?_⟩
  · rw [r1, q]; omega
  · rw [r2, s3, f1]
theorem rd_good {s : R} {k : Nat} (h1 : s.bad = false) (h2 : k ≤ s.rest.length) : ¬ (s.bad = true ∨ s.rest.length < k) := by
  rintro (h | h)
  · rw [h1] at h; cases h
  · omega
end Go.Proofs.Ytijeieamodjgbab

/- Requests' texts there and back: plain. No program in sight. -/
namespace Go.Proofs.Ytijeieamodjgbab
set_option maxRecDepth 100000
open Go.RowKit
set_option linter.unusedVariables false
set_option linter.unusedSimpArgs false

theorem rd_text (t r : List UInt8) (hn : t.length ≤ 65535) : tVal ⟨(beN t.length 2 ++ t) ++ r, false⟩ = t ∧ tNext ⟨(beN t.length 2 ++ t) ++ r, false⟩ = ⟨r, false⟩ := by
  rw [List.append_assoc]
  obtain ⟨h1, h2⟩ := rd_beN t.length 2 (t ++ r) (by omega)
  have hb : ¬ tBad ⟨beN t.length 2 ++ (t ++ r), false⟩ := by
    unfold tBad
    rw [h1, h2]
    simp
  rw [tVal_ok hb, tNext_ok hb, h1, h2]
  refine ⟨?_, ?_⟩
  · show (t ++ r).take t.length = t
    rw [List.take_append_of_le_length (by omega), List.take_of_length_le (by omega)]
  · show (⟨(t ++ r).drop t.length, false⟩ : R) = ⟨r, false⟩
    rw [List.drop_append_of_le_length (by omega), List.drop_of_length_le (by omega), List.nil_append]
/-- A request as it comes back: its real by the bits that are told. -/
def Rq.canon (r : Rq) : Rq := ⟨r.c, r.s, r.kind, r.key, canonB r.b, r.id⟩
theorem noneB_canon (b : Nat) : noneB (canonB b) = noneB b := by unfold noneB; rw [canon_idem]
theorem right_canon (r : Rq) : r.canon.right = r.right := by
  unfold Rq.right Rq.canon rightQ opB noKeyB
  dsimp only
  rw [noneB_canon]
theorem rq_back (r : Rq) (hr : r.right = true) (hb : r.b < 18446744073709551616) : rdOk (textQ r.c r.s r.kind r.key r.b r.id) = true ∧ rdRq (textQ r.c r.s r.kind r.key r.b r.id) = r.canon := by
  obtain ⟨c1, c2, s1, s2, k1, k2, z1, i1, i2⟩ := rightQ_parts hr
  have hcb := canonB_lt hb
  obtain ⟨f1, f2⟩ := canon_from r.b
  have hkl : r.key.size = r.key.data.toList.length := (Array.length_toList).symm
  have hT : textQ r.c r.s r.kind r.key r.b r.id = beN 1 1 ++ (beN r.c.toNat 1 ++ (beN r.s.toNat 4 ++ (beN r.kind.toNat 1 ++ ((beN r.key.data.toList.length 2 ++ r.key.data.toList) ++ (beN (canonB r.b) 8 ++ (beN r.id.toNat 1 ++ [])))))) := by
    rw [textQ, hkl, List.append_nil]
    simp only [List.append_assoc]
  rw [hT]
  obtain ⟨a1, b1⟩ := rd_beN 1 1 (beN r.c.toNat 1 ++ (beN r.s.toNat 4 ++ (beN r.kind.toNat 1 ++ ((beN r.key.data.toList.length 2 ++ r.key.data.toList) ++ (beN (canonB r.b) 8 ++ (beN r.id.toNat 1 ++ [])))))) (by omega)
  obtain ⟨a2, b2⟩ := rd_beN r.c.toNat 1 (beN r.s.toNat 4 ++ (beN r.kind.toNat 1 ++ ((beN r.key.data.toList.length 2 ++ r.key.data.toList) ++ (beN (canonB r.b) 8 ++ (beN r.id.toNat 1 ++ []))))) (by omega)
  obtain ⟨a3, b3⟩ := rd_beN r.s.toNat 4 (beN r.kind.toNat 1 ++ ((beN r.key.data.toList.length 2 ++ r.key.data.toList) ++ (beN (canonB r.b) 8 ++ (beN r.id.toNat 1 ++ [])))) (by omega)
  obtain ⟨a4, b4⟩ := rd_beN r.kind.toNat 1 ((beN r.key.data.toList.length 2 ++ r.key.data.toList) ++ (beN (canonB r.b) 8 ++ (beN r.id.toNat 1 ++ []))) (by omega)
  obtain ⟨a5, b5⟩ := rd_text r.key.data.toList (beN (canonB r.b) 8 ++ (beN r.id.toNat 1 ++ [])) (by omega)
  obtain ⟨a6, b6⟩ := rd_beN (canonB r.b) 8 (beN r.id.toNat 1 ++ []) (by omega)
  obtain ⟨a7, b7⟩ := rd_beN r.id.toNat 1 [] (by omega)
  generalize beN 1 1 ++ (beN r.c.toNat 1 ++ (beN r.s.toNat 4 ++ (beN r.kind.toNat 1 ++ ((beN r.key.data.toList.length 2 ++ r.key.data.toList) ++ (beN (canonB r.b) 8 ++ (beN r.id.toNat 1 ++ [])))))) = T at *
  have e1 : q1 T = rNext ⟨T, false⟩ 1 := rfl
  rw [b1] at e1
  have e2 : q2 T = rNext (q1 T) 1 := rfl
  rw [e1, b2] at e2
  have e3 : q3 T = rNext (q2 T) 4 := rfl
  rw [e2, b3] at e3
  have e4 : q4 T = rNext (q3 T) 1 := rfl
  rw [e3, b4] at e4
  have e5 : q5 T = tNext (q4 T) := rfl
  rw [e4, b5] at e5
  have e6 : q6 T = rNext (q5 T) 8 := rfl
  rw [e5, b6] at e6
  have e7 : q7 T = rNext (q6 T) 1 := rfl
  rw [e6, b7] at e7
  have v5 : qReal T = canonB r.b := by rw [qReal, e5]; exact a6
  have hR : rdRq T = r.canon := by
    rw [rdRq, v5, f1, e1, e2, e3, e4, e6, a2, a3, a4, a5, a7]
    unfold Rq.canon
    rw [show ((r.c.toNat : Nat) : Int) = r.c by omega, show ((r.s.toNat : Nat) : Int) = r.s by omega, show ((r.kind.toNat : Nat) : Int) = r.kind by omega, show ((r.id.toNat : Nat) : Int) = r.id by omega]
  refine ⟨?_, hR⟩
  rw [rdOk, e7, v5, f2, hR, right_canon, hr, show qHead T = 1 from a1]
  rfl
end Go.Proofs.Ytijeieamodjgbab

/- What is read as a request is told as just these bytes: plain. No program in sight. -/
namespace Go.Proofs.Ytijeieamodjgbab
set_option maxRecDepth 100000
open Go.RowKit
set_option linter.unusedVariables false
set_option linter.unusedSimpArgs false

/-- A number that was read, behind it what is left. -/
theorem rd_split {t : List UInt8} {k : Nat} (h : (rNext ⟨t, false⟩ k).bad = false) : ∃ r, rNext ⟨t, false⟩ k = ⟨r, false⟩ ∧ t = beN (rVal ⟨t, false⟩ k) k ++ r := by
  obtain ⟨_, h2⟩ := rNext_good h
  have h3 : k ≤ t.length := h2
  refine ⟨t.drop k, rNext_ok (rd_good rfl h2), ?_⟩
  have hv : rVal ⟨t, false⟩ k = valBE (t.take k) := rVal_ok (rd_good rfl h2)
  have b := beN_valBE (t.take k)
  rw [List.length_take, Nat.min_eq_left h3] at b
  rw [hv, b, List.take_append_drop]
theorem rd_tsplit {t : List UInt8} (h : (tNext ⟨t, false⟩).bad = false) : ∃ r, tNext ⟨t, false⟩ = ⟨r, false⟩ ∧ t = (beN (tVal ⟨t, false⟩).length 2 ++ tVal ⟨t, false⟩) ++ r := by
  have hb : ¬ tBad ⟨t, false⟩ := fun hc => by rw [tNext_bad hc] at h; cases h
  have hn : (rNext ⟨t, false⟩ 2).bad = false ∧ rVal ⟨t, false⟩ 2 ≤ (rNext ⟨t, false⟩ 2).rest.length := by
    unfold tBad at hb
    simp only [not_or] at hb
    refine ⟨by simpa using hb.1, by omega⟩
  obtain ⟨r, h1, h2⟩ := rd_split hn.1
  have hl := hn.2
  rw [h1] at hl
  have hl' : rVal ⟨t, false⟩ 2 ≤ r.length := hl
  have hv : tVal ⟨t, false⟩ = r.take (rVal ⟨t, false⟩ 2) := by rw [tVal_ok hb, h1]
  have hx : tNext ⟨t, false⟩ = ⟨r.drop (rVal ⟨t, false⟩ 2), false⟩ := by rw [tNext_ok hb, h1]
  refine ⟨_, hx, ?_⟩
  rw [hv, List.length_take, Nat.min_eq_left hl', List.append_assoc, List.take_append_drop]
  exact h2
theorem bad_next {s : R} {k : Nat} (h : (rNext s k).bad = false) : s.bad = false := (rNext_good h).1
theorem bad_tnext {s : R} (h : (tNext s).bad = false) : s.bad = false := by
  cases hb : s.bad with
  | false => rfl
  | true =>
    have h1 : (rNext s 2).bad = true := by rw [rNext_bad (.inl hb)]
    rw [tNext_bad (.inl h1)] at h; cases h
theorem rq_told {t : List UInt8} (h : rdOk t = true) : (rdRq t).right = true ∧ textQ (rdRq t).c (rdRq t).s (rdRq t).kind (rdRq t).key (rdRq t).b (rdRq t).id = t := by
  simp only [rdOk, Bool.and_eq_true, decide_eq_true_eq] at h
  obtain ⟨⟨⟨h1, h2⟩, h3⟩, h4⟩ := h
  refine ⟨h4, ?_⟩
  obtain ⟨f1, f2⟩ := from_canon h3
  obtain ⟨g7, g8⟩ : (q7 t).bad = false ∧ (q7 t).rest = [] := by
    cases hb : (q7 t).bad with
    | true => rw [endE, if_pos hb] at h1; omega
    | false =>
      rw [endE, if_neg (by simp [hb])] at h1
      split at h1
      · omega
      · rename_i hr
        exact ⟨rfl, List.eq_nil_of_length_eq_zero (by omega)⟩
  have g6 := bad_next (s := q6 t) (k := 1) g7
  have g5 := bad_next (s := q5 t) (k := 8) g6
  have g4 := bad_tnext (s := q4 t) g5
  have g3 := bad_next (s := q3 t) (k := 1) g4
  have g2 := bad_next (s := q2 t) (k := 4) g3
  have g1 := bad_next (s := q1 t) (k := 1) g2
  obtain ⟨r1, e1, t1⟩ := rd_split (t := t) (k := 1) g1
  have e1' : q1 t = ⟨r1, false⟩ := e1
  rw [q2, e1'] at g2
  obtain ⟨r2, e2, t2⟩ := rd_split g2
  have e2' : q2 t = ⟨r2, false⟩ := by rw [q2, e1']; exact e2
  rw [q3, e2'] at g3
  obtain ⟨r3, e3, t3⟩ := rd_split g3
  have e3' : q3 t = ⟨r3, false⟩ := by rw [q3, e2']; exact e3
  rw [q4, e3'] at g4
  obtain ⟨r4, e4, t4⟩ := rd_split g4
  have e4' : q4 t = ⟨r4, false⟩ := by rw [q4, e3']; exact e4
  rw [q5, e4'] at g5
  obtain ⟨r5, e5, t5⟩ := rd_tsplit g5
  have e5' : q5 t = ⟨r5, false⟩ := by rw [q5, e4']; exact e5
  rw [q6, e5'] at g6
  obtain ⟨r6, e6, t6⟩ := rd_split g6
  have e6' : q6 t = ⟨r6, false⟩ := by rw [q6, e5']; exact e6
  rw [q7, e6'] at g7
  obtain ⟨r7, e7, t7⟩ := rd_split g7
  have e7' : q7 t = ⟨r7, false⟩ := by rw [q7, e6']; exact e7
  rw [e7'] at g8
  have g8' : r7 = [] := g8
  have hd : rVal ⟨t, false⟩ 1 = 1 := h2
  have hc : (canonB (rdRq t).b) = rVal ⟨r5, false⟩ 8 := by
    show canonB (fromV (qReal t)) = _
    rw [f1, f2, qReal, e5']
  have hk : (rdRq t).key.size = (tVal ⟨r4, false⟩).length := by
    show (⟨(tVal (q4 t)).toArray⟩ : ByteArray).size = _
    rw [e4']; simp [ByteArray.size]
  have hkd : (rdRq t).key.data.toList = tVal ⟨r4, false⟩ := by
    show (tVal (q4 t)).toArray.toList = _
    rw [e4']
  have n1 : (rdRq t).c.toNat = rVal ⟨r1, false⟩ 1 := by show ((rVal (q1 t) 1 : Nat) : Int).toNat = _; rw [e1']; omega
  have n2 : (rdRq t).s.toNat = rVal ⟨r2, false⟩ 4 := by show ((rVal (q2 t) 4 : Nat) : Int).toNat = _; rw [e2']; omega
  have n3 : (rdRq t).kind.toNat = rVal ⟨r3, false⟩ 1 := by show ((rVal (q3 t) 1 : Nat) : Int).toNat = _; rw [e3']; omega
  have n6 : (rdRq t).id.toNat = rVal ⟨r6, false⟩ 1 := by show ((rVal (q6 t) 1 : Nat) : Int).toNat = _; rw [e6']; omega
  rw [textQ, n1, n2, n3, n6, hc, hk, hkd]
  rw [hd] at t1
  rw [g8', List.append_nil] at t7
  conv => rhs; rw [t1, t2, t3, t4, t5, t6, t7]
  simp only [List.append_assoc]
end Go.Proofs.Ytijeieamodjgbab

/- Requests told, read, told again: what the laws ask, plain. -/
namespace Go.Proofs.Ytijeieamodjgbab
set_option maxRecDepth 100000
open Go.RowKit
set_option linter.unusedVariables false
set_option linter.unusedSimpArgs false

def Rq.null (r : Rq) : Bool := nullQ r.c r.s r.kind r.key r.b r.id
theorem zero_null : zeroRq.null = true := by decide
theorem right_not_null {r : Rq} (h : r.right = true) : r.null = false := by
  have := (rightQ_parts h).1
  exact null_no (by rintro ⟨h0, _⟩; omega)
theorem text_null {r : Rq} (h : r.null = true) : r.text = ⟨#[0]⟩ ∧ r.err = 0 := by
  unfold Rq.null at h
  unfold Rq.text Rq.err rqText rqErr
  rw [h]; exact ⟨rfl, rfl⟩
theorem text_right {r : Rq} (h : r.right = true) : r.text = ⟨(textQ r.c r.s r.kind r.key r.b r.id).toArray⟩ ∧ r.err = 0 := by
  have hn := right_not_null h
  unfold Rq.null at hn
  unfold Rq.right at h
  unfold Rq.text Rq.err rqText rqErr
  rw [hn, h]; exact ⟨rfl, rfl⟩
/-- What was read is told as just these bytes. -/
theorem back_told {text : ByteArray} (h : readErr text.data.toList = 0) : (readRq text.data.toList).err = 0 ∧ (readRq text.data.toList).text = text := by
  cases hk : rdOk text.data.toList with
  | true =>
    obtain ⟨a1, a2⟩ := rq_told hk
    rw [readRq, if_pos hk]
    obtain ⟨b1, b2⟩ := text_right a1
    refine ⟨b2, ?_⟩
    rw [b1, a2]
  | false =>
    have hz : text.data.toList = [0] := Classical.byContradiction fun hc => by rw [readErr_no hk hc] at h; cases h
    rw [readRq_no hk]
    obtain ⟨z1, z2⟩ := text_null zero_null
    refine ⟨z2, ?_⟩
    rw [z1]
    apply Go.WideShapes.bytes_inj
    rw [hz]
end Go.Proofs.Ytijeieamodjgbab
