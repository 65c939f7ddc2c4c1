
/- What is read as a request is told as just these bytes: plain. No program in sight. -/
import Derived.Test.YtnmhmbfhaiaaoaaDqP
namespace Go.Proofs.Ytnmhmbfhaiaaoaa
set_option maxRecDepth 100000
open Go.RowKit
set_option linter.unusedVariables false
set_option linter.unusedSimpArgs false

/-- A number that was read, behind it what is left. -/
theorem rd_split {t : List UInt8} {k : Nat} (h : (rNext ⟨t, false⟩ k).bad = false) : ∃ r, rNext ⟨t, false⟩ k = ⟨r, false⟩ ∧ t = beN (rVal ⟨t, false⟩ k) k ++ r := by
  obtain ⟨_, h2⟩ := rNext_good h
  have h3 : k ≤ t.length := h2
  refine ⟨t.drop k, rNext_ok (rd_good rfl h2), ?_⟩
  have hv : rVal ⟨t, false⟩ k = valBE (t.take k) := rVal_ok (rd_good rfl h2)
  have b := beN_valBE (t.take k)
  rw [List.length_take, Nat.min_eq_left h3] at b
  rw [hv, b, List.take_append_drop]
theorem rd_tsplit {t : List UInt8} (h : (tNext ⟨t, false⟩).bad = false) : ∃ r, tNext ⟨t, false⟩ = ⟨r, false⟩ ∧ t = (beN (tVal ⟨t, false⟩).length 2 ++ tVal ⟨t, false⟩) ++ r := by
  have hb : ¬ tBad ⟨t, false⟩ := fun hc => by rw [tNext_bad hc] at h; cases h
  have hn : (rNext ⟨t, false⟩ 2).bad = false ∧ rVal ⟨t, false⟩ 2 ≤ (rNext ⟨t, false⟩ 2).rest.length := by
    unfold tBad at hb
    simp only [not_or] at hb
    refine ⟨by simpa using hb.1, by omega⟩
  obtain ⟨r, h1, h2⟩ := rd_split hn.1
  have hl := hn.2
  rw [h1] at hl
  have hl' : rVal ⟨t, false⟩ 2 ≤ r.length := hl
  have hv : tVal ⟨t, false⟩ = r.take (rVal ⟨t, false⟩ 2) := by rw [tVal_ok hb, h1]
  have hx : tNext ⟨t, false⟩ = ⟨r.drop (rVal ⟨t, false⟩ 2), false⟩ := by rw [tNext_ok hb, h1]
  refine ⟨_, hx, ?_⟩
  rw [hv, List.length_take, Nat.min_eq_left hl', List.append_assoc, List.take_append_drop]
  exact h2
theorem bad_next {s : R} {k : Nat} (h : (rNext s k).bad = false) : s.bad = false := (rNext_good h).1
theorem bad_tnext {s : R} (h : (tNext s).bad = false) : s.bad = false := by
  cases hb : s.bad with
  | false => rfl
  | true =>
    have h1 : (rNext s 2).bad = true := by rw [rNext_bad (.inl hb)]
    rw [tNext_bad (.inl h1)] at h; cases h
theorem rq_told {t : List UInt8} (h : rdOk t = true) : (rdRq t).right = true ∧ textQ (rdRq t).c (rdRq t).s (rdRq t).kind (rdRq t).key (rdRq t).b (rdRq t).id = t := by
  simp only [rdOk, Bool.and_eq_true, decide_eq_true_eq] at h
  obtain ⟨⟨⟨h1, h2⟩, h3⟩, h4⟩ := h
  refine ⟨h4, ?_⟩
  obtain ⟨f1, f2⟩ := from_canon h3
  obtain ⟨g7, g8⟩ : (q7 t).bad = false ∧ (q7 t).rest = [] := by
    cases hb : (q7 t).bad with
    | true => rw [endE, if_pos hb] at h1; omega
    | false =>
      rw [endE, if_neg (by simp [hb])] at h1
      split at h1
      · omega
      · rename_i hr
        exact ⟨rfl, List.eq_nil_of_length_eq_zero (by omega)⟩
  have g6 := bad_next (s := q6 t) (k := 1) g7
  have g5 := bad_next (s := q5 t) (k := 8) g6
  have g4 := bad_tnext (s := q4 t) g5
  have g3 := bad_next (s := q3 t) (k := 1) g4
  have g2 := bad_next (s := q2 t) (k := 4) g3
  have g1 := bad_next (s := q1 t) (k := 1) g2
  obtain ⟨r1, e1, t1⟩ := rd_split (t := t) (k := 1) g1
  have e1' : q1 t = ⟨r1, false⟩ := e1
  rw [q2, e1'] at g2
  obtain ⟨r2, e2, t2⟩ := rd_split g2
  have e2' : q2 t = ⟨r2, false⟩ := by rw [q2, e1']; exact e2
  rw [q3, e2'] at g3
  obtain ⟨r3, e3, t3⟩ := rd_split g3
  have e3' : q3 t = ⟨r3, false⟩ := by rw [q3, e2']; exact e3
  rw [q4, e3'] at g4
  obtain ⟨r4, e4, t4⟩ := rd_split g4
  have e4' : q4 t = ⟨r4, false⟩ := by rw [q4, e3']; exact e4
  rw [q5, e4'] at g5
  obtain ⟨r5, e5, t5⟩ := rd_tsplit g5
  have e5' : q5 t = ⟨r5, false⟩ := by rw [q5, e4']; exact e5
  rw [q6, e5'] at g6
  obtain ⟨r6, e6, t6⟩ := rd_split g6
  have e6' : q6 t = ⟨r6, false⟩ := by rw [q6, e5']; exact e6
  rw [q7, e6'] at g7
  obtain ⟨r7, e7, t7⟩ := rd_split g7
  have e7' : q7 t = ⟨r7, false⟩ := by rw [q7, e6']; exact e7
  rw [e7'] at g8
  have g8' : r7 = [] := g8
  have hd : rVal ⟨t, false⟩ 1 = 1 := h2
  have hc : (canonB (rdRq t).b) = rVal ⟨r5, false⟩ 8 := by
    show canonB (fromV (qReal t)) = _
    rw [f1, f2, qReal, e5']
  have hk : (rdRq t).key.size = (tVal ⟨r4, false⟩).length := by
    show (⟨(tVal (q4 t)).toArray⟩ : ByteArray).size = _
    rw [e4']; simp [ByteArray.size]
  have hkd : (rdRq t).key.data.toList = tVal ⟨r4, false⟩ := by
    show (tVal (q4 t)).toArray.toList = _
    rw [e4']
  have n1 : (rdRq t).c.toNat = rVal ⟨r1, false⟩ 1 := by show ((rVal (q1 t) 1 : Nat) : Int).toNat = _; rw [e1']; omega
  have n2 : (rdRq t).s.toNat = rVal ⟨r2, false⟩ 4 := by show ((rVal (q2 t) 4 : Nat) : Int).toNat = _; rw [e2']; omega
  have n3 : (rdRq t).kind.toNat = rVal ⟨r3, false⟩ 1 := by show ((rVal (q3 t) 1 : Nat) : Int).toNat = _; rw [e3']; omega
  have n6 : (rdRq t).id.toNat = rVal ⟨r6, false⟩ 1 := by show ((rVal (q6 t) 1 : Nat) : Int).toNat = _; rw [e6']; omega
  rw [textQ, n1, n2, n3, n6, hc, hk, hkd]
  rw [hd] at t1
  rw [g8', List.append_nil] at t7
  conv => rhs; rw [t1, t2, t3, t4, t5, t6, t7]
  simp only [List.append_assoc]
end Go.Proofs.Ytnmhmbfhaiaaoaa
