
/- Requests' texts there and back: plain. No program in sight. -/
import Derived.Test.YtnmhmbfhaiaaoaaDrP
namespace Go.Proofs.Ytnmhmbfhaiaaoaa
set_option maxRecDepth 100000
open Go.RowKit
set_option linter.unusedVariables false
set_option linter.unusedSimpArgs false

theorem rd_text (t r : List UInt8) (hn : t.length ≤ 65535) : tVal ⟨(beN t.length 2 ++ t) ++ r, false⟩ = t ∧ tNext ⟨(beN t.length 2 ++ t) ++ r, false⟩ = ⟨r, false⟩ := by
  rw [List.append_assoc]
  obtain ⟨h1, h2⟩ := rd_beN t.length 2 (t ++ r) (by omega)
  have hb : ¬ tBad ⟨beN t.length 2 ++ (t ++ r), false⟩ := by
    unfold tBad
    rw [h1, h2]
    simp
  rw [tVal_ok hb, tNext_ok hb, h1, h2]
  refine ⟨?_, ?_⟩
  · show (t ++ r).take t.length = t
    rw [List.take_append_of_le_length (by omega), List.take_of_length_le (by omega)]
  · show (⟨(t ++ r).drop t.length, false⟩ : R) = ⟨r, false⟩
    rw [List.drop_append_of_le_length (by omega), List.drop_of_length_le (by omega), List.nil_append]
/-- A request as it comes back: its real by the bits that are told. -/
def Rq.canon (r : Rq) : Rq := ⟨r.c, r.s, r.kind, r.key, canonB r.b, r.id⟩
theorem noneB_canon (b : Nat) : noneB (canonB b) = noneB b := by unfold noneB; rw [canon_idem]
theorem right_canon (r : Rq) : r.canon.right = r.right := by
  unfold Rq.right Rq.canon rightQ opB noKeyB
  dsimp only
  rw [noneB_canon]
theorem rq_back (r : Rq) (hr : r.right = true) (hb : r.b < 18446744073709551616) : rdOk (textQ r.c r.s r.kind r.key r.b r.id) = true ∧ rdRq (textQ r.c r.s r.kind r.key r.b r.id) = r.canon := by
  obtain ⟨c1, c2, s1, s2, k1, k2, z1, i1, i2⟩ := rightQ_parts hr
  have hcb := canonB_lt hb
  obtain ⟨f1, f2⟩ := canon_from r.b
  have hkl : r.key.size = r.key.data.toList.length := (Array.length_toList).symm
  have hT : textQ r.c r.s r.kind r.key r.b r.id = beN 1 1 ++ (beN r.c.toNat 1 ++ (beN r.s.toNat 4 ++ (beN r.kind.toNat 1 ++ ((beN r.key.data.toList.length 2 ++ r.key.data.toList) ++ (beN (canonB r.b) 8 ++ (beN r.id.toNat 1 ++ [])))))) := by
    rw [textQ, hkl, List.append_nil]
    simp only [List.append_assoc]
  rw [hT]
  obtain ⟨a1, b1⟩ := rd_beN 1 1 (beN r.c.toNat 1 ++ (beN r.s.toNat 4 ++ (beN r.kind.toNat 1 ++ ((beN r.key.data.toList.length 2 ++ r.key.data.toList) ++ (beN (canonB r.b) 8 ++ (beN r.id.toNat 1 ++ [])))))) (by omega)
  obtain ⟨a2, b2⟩ := rd_beN r.c.toNat 1 (beN r.s.toNat 4 ++ (beN r.kind.toNat 1 ++ ((beN r.key.data.toList.length 2 ++ r.key.data.toList) ++ (beN (canonB r.b) 8 ++ (beN r.id.toNat 1 ++ []))))) (by omega)
  obtain ⟨a3, b3⟩ := rd_beN r.s.toNat 4 (beN r.kind.toNat 1 ++ ((beN r.key.data.toList.length 2 ++ r.key.data.toList) ++ (beN (canonB r.b) 8 ++ (beN r.id.toNat 1 ++ [])))) (by omega)
  obtain ⟨a4, b4⟩ := rd_beN r.kind.toNat 1 ((beN r.key.data.toList.length 2 ++ r.key.data.toList) ++ (beN (canonB r.b) 8 ++ (beN r.id.toNat 1 ++ []))) (by omega)
  obtain ⟨a5, b5⟩ := rd_text r.key.data.toList (beN (canonB r.b) 8 ++ (beN r.id.toNat 1 ++ [])) (by omega)
  obtain ⟨a6, b6⟩ := rd_beN (canonB r.b) 8 (beN r.id.toNat 1 ++ []) (by omega)
  obtain ⟨a7, b7⟩ := rd_beN r.id.toNat 1 [] (by omega)
  generalize beN 1 1 ++ (beN r.c.toNat 1 ++ (beN r.s.toNat 4 ++ (beN r.kind.toNat 1 ++ ((beN r.key.data.toList.length 2 ++ r.key.data.toList) ++ (beN (canonB r.b) 8 ++ (beN r.id.toNat 1 ++ [])))))) = T at *
  have e1 : q1 T = rNext ⟨T, false⟩ 1 := rfl
  rw [b1] at e1
  have e2 : q2 T = rNext (q1 T) 1 := rfl
  rw [e1, b2] at e2
  have e3 : q3 T = rNext (q2 T) 4 := rfl
  rw [e2, b3] at e3
  have e4 : q4 T = rNext (q3 T) 1 := rfl
  rw [e3, b4] at e4
  have e5 : q5 T = tNext (q4 T) := rfl
  rw [e4, b5] at e5
  have e6 : q6 T = rNext (q5 T) 8 := rfl
  rw [e5, b6] at e6
  have e7 : q7 T = rNext (q6 T) 1 := rfl
  rw [e6, b7] at e7
  have v5 : qReal T = canonB r.b := by rw [qReal, e5]; exact a6
  have hR : rdRq T = r.canon := by
    rw [rdRq, v5, f1, e1, e2, e3, e4, e6, a2, a3, a4, a5, a7]
    unfold Rq.canon
    rw [show ((r.c.toNat : Nat) : Int) = r.c by omega, show ((r.s.toNat : Nat) : Int) = r.s by omega, show ((r.kind.toNat : Nat) : Int) = r.kind by omega, show ((r.id.toNat : Nat) : Int) = r.id by omega]
  refine ⟨?_, hR⟩
  rw [rdOk, e7, v5, f2, hR, right_canon, hr, show qHead T = 1 from a1]
  rfl
end Go.Proofs.Ytnmhmbfhaiaaoaa
