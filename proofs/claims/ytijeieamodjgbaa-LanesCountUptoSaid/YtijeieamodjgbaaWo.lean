
/- Wire: what fits asks, kind for kind. No walk. -/
import Derived.Test.YtijeieamodjgbaaWd
namespace Go.Proofs.Ytijeieamodjgbaa
set_option maxRecDepth 100000
open Go.RowKit Go.Deep
set_option linter.unusedVariables false
set_option linter.unusedSimpArgs false

theorem zeroRq_nil : zeroRq.nil = true := by decide
theorem canon_zero : canonB 0 = 0 := by decide
theorem ok_9 {m : Mg} (h : m.k = 9) : okM m = emptyB { m with e := 0 } := by
  unfold okM
  rw [if_neg (by omega), if_neg (by omega), if_neg (by omega), if_neg (by omega), if_neg (by omega), if_neg (by omega), if_neg (by omega), if_neg (by omega), if_pos h, Bool.eq_iff_iff]
  simp only [restB, emptyB, Bool.and_eq_true, Bool.or_eq_true, decide_eq_true_eq, Bool.false_eq_true, false_or, true_or, true_and]
  constructor
  · rintro ⟨⟨⟨⟨⟨⟨⟨⟨h1, h2⟩, h3⟩, h4, h5⟩, h6⟩, h7⟩, h8⟩, h9⟩, h10⟩
    exact ⟨⟨⟨⟨⟨h1, h2, by omega⟩, h6⟩, h3⟩, h4⟩, h5⟩
  · rintro ⟨⟨⟨⟨⟨h1, h2, hl⟩, h6⟩, h3⟩, h4⟩, h5⟩
    exact ⟨⟨⟨⟨⟨⟨⟨⟨h1, h2⟩, h3⟩, h4, h5⟩, h6⟩, by omega⟩, by omega⟩, by omega⟩, by omega⟩
theorem spot_rest (m : Mg) : restB { v := true, s := true, q := true, sg := true } m = emptyB { m with e := 0, v := 0, s := 0, q := zeroRq, sg := [] } := by
  rw [Bool.eq_iff_iff]
  simp only [restB, emptyB, Bool.and_eq_true, Bool.or_eq_true, decide_eq_true_eq, Bool.false_eq_true, false_or, true_or, true_and, zeroRq_nil, and_true, List.length_nil]
  constructor
  · rintro ⟨⟨⟨⟨⟨h4, h5⟩, h6⟩, h7⟩, h9⟩, h10⟩
    exact ⟨⟨⟨by omega, h6⟩, h4⟩, h5⟩
  · rintro ⟨⟨⟨hl, h6⟩, h4⟩, h5⟩
    exact ⟨⟨⟨⟨⟨h4, h5⟩, h6⟩, by omega⟩, by omega⟩, by omega⟩
theorem turn_rest (m : Mg) : restB { v := true, ch := true } m = emptyB { m with e := 0, v := 0, ch := [] } := by
  rw [Bool.eq_iff_iff]
  simp only [restB, emptyB, Bool.and_eq_true, Bool.or_eq_true, decide_eq_true_eq, Bool.false_eq_true, false_or, true_or, true_and, and_true, List.length_nil]
  constructor
  · rintro ⟨⟨⟨⟨⟨⟨h2, h3⟩, h4, h5⟩, h6⟩, h7⟩, h8⟩, h10⟩
    exact ⟨⟨⟨⟨⟨h2, by omega⟩, h6⟩, h3⟩, h4⟩, h5⟩
  · rintro ⟨⟨⟨⟨⟨h2, hl⟩, h6⟩, h3⟩, h4⟩, h5⟩
    exact ⟨⟨⟨⟨⟨⟨h2, h3⟩, h4, h5⟩, h6⟩, by omega⟩, by omega⟩, by omega⟩
theorem ok_4 {m : Mg} (h : m.k = 4) : okM m = (spotB m && emptyB { m with e := 0, v := 0, s := 0, q := zeroRq, sg := [] }) := by
  have hw : wantN m = 0 := by unfold wantN; rw [if_neg (by omega)]
  unfold okM
  rw [if_neg (by omega), if_neg (by omega), if_neg (by omega), if_pos h, spot_rest]
  simp only [spotB, hw]
theorem ok_3 {m : Mg} (h : m.k = 3) : okM m = (spotB m && emptyB { m with e := 0, v := 0, s := 0, q := zeroRq, sg := [] }) := by
  have hw : wantN m = 1 := by unfold wantN; rw [if_pos (.inl h)]
  unfold okM
  rw [if_neg (by omega), if_neg (by omega), if_pos h, spot_rest]
  simp only [spotB, hw]
theorem ok_7 {m : Mg} (h : m.k = 7) : okM m = (turnB m && emptyB { m with e := 0, v := 0, ch := [] }) := by
  unfold okM
  rw [if_neg (by omega), if_neg (by omega), if_neg (by omega), if_neg (by omega), if_neg (by omega), if_neg (by omega), if_pos h, turn_rest]
  simp only [turnB, show decide (m.k = 6) = false from decide_eq_false (by omega), Bool.false_and, Bool.not_false, Bool.and_true]
theorem ok_6 {m : Mg} (h : m.k = 6) : okM m = (turnB m && emptyB { m with e := 0, v := 0, ch := [] }) := by
  unfold okM
  rw [if_neg (by omega), if_neg (by omega), if_neg (by omega), if_neg (by omega), if_neg (by omega), if_pos h, turn_rest]
  congr 1
  simp only [turnB, show decide (m.k = 6) = true from decide_eq_true h, Bool.true_and]
  congr 1
  rw [Bool.eq_iff_iff]
  simp only [Bool.and_eq_true, decide_eq_true_eq, Bool.not_eq_true', decide_eq_false_iff_not]
  omega
theorem ok_2 {m : Mg} (h : m.k = 2) : okM m = (spotB m && emptyB { m with e := 0, v := 0, s := 0, q := zeroRq, sg := [] }) := by
  unfold okM
  rw [if_neg (by omega), if_pos h, spot_rest]
  congr 1
  have hex : m.q.right = true → m.q.nil = false := by
    intro hr
    have h1 : 1 ≤ m.q.c := by
      simp only [Rq.right, rightQ, Bool.and_eq_true, decide_eq_true_eq] at hr
      exact hr.1.1.1
    have : m.q.nil = (decide (m.q.c = 0) && decide (m.q.s = 0) && decide (m.q.kind = 0) && decide (m.q.id = 0) && decide (m.q.key.size = 0) && noneB m.q.b) := rfl
    rw [this, decide_eq_false (show ¬ m.q.c = 0 by omega)]
    rfl
  unfold spotB
  cases hn : m.q.nil
  · have hw : wantN m = 1 := by unfold wantN; rw [if_pos (.inr ⟨h, hn⟩)]
    rw [hw]
    simp [askB, hn, Bool.and_assoc]
  · have hw : wantN m = 0 := by unfold wantN; rw [if_neg (by rintro (h1 | h1); omega; rw [hn] at h1; cases h1.2)]
    have hr : m.q.right = false := by
      cases hr : m.q.right
      · rfl
      · rw [hex hr] at hn; cases hn
    rw [hw]
    simp [askB, hn, hr, Bool.and_assoc]
theorem ok_1 {m : Mg} (h : m.k = 1) : okM m = ((m.q.right && decide (m.sg.length = 1)) && emptyB { m with q := zeroRq, sg := [] }) := by
  unfold okM
  rw [if_pos h, Bool.eq_iff_iff]
  simp only [restB, emptyB, Bool.and_eq_true, Bool.or_eq_true, decide_eq_true_eq, Bool.false_eq_true, false_or, true_or, true_and, zeroRq_nil, and_true, List.length_nil]
  constructor
  · rintro ⟨⟨⟨h0, hr⟩, hl⟩, ⟨⟨⟨⟨⟨h1, h2⟩, h4, h5⟩, h6⟩, h7⟩, h9⟩, h10⟩
    exact ⟨⟨hr, hl⟩, ⟨⟨⟨h0, h1, h2, by omega⟩, h6⟩, h4⟩, h5⟩
  · rintro ⟨⟨hr, hl⟩, ⟨⟨⟨h0, h1, h2, hs⟩, h6⟩, h4⟩, h5⟩
    exact ⟨⟨⟨h0, hr⟩, hl⟩, ⟨⟨⟨⟨⟨h1, h2⟩, h4, h5⟩, h6⟩, by omega⟩, by omega⟩, by omega⟩
theorem ok_8 {m : Mg} (h : m.k = 8) : okM m = ((m.q.right && decide (0 ≤ m.c) && decide (m.c ≤ 8)) && emptyB { m with e := 0, q := zeroRq, c := 0, r := 0 }) := by
  unfold okM
  rw [if_neg (by omega), if_neg (by omega), if_neg (by omega), if_neg (by omega), if_neg (by omega), if_neg (by omega), if_neg (by omega), if_pos h]
  congr 1
  rw [Bool.eq_iff_iff]
  simp only [restB, emptyB, Bool.and_eq_true, Bool.or_eq_true, decide_eq_true_eq, Bool.false_eq_true, false_or, true_or, true_and, zeroRq_nil, canon_zero, and_true, List.length_nil]
  constructor
  · rintro ⟨⟨⟨⟨⟨⟨h1, h2⟩, h6⟩, h7⟩, h8⟩, h9⟩, h10⟩
    exact ⟨⟨h1, h2, by omega⟩, h6⟩
  · rintro ⟨⟨h1, h2, hl⟩, h6⟩
    exact ⟨⟨⟨⟨⟨⟨h1, h2⟩, h6⟩, by omega⟩, by omega⟩, by omega⟩, by omega⟩
theorem ok_5 {m : Mg} (h : m.k = 5) : okM m = ((decide (m.s = 4 * m.e + 4) && decide (m.t.size ≠ 0) && risingB m.nx && decide (m.sg.length = 2)) && emptyB { m with e := 0, s := 0, t := ⟨#[]⟩, nx := [], sg := [] }) := by
  unfold okM
  rw [if_neg (by omega), if_neg (by omega), if_neg (by omega), if_neg (by omega), if_pos h]
  congr 1
  rw [Bool.eq_iff_iff]
  simp only [restB, emptyB, Bool.and_eq_true, Bool.or_eq_true, decide_eq_true_eq, Bool.false_eq_true, false_or, true_or, true_and, and_true, List.length_nil, show (⟨#[]⟩ : ByteArray).size = 0 from rfl]
  constructor
  · rintro ⟨⟨⟨⟨h1, h3⟩, h4, h5⟩, h9⟩, h10⟩
    exact ⟨⟨⟨⟨h1, by omega⟩, h3⟩, h4⟩, h5⟩
  · rintro ⟨⟨⟨⟨h1, hl⟩, h3⟩, h4⟩, h5⟩
    exact ⟨⟨⟨⟨h1, h3⟩, h4, h5⟩, by omega⟩, by omega⟩
theorem ok_10 {m : Mg} (h : m.k = 10) : okM m = ((decide (0 < m.e) && decide (m.s = 4 * m.e) && decide (m.t.size ≠ 0) && (decide ((m.lk.length : Int) = m.e) && linksB 0 m.lk)) && emptyB { m with e := 0, s := 0, t := ⟨#[]⟩, lk := [], sg := [] }) := by
  unfold okM
  rw [if_neg (by omega), if_neg (by omega), if_neg (by omega), if_neg (by omega), if_neg (by omega), if_neg (by omega), if_neg (by omega), if_neg (by omega), if_neg (by omega), if_pos h]
  rw [show (decide (0 < m.e) && decide (m.s = 4 * m.e) && decide (m.t.size ≠ 0) && decide ((m.lk.length : Int) = m.e) && linksB 0 m.lk) = (decide (0 < m.e) && decide (m.s = 4 * m.e) && decide (m.t.size ≠ 0) && (decide ((m.lk.length : Int) = m.e) && linksB 0 m.lk)) by simp only [Bool.and_assoc]]
  congr 1
  rw [Bool.eq_iff_iff]
  simp only [restB, emptyB, Bool.and_eq_true, Bool.or_eq_true, decide_eq_true_eq, Bool.false_eq_true, false_or, true_or, true_and, and_true, List.length_nil, show (⟨#[]⟩ : ByteArray).size = 0 from rfl]
  constructor
  · rintro ⟨⟨⟨⟨h1, h3⟩, h4, h5⟩, h7⟩, h9⟩
    exact ⟨⟨⟨⟨h1, by omega⟩, h3⟩, h4⟩, h5⟩
  · rintro ⟨⟨⟨⟨h1, hl⟩, h3⟩, h4⟩, h5⟩
    exact ⟨⟨⟨⟨h1, h3⟩, h4, h5⟩, by omega⟩, by omega⟩
end Go.Proofs.Ytijeieamodjgbaa
