/- Plain law: who joined and leaves leaves the members as they were, and the other way round. No program in sight. -/
import Derived.Test.YtgkcgfckhmplaaaJoP
namespace Go.Proofs.Ytgkcgfckhmplaaa

theorem upFrom_of : ∀ (l : List Int) (z : Int), l.Pairwise (· < ·) → (∀ x ∈ l, z < x ∧ x < 16) → upFrom z l = true
  | [], _, _, _ => rfl
  | y :: r, z, hp, hr => by
    rw [List.pairwise_cons] at hp
    have hy := hr y (List.mem_cons_self ..)
    rw [upFrom_go z y r (by omega)]
    exact upFrom_of r y hp.2 fun x hx => ⟨hp.1 x hx, (hr x (List.mem_cons_of_mem _ hx)).2⟩
theorem risingB_of {l : List Int} (hp : l.Pairwise (· < ·)) (hr : ∀ x ∈ l, 0 ≤ x ∧ x < 16) (h1 : 4 ≤ l.length) (h2 : l.length ≤ 10) : risingB l = true := by
  simp only [risingB, Bool.and_eq_true, decide_eq_true_eq]
  exact ⟨⟨upFrom_of l (-1) hp fun x hx => by have := hr x hx; omega, h1⟩, h2⟩
structure BackJ (l : List Int) (id other : Int) (l' : List Int) : Prop where
  ris : risingB l = true
  ris' : risingB l' = true
  has : hasB l' id = true
  other : hasB l' other = (other == id || hasB l other)
  err : leaveE l' id = 0
  back : leaveP l' id = l

theorem fitsB_mk {l : List Int} {id : Int} (h : risingB l = true) (h0 : 0 ≤ id) (h1 : id < 16) : fitsB l id = true := by simp [fitsB, h, h0, h1]

theorem back_join {l : List Int} {id : Int} (other : Int) (h : joinE l id = 0) : BackJ l id other (joinP l id) := by
  obtain ⟨hf, hh, hl⟩ := joinE_0 h
  obtain ⟨hr, h0, h1⟩ := fitsB_ris hf
  have hlen := risingB_len hr
  have hrl := risingB_range hr
  have hpw := joinP_pw h
  have hlen' : (joinP l id).length = l.length + 1 := by rw [joinP_ok h]; simp; have := posP_le l id; omega
  have hmem := joinP_mem h
  have hr' : risingB (joinP l id) = true := risingB_of hpw (fun x hx => by
    rcases (hmem x).1 hx with rfl | hx
    · exact ⟨h0, h1⟩
    · exact hrl x hx) (by omega) (by omega)
  have hid : hasB (joinP l id) id = true := (hasB_mem_iff _ _).2 ((hmem id).2 (.inl rfl))
  have herr : leaveE (joinP l id) id = 0 := by
    unfold leaveE
    rw [fitsB_mk hr' h0 h1, hid, if_neg (by simp), if_neg (by simp), if_neg (by omega)]
  refine ⟨hr, hr', hid, ?_, herr, ?_⟩
  · rw [Bool.eq_iff_iff, hasB_mem_iff, hmem]; simp [hasB_mem_iff]
  · rw [← dropP_leave herr]
    refine sorted_ext _ _ (hpw.sublist (List.filter_sublist)) (incP_pairwise (incP_of hr)) fun x => ?_
    rw [dropP, List.mem_filter, hmem]
    have hne : x ∈ l → x ≠ id := by rintro hx rfl; rw [(hasB_mem_iff l x).2 hx] at hh; cases hh
    simp only [bne_iff_ne]
    constructor
    · rintro ⟨rfl | h, h2⟩
      · exact absurd rfl h2
      · exact h
    · intro hx; exact ⟨.inr hx, hne hx⟩

structure BackL (l : List Int) (id other : Int) (l' : List Int) : Prop where
  ris : risingB l = true
  has : hasB l' id = false
  other : hasB l' other = (other != id && hasB l other)
  err : joinE l' id = 0
  back : joinP l' id = l

theorem back_leave {l : List Int} {id : Int} (other : Int) (h : leaveE l id = 0) : BackL l id other (leaveP l id) := by
  obtain ⟨hf, hh, hl⟩ := leaveE_0 h
  obtain ⟨hr, h0, h1⟩ := fitsB_ris hf
  have hlen := risingB_len hr
  have hrl := risingB_range hr
  have hpw := incP_pairwise (incP_of hr)
  have hd := dropP_leave h
  have hmem : ∀ x, x ∈ leaveP l id ↔ (x ≠ id ∧ x ∈ l) := fun x => by
    rw [← hd, dropP, List.mem_filter]; simp [and_comm]
  have hpw' : (leaveP l id).Pairwise (· < ·) := by rw [← hd]; exact hpw.sublist (List.filter_sublist)
  have hlen' : (leaveP l id).length + 1 = l.length := by
    rw [leaveP_ok h]; simp; have := (leave_split h).1; omega
  have hr' : risingB (leaveP l id) = true := risingB_of hpw' (fun x hx => hrl x ((hmem x).1 hx).2) (by omega) (by omega)
  have hno : hasB (leaveP l id) id = false := by
    cases hx : hasB (leaveP l id) id with
    | false => rfl
    | true => exact absurd rfl ((hmem id).1 ((hasB_mem_iff _ _).1 hx)).1
  have herr : joinE (leaveP l id) id = 0 := by
    unfold joinE
    rw [fitsB_mk hr' h0 h1, hno, if_neg (by simp), if_neg (by simp), if_neg (by omega)]
  refine ⟨hr, hno, ?_, herr, ?_⟩
  · rw [Bool.eq_iff_iff, hasB_mem_iff, hmem]; simp [hasB_mem_iff]
  · refine sorted_ext _ _ (joinP_pw herr) hpw fun x => ?_
    rw [joinP_mem herr, hmem]
    constructor
    · rintro (rfl | h)
      · exact (hasB_mem_iff _ _).1 hh
      · exact h.2
    · intro hx
      by_cases he : x = id
      · exact .inl he
      · exact .inr ⟨he, hx⟩
theorem rightB_same {l l' : List Int} (e : Int) (h : risingB l = true) (h' : risingB l' = true) : rightB e l' = rightB e l := by simp [rightB, h, h']
end Go.Proofs.Ytgkcgfckhmplaaa
