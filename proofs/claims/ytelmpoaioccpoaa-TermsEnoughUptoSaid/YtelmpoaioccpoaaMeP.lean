
/- Two proofs meet: plain. -/
import Derived.Test.YtelmpoaioccpoaaVw9
namespace Go.Proofs.Ytelmpoaioccpoaa
set_option maxRecDepth 100000
open Go.RowKit
set_option linter.unusedVariables false
set_option linter.unusedSimpArgs false

/-- How many pairs have one signer: row by row. -/
def hitsR (x : Int) (b : List Sg) : Nat := (b.filter fun s => decide (x = s.1)).length
def hits : List Sg → List Sg → Nat
  | [], _ => 0
  | s :: r, b => hitsR s.1 b + hits r b
theorem hits_snoc (a : List Sg) (s : Sg) (b : List Sg) : hits (a ++ [s]) b = hits a b + hitsR s.1 b := by
  induction a with
  | nil => simp [hits]
  | cons y r ih => rw [List.cons_append, hits, hits, ih]; omega
theorem hitsR_snoc (x : Int) (b : List Sg) (s : Sg) : hitsR x (b ++ [s]) = hitsR x b + if x = s.1 then 1 else 0 := by
  rw [hitsR, List.filter_append, List.length_append, ← hitsR]
  by_cases h : x = s.1 <;> simp [h]
theorem hitsR_le (x : Int) (b : List Sg) : hitsR x b ≤ b.length := List.length_filter_le _ _
theorem hits_le : ∀ (a b : List Sg), hits a b ≤ a.length * b.length
  | [], b => by simp [hits]
  | s :: r, b => by
    rw [hits, List.length_cons, Nat.add_mul, Nat.one_mul]
    have := hits_le r b
    have := hitsR_le s.1 b
    omega
theorem hitsR_pos {x : Int} {b : List Sg} (h : x ∈ b.map (·.1)) : 1 ≤ hitsR x b := by
  obtain ⟨s, hs, rfl⟩ := List.mem_map.1 h
  have : s ∈ b.filter fun s' => decide (s.1 = s'.1) := by simp [hs]
  exact List.length_pos_of_mem this
theorem hits_ge (a b : List Sg) : ((a.map (·.1)).filter fun x => decide (x ∈ b.map (·.1))).length ≤ hits a b := by
  induction a with
  | nil => simp [hits]
  | cons s r ih =>
    rw [List.map_cons, List.filter_cons, hits]
    by_cases h : s.1 ∈ b.map (·.1)
    · have := hitsR_pos h
      rw [if_pos (by simpa using h), List.length_cons]; omega
    · rw [if_neg (by simpa using h)]; omega
theorem up_fact {l : List Int} {text : ByteArray} : ∀ {sigs : List Sg} {z : Int}, sigsUp l text z sigs = true → (∀ s ∈ sigs, z < s.1 ∧ s.1 ∈ l) ∧ (sigs.map (·.1)).Nodup
  | [], z, _ => ⟨fun s hs => (by cases hs), List.nodup_nil⟩
  | s :: r, z, h => by
    unfold sigsUp at h
    by_cases hc : s.2 = text ∧ z < s.1 ∧ hasB l s.1 = true
    · rw [if_pos hc] at h
      obtain ⟨h1, h2⟩ := up_fact h
      have hm : s.1 ∈ l := by
        have := hc.2.2
        simp only [hasB, List.any_eq_true, beq_iff_eq] at this
        obtain ⟨y, hy, he⟩ := this
        rw [he]; exact hy
      refine ⟨fun y hy => ?_, ?_⟩
      · rcases List.mem_cons.1 hy with rfl | hy
        · exact ⟨hc.2.1, hm⟩
        · have := h1 y hy
          exact ⟨by omega, this.2⟩
      · rw [List.map_cons, List.nodup_cons]
        refine ⟨fun hin => ?_, h2⟩
        obtain ⟨y, hy, he⟩ := List.mem_map.1 hin
        have := (h1 y hy).1
        omega
    · rw [if_neg hc] at h; cases h
theorem meet {e : Int} {l : List Int} {ta tb : ByteArray} {a b : List Sg} (ha : provesB e l ta a = true) (hb : provesB e l tb b = true) :
    weakP l.length ≤ hits a b ∧ faultsP l.length < hits a b := by
  unfold provesB at ha hb
  simp only [Bool.and_eq_true, decide_eq_true_eq] at ha hb
  obtain ⟨⟨⟨hr, _⟩, qa⟩, ua⟩ := ha
  obtain ⟨⟨_, qb⟩, ub⟩ := hb
  obtain ⟨a1, a2⟩ := up_fact ua
  obtain ⟨b1, b2⟩ := up_fact ub
  have hl : ¬ ((l.length : Int) < 1) := by
    intro h
    have h0 : l.length = 0 := by omega
    rw [List.eq_nil_of_length_eq_zero h0] at hr
    simp [rightB, risingB] at hr
  have h1 := hits_ge a b
  have h2 : (((a.map (·.1)).filter fun x => decide (x ∉ b.map (·.1))) ++ b.map (·.1)).length ≤ l.length := by
    refine nodup_le ?_ (fun x hx => ?_)
    · rw [List.nodup_append]
      refine ⟨a2.filter _, b2, fun x hx y hy => ?_⟩
      rw [List.mem_filter] at hx
      intro he
      subst he
      have := hx.2
      simp at this
      obtain ⟨s, hs, rfl⟩ := List.mem_map.1 hy
      exact this s.2 hs
    · rw [List.mem_append, List.mem_filter] at hx
      rcases hx with hx | hx
      · obtain ⟨s, hs, rfl⟩ := List.mem_map.1 hx.1
        exact (a1 s hs).2
      · obtain ⟨s, hs, rfl⟩ := List.mem_map.1 hx
        exact (b1 s hs).2
  have h3 : ((a.map (·.1)).filter fun x => decide (x ∈ b.map (·.1))).length + ((a.map (·.1)).filter fun x => decide (x ∉ b.map (·.1))).length = a.length := by
    have h5 : ∀ (m : List Int) (p : Int → Bool), (m.filter p).length + (m.filter fun x => !p x).length = m.length := fun m p => by
      induction m with
      | nil => rfl
      | cons y r ih =>
        rw [List.filter_cons, List.filter_cons]
        cases p y <;> simp <;> omega
    have := h5 (a.map (·.1)) (fun x => decide (x ∈ b.map (·.1)))
    rw [List.length_map] at this
    rw [← this]
    congr 2
    simp
  rw [List.length_append, List.length_map] at h2
  have h4 := faultsP_bd _ hl
  rw [quorumP_hi _ hl] at qa qb
  rw [weakP_hi _ hl]
  omega
end Go.Proofs.Ytelmpoaioccpoaa
