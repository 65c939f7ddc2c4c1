
/- Tallies of votes: plain. -/
import Derived.Test.YtfhbjajhmegdmaaVt2
import Derived.Test.YtfhbjajhmegdmaaNum
namespace Go.Proofs.Ytfhbjajhmegdmaa
set_option maxRecDepth 100000
open Go.RowKit
set_option linter.unusedVariables false
set_option linter.unusedSimpArgs false

/-- A vote: whose, the state's bytes, the members to be. -/
abbrev Vt := Int × ByteArray × List Int
def addE (e : Int) (l : List Int) (V : List Vt) (x : Int) (t : ByteArray) (nx : List Int) (sigs : List Sg) : Int :=
  if vGood e l t nx = false then 1 else if hasB l x = false then 8 else if sigs = [(x, stS e t), (x, textS (e + 1) nx)] then (if V.any (fun v => v.1 == x) = true then 7 else 0) else 16
def addV (e : Int) (l : List Int) (V : List Vt) (x : Int) (t : ByteArray) (nx : List Int) (sigs : List Sg) : List Vt := if addE e l V x t nx sigs = 0 then V ++ [(x, t, nx)] else V
structure VOk (e : Int) (l : List Int) (V : List Vt) : Prop where
  right : rightB e l = true
  good : ∀ v ∈ V, vGood e l v.2.1 v.2.2 = true ∧ v.1 ∈ l ∧ v.2.1.size ≤ 140737488355328
  nodup : (V.map (·.1)).Nodup
theorem VOk.nil {e : Int} {l : List Int} (h : rightB e l = true) : VOk e l [] := ⟨h, fun v hv => (by cases hv), by simp⟩
theorem hasB_iff15 {l : List Int} {x : Int} : hasB l x = true ↔ x ∈ l := by
  constructor
  · intro h
    simp only [hasB, List.any_eq_true, beq_iff_eq] at h
    obtain ⟨y, hy, rfl⟩ := h
    exact hy
  · exact hasB_mem
theorem any_iff {V : List Vt} {x : Int} : V.any (fun v => v.1 == x) = true ↔ x ∈ V.map (·.1) := by
  simp only [List.any_eq_true, beq_iff_eq, List.mem_map]
theorem addE_zero {e : Int} {l : List Int} {V : List Vt} {x : Int} {t : ByteArray} {nx : List Int} {sigs : List Sg} (h : addE e l V x t nx sigs = 0) :
    vGood e l t nx = true ∧ x ∈ l ∧ sigs = [(x, stS e t), (x, textS (e + 1) nx)] ∧ x ∉ V.map (·.1) := by
  unfold addE at h
  split at h
  · omega
  · rename_i h1
    split at h
    · omega
    · rename_i h2
      split at h
      · rename_i h3
        split at h
        · omega
        · rename_i h4
          exact ⟨by simpa using h1, hasB_iff15.1 (by simpa using h2), h3, fun hc => h4 (any_iff.2 hc)⟩
      · omega
theorem VOk.add {e : Int} {l : List Int} {V : List Vt} {x : Int} {t : ByteArray} {nx : List Int} {sigs : List Sg} (h : VOk e l V) (ht : t.size ≤ 140737488355328) : VOk e l (addV e l V x t nx sigs) := by
  unfold addV
  split
  · rename_i h0
    obtain ⟨h1, h2, h3, h4⟩ := addE_zero h0
    refine ⟨h.right, fun v hv => ?_, ?_⟩
    · rw [List.mem_append, List.mem_singleton] at hv
      rcases hv with hv | rfl
      · exact h.good v hv
      · exact ⟨h1, h2, ht⟩
    · rw [List.map_append, List.nodup_append]
      refine ⟨h.nodup, by simp, ?_⟩
      intro a ha b hb
      simp at hb
      subst hb
      rintro rfl
      exact h4 ha
  · exact h
theorem nodup_le15 {α : Type} : ∀ {a b : List α}, a.Nodup → (∀ x ∈ a, x ∈ b) → a.length ≤ b.length
  | [], b, _, _ => Nat.zero_le _
  | x :: r, b, hn, hs => by
    rw [List.nodup_cons] at hn
    obtain ⟨b1, b2, rfl⟩ := List.append_of_mem (hs x (by simp))
    have ih := nodup_le15 (a := r) (b := b1 ++ b2) hn.2 (fun y hy => by
      have h1 := hs y (by simp [hy])
      rw [List.mem_append, List.mem_cons] at h1
      rw [List.mem_append]
      rcases h1 with h1 | rfl | h1
      · exact .inl h1
      · exact absurd hy hn.1
      · exact .inr h1)
    rw [List.length_append] at ih
    rw [List.length_append, List.length_cons, List.length_cons]; omega
theorem VOk.len {e : Int} {l : List Int} {V : List Vt} (h : VOk e l V) : V.length ≤ l.length := by
  rw [show V.length = (V.map (·.1)).length by rw [List.length_map]]
  exact nodup_le15 h.nodup (fun x hx => by
    obtain ⟨v, hv, rfl⟩ := List.mem_map.1 hx
    exact (h.good v hv).2.1)
theorem VOk.ten {e : Int} {l : List Int} {V : List Vt} (h : VOk e l V) : V.length ≤ 10 := Nat.le_trans h.len (risingB_len (rightB_rising h.right).2.2).2

/-- What is signed tells what is voted for. -/
def whatOf (e : Int) (v : Vt) : ByteArray × ByteArray := (stS e v.2.1, textS (e + 1) v.2.2)
theorem ba_append_inj {a b c : ByteArray} (h : a ++ b = a ++ c) : b = c := by
  have := congrArg (fun z : ByteArray => z.data.toList) h
  simp at this
  exact ByteArray.ext this
theorem stS_inj {e : Int} (h0 : 0 ≤ e) (h1 : e ≤ 60) {t t' : ByteArray} (h : stS e t = stS e t') : t = t' := by
  have hl : longOk [4 * (e + 1)] = true := by simp [longOk]; omega
  unfold stS hdText at h
  rw [if_pos hl, if_pos hl] at h
  exact ba_append_inj h
theorem byteL_inj : ∀ {l m : List Int}, (∀ x ∈ l, 0 ≤ x ∧ x < 16) → (∀ x ∈ m, 0 ≤ x ∧ x < 16) → byteL l = byteL m → l = m
  | [], [], _, _, _ => rfl
  | [], _ :: _, _, _, h => by cases h
  | _ :: _, [], _, _, h => by cases h
  | x :: l, y :: m, h1, h2, h => by
    simp only [byteL, List.map_cons, List.cons.injEq] at h
    have hx := h1 x (by simp)
    have hy := h2 y (by simp)
    have := byteL_inj (l := l) (m := m) (fun z hz => h1 z (by simp [hz])) (fun z hz => h2 z (by simp [hz])) h.2
    have e1 := congrArg UInt8.toNat h.1
    simp at e1
    rw [this]
    congr 1
    omega
theorem textS_inj {e : Int} {l m : List Int} (hl : rightB e l = true) (hm : rightB e m = true) (h : textS e l = textS e m) : l = m := by
  unfold textS at h
  rw [if_pos hl, if_pos hm] at h
  have h' : textP e l = textP e m := by
    have := congrArg (fun z : ByteArray => z.data.toList) h
    simpa using this
  rw [textP_eq, textP_eq] at h'
  have := congrArg (List.drop 4) h'
  rw [List.drop_append_of_le_length (by rw [textHead_len]; omega), List.drop_append_of_le_length (by rw [textHead_len]; omega), List.drop_of_length_le (by rw [textHead_len]; omega), List.drop_of_length_le (by rw [textHead_len]; omega), List.nil_append, List.nil_append] at this
  exact byteL_inj (risingB_range (rightB_rising hl).2.2) (risingB_range (rightB_rising hm).2.2) this
theorem vGood_parts {e : Int} {l : List Int} {t : ByteArray} {nx : List Int} (h : vGood e l t nx = true) : rightB e l = true ∧ t.size ≠ 0 ∧ rightB (e + 1) nx = true := by
  unfold vGood at h
  simp only [Bool.and_eq_true, decide_eq_true_eq] at h
  exact ⟨h.1.1, h.1.2, h.2⟩
theorem what_inj {e : Int} {l : List Int} {v w : Vt} (hv : vGood e l v.2.1 v.2.2 = true) (hw : vGood e l w.2.1 w.2.2 = true) : whatOf e v = whatOf e w ↔ v.2 = w.2 := by
  constructor
  · intro h
    obtain ⟨a1, a2, a3⟩ := vGood_parts hv
    obtain ⟨b1, b2, b3⟩ := vGood_parts hw
    obtain ⟨c1, c2, _⟩ := rightB_rising a1
    injection h with h1 h2
    exact Prod.ext (stS_inj c1 c2 h1) (textS_inj a3 b3 h2)
  · intro h
    unfold whatOf
    rw [h]
def cntW (e : Int) (V : List Vt) (s c : ByteArray) : Nat := (V.filter fun v => decide (whatOf e v = (s, c))).length
def cntC (V : List Vt) (y : ByteArray × List Int) : Nat := (V.filter fun v => decide (v.2 = y)).length
theorem cntW_snoc (e : Int) (V : List Vt) (v : Vt) (s c : ByteArray) : cntW e (V ++ [v]) s c = cntW e V s c + if whatOf e v = (s, c) then 1 else 0 := by
  unfold cntW
  rw [List.filter_append, List.length_append]
  by_cases h : whatOf e v = (s, c) <;> simp [h]
theorem cntC_snoc (V : List Vt) (v : Vt) (y : ByteArray × List Int) : cntC (V ++ [v]) y = cntC V y + if v.2 = y then 1 else 0 := by
  unfold cntC
  rw [List.filter_append, List.length_append]
  by_cases h : v.2 = y <;> simp [h]
theorem cntW_eq {e : Int} {l : List Int} {V : List Vt} (h : VOk e l V) {v : Vt} (hv : v ∈ V) : cntW e V (whatOf e v).1 (whatOf e v).2 = cntC V v.2 := by
  unfold cntW cntC
  congr 1
  apply List.filter_congr
  intro u hu
  exact decide_eq_decide.2 (what_inj (h.good u hu).1 (h.good v hv).1)
theorem cnt_two (V : List Vt) {y z : ByteArray × List Int} (hyz : y ≠ z) : cntC V y + cntC V z ≤ V.length := by
  induction V with
  | nil => simp [cntC]
  | cons v r ih =>
    have h1 : ∀ u, cntC (v :: r) u = (if v.2 = u then 1 else 0) + cntC r u := fun u => by
      unfold cntC
      by_cases h : v.2 = u
      · simp [h]; omega
      · simp [h]
    rw [h1, h1, List.length_cons]
    by_cases hy : v.2 = y
    · have hz : ¬ v.2 = z := fun h => hyz (hy.symm.trans h)
      rw [if_pos hy, if_neg hz]; omega
    · rw [if_neg hy]
      by_cases hz : v.2 = z
      · rw [if_pos hz]; omega
      · rw [if_neg hz]; omega
theorem quorum_twice {n : Nat} (h : 1 ≤ n) : (n : Int) < 2 * quorumP n := by
  have h1 := faultsP_bd (n : Int) (by omega)
  rw [quorumP_hi _ (by omega)]
  omega
theorem quorum_pos {n : Nat} (h : 1 ≤ n) : 0 < quorumP (n : Int) := by have := quorum_twice h; omega
theorem maj {e : Int} {l : List Int} {V : List Vt} (h : VOk e l V) {y z : ByteArray × List Int} (hy : quorumP l.length ≤ (cntC V y : Int)) (hz : quorumP l.length ≤ (cntC V z : Int)) : y = z := by
  by_cases hyz : y = z
  · exact hyz
  · exfalso
    have h1 := cnt_two V hyz
    have h2 := h.len
    have h3 := risingB_len (rightB_rising h.right).2.2
    have h4 := quorum_twice (n := l.length) (by omega)
    omega
/-- What has won. -/
def winner (l : List Int) (V : List Vt) : Option (ByteArray × List Int) := (V.find? fun v => decide (quorumP l.length ≤ (cntC V v.2 : Int))).map (·.2)
theorem winner_some {l : List Int} {V : List Vt} {y : ByteArray × List Int} (h : winner l V = some y) : quorumP l.length ≤ (cntC V y : Int) ∧ ∃ x, (x, y) ∈ V := by
  unfold winner at h
  cases hf : V.find? (fun v => decide (quorumP l.length ≤ (cntC V v.2 : Int))) with
  | none => rw [hf] at h; cases h
  | some v =>
    rw [hf] at h
    injection h with h
    subst h
    exact ⟨by simpa using List.find?_some hf, v.1, List.mem_of_find?_eq_some hf⟩
theorem winner_of {e : Int} {l : List Int} {V : List Vt} (h : VOk e l V) {v : Vt} (hv : v ∈ V) : quorumP l.length ≤ (cntC V v.2 : Int) ↔ winner l V = some v.2 := by
  constructor
  · intro hq
    cases hw : winner l V with
    | none =>
      exfalso
      unfold winner at hw
      cases hf : V.find? (fun v => decide (quorumP l.length ≤ (cntC V v.2 : Int))) with
      | none =>
        rw [List.find?_eq_none] at hf
        exact hf v hv (by simpa using hq)
      | some u => rw [hf] at hw; cases hw
    | some y => rw [maj h (winner_some hw).1 hq]
  · intro hw; exact (winner_some hw).1
instance vtMem (v : Vt) (V : List Vt) : Decidable (v ∈ V) := decidable_of_iff (V.any (fun u => decide (u = v)) = true) (by simp)
/-- Who voted so, by members. -/
def who (l : List Int) (V : List Vt) (y : ByteArray × List Int) : List Int := l.filter fun x => decide ((x, y) ∈ V)
def accP (V : List Vt) (y : Option (ByteArray × List Int)) (l : List Int) : List Int := l.filter fun x => match y with
  | none => false
  | some y => decide ((x, y) ∈ V)
def likeP (V : List Vt) (y : ByteArray × List Int) (l : List Int) : List Vt := l.flatMap fun x => V.filter fun v => decide (v.1 = x ∧ v.2 = y)
theorem filter_one {V : List Vt} (hn : (V.map (·.1)).Nodup) (x : Int) (y : ByteArray × List Int) : (V.filter fun v => decide (v.1 = x ∧ v.2 = y)) = if (x, y) ∈ V then [(x, y)] else [] := by
  induction V with
  | nil => simp
  | cons v r ih =>
    rw [List.map_cons, List.nodup_cons] at hn
    have ih := ih hn.2
    by_cases hv : v.1 = x ∧ v.2 = y
    · have hvx : v = (x, y) := Prod.ext hv.1 hv.2
      subst hvx
      have hno : (x, y) ∉ r := fun hc => hn.1 (List.mem_map.2 ⟨_, hc, rfl⟩)
      rw [if_neg hno] at ih
      rw [List.filter_cons_of_pos (by simp), ih, if_pos (by simp)]
    · rw [List.filter_cons_of_neg (by simpa using hv), ih]
      have : (x, y) ≠ v := fun h => hv (by rw [← h]; exact ⟨rfl, rfl⟩)
      by_cases hm : (x, y) ∈ r
      · rw [if_pos hm, if_pos (by simp [hm])]
      · rw [if_neg hm, if_neg (by simp [hm, this])]
theorem likeP_eq {V : List Vt} (hn : (V.map (·.1)).Nodup) (y : ByteArray × List Int) : ∀ l : List Int, likeP V y l = (who l V y).map fun x => (x, y)
  | [] => rfl
  | x :: l => by
    have ih := likeP_eq hn y l
    unfold likeP who at *
    rw [List.flatMap_cons, ih, filter_one hn]
    by_cases h : (x, y) ∈ V
    · rw [if_pos h, List.filter_cons_of_pos (by simpa using h)]; rfl
    · rw [if_neg h, List.filter_cons_of_neg (by simpa using h)]; rfl
theorem who_len {e : Int} {l : List Int} {V : List Vt} (h : VOk e l V) (hl : l.Nodup) (y : ByteArray × List Int) : (who l V y).length = cntC V y := by
  unfold who cntC
  apply Nat.le_antisymm
  · rw [show (l.filter fun x => decide ((x, y) ∈ V)).length = ((l.filter fun x => decide ((x, y) ∈ V)).map fun x => (x, y)).length by rw [List.length_map]]
    refine nodup_le15 ?_ (fun v hv => ?_)
    · refine List.Pairwise.map _ ?_ (hl.filter _)
      intro a b hab hc
      injection hc with hc
      exact hab hc
    · obtain ⟨x, hx, rfl⟩ := List.mem_map.1 hv
      rw [List.mem_filter] at hx ⊢
      exact ⟨by simpa using hx.2, by simp⟩
  · rw [show (V.filter fun v => decide (v.2 = y)).length = ((V.filter fun v => decide (v.2 = y)).map (·.1)).length by rw [List.length_map]]
    refine nodup_le15 ?_ (fun x hx => ?_)
    · exact List.Sublist.nodup (List.Sublist.map _ List.filter_sublist) h.nodup
    · obtain ⟨v, hv, rfl⟩ := List.mem_map.1 hx
      rw [List.mem_filter] at hv ⊢
      have hy : v.2 = y := by simpa using hv.2
      refine ⟨(h.good v hv.1).2.1, ?_⟩
      rw [decide_eq_true_eq, ← hy]
      exact hv.1
theorem upFrom_nodup : ∀ (l : List Int) (z : Int), upFrom z l = true → l.Nodup
  | [], z, h => by simp
  | x :: r, z, h => by
    rw [upFrom] at h
    split at h
    · cases h
    · rw [List.nodup_cons]
      exact ⟨fun hc => by have := (upFrom_range r x h x hc).1; omega, upFrom_nodup r x h⟩
theorem right_nodup {e : Int} {l : List Int} (h : rightB e l = true) : l.Nodup := upFrom_nodup l _ (risingB_up (rightB_rising h).2.2)
end Go.Proofs.Ytfhbjajhmegdmaa
