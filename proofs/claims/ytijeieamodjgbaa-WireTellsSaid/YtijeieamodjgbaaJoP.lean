
/- Plain law of who joins and who leaves. No program in sight. -/
import Derived.Test.YtijeieamodjgbaaCoP
import Derived.Test.YtijeieamodjgbaaCoW
import Derived.Test.YtijeieamodjgbaaQuiet
import Derived.Test.YtijeieamodjgbaaOwn
import Derived.StillTailTactics
namespace Go.Proofs.Ytijeieamodjgbaa
set_option maxRecDepth 100000

def posP (l : List Int) (id : Int) : Nat := (l.takeWhile fun x => decide (x < id)).length

theorem posP_eq (l : List Int) (id : Int) : ∀ p, p ≤ l.length → (∀ t, t < p → l.getD t 0 < id) → (p < l.length → id ≤ l.getD p 0) → posP l id = p := by
  induction l with
  | nil => intro p hp _ _; simp at hp; subst hp; rfl
  | cons y r ih =>
    intro p hp h1 h2
    cases p with
    | zero =>
      have := h2 (by simp)
      simp at this
      simp [posP, show ¬ y < id by omega]
    | succ p =>
      have hy := h1 0 (by omega)
      simp at hy hp
      have := ih p (by omega) (fun t ht => by have := h1 (t + 1) (by omega); simpa using this) (fun hlt => by have := h2 (by simp; omega); simpa using this)
      simp only [posP, List.takeWhile_cons, hy, decide_true, if_true, List.length_cons] at this ⊢
      omega
theorem posP_le (l : List Int) (id : Int) : posP l id ≤ l.length := (List.takeWhile_sublist _).length_le

def incP (l : List Int) : Prop := ∀ i j, i < j → j < l.length → l.getD i 0 < l.getD j 0
theorem incP_of {l : List Int} (h : risingB l = true) : incP l := upFrom_inc l (-1) (risingB_up h)

theorem hasB_iff (l : List Int) (id : Int) : hasB l id = true ↔ ∃ i, i < l.length ∧ l.getD i 0 = id := by
  simp only [hasB, List.any_eq_true, beq_iff_eq]
  constructor
  · rintro ⟨x, hx, rfl⟩
    obtain ⟨i, hi, h⟩ := List.getElem_of_mem hx
    exact ⟨i, hi, by simp [List.getD, hi, h]⟩
  · rintro ⟨i, hi, h⟩
    exact ⟨id, h ▸ getD_mem l i hi, rfl⟩

/-- At the place that the search finds: the number stands there, or nowhere. -/
theorem pos_has {l : List Int} (h : incP l) {id : Int} {p : Nat} (h1 : ∀ t, t < p → l.getD t 0 < id) (h2 : ∀ t, p ≤ t → t < l.length → id ≤ l.getD t 0) :
    hasB l id = (decide (p < l.length) && (l.getD p 0 == id)) := by
  rw [Bool.eq_iff_iff, hasB_iff]
  simp only [Bool.and_eq_true, decide_eq_true_eq, beq_iff_eq]
  constructor
  · rintro ⟨i, hi, he⟩
    rcases Nat.lt_trichotomy i p with h3 | h3 | h3
    · have := h1 i h3; omega
    · subst h3; exact ⟨hi, he⟩
    · have a := h2 p (Nat.le_refl _) (by omega)
      have b := h p i h3 hi
      omega
  · rintro ⟨hp, he⟩
    exact ⟨p, hp, he⟩

def fitsB (l : List Int) (id : Int) : Bool := risingB l && decide (0 ≤ id) && decide (id < 16)
def joinE (l : List Int) (id : Int) : Int := if fitsB l id = false then 1 else if hasB l id = true then 7 else if 10 ≤ l.length then 10 else 0
def joinP (l : List Int) (id : Int) : List Int := if joinE l id = 0 then l.take (posP l id) ++ id :: l.drop (posP l id) else []
def leaveE (l : List Int) (id : Int) : Int := if fitsB l id = false then 1 else if hasB l id = false then 8 else if l.length ≤ 4 then 9 else 0
def leaveP (l : List Int) (id : Int) : List Int := if leaveE l id = 0 then l.take (posP l id) ++ l.drop (posP l id + 1) else []

theorem fitsB_ris {l : List Int} {id : Int} (h : fitsB l id = true) : risingB l = true ∧ 0 ≤ id ∧ id < 16 := by
  simp [fitsB] at h; exact ⟨h.1.1, h.1.2, h.2⟩
theorem joinP_ok {l : List Int} {id : Int} (h : joinE l id = 0) : joinP l id = l.take (posP l id) ++ id :: l.drop (posP l id) := by rw [joinP, if_pos h]
theorem joinP_no {l : List Int} {id : Int} (h : joinE l id ≠ 0) : joinP l id = [] := by rw [joinP, if_neg h]
theorem leaveP_ok {l : List Int} {id : Int} (h : leaveE l id = 0) : leaveP l id = l.take (posP l id) ++ l.drop (posP l id + 1) := by rw [leaveP, if_pos h]
theorem leaveP_no {l : List Int} {id : Int} (h : leaveE l id ≠ 0) : leaveP l id = [] := by rw [leaveP, if_neg h]
theorem joinE_0 {l : List Int} {id : Int} (h : joinE l id = 0) : fitsB l id = true ∧ hasB l id = false ∧ l.length < 10 := by
  unfold joinE at h
  split at h
  · cases h
  · split at h
    · cases h
    · split at h
      · cases h
      · rename_i h1 h2 h3; exact ⟨by simpa using h1, by simpa using h2, by omega⟩
theorem leaveE_0 {l : List Int} {id : Int} (h : leaveE l id = 0) : fitsB l id = true ∧ hasB l id = true ∧ 4 < l.length := by
  unfold leaveE at h
  split at h
  · cases h
  · split at h
    · cases h
    · split at h
      · cases h
      · rename_i h1 h2 h3; exact ⟨by simpa using h1, by simpa using h2, by omega⟩

theorem sorted_ext : ∀ a b : List Int, a.Pairwise (· < ·) → b.Pairwise (· < ·) → (∀ x, x ∈ a ↔ x ∈ b) → a = b
  | [], [], _, _, _ => rfl
  | [], y :: b, _, _, h => by have := (h y).2 (List.mem_cons_self ..); cases this
  | x :: a, [], _, _, h => by have := (h x).1 (List.mem_cons_self ..); cases this
  | x :: a, y :: b, ha, hb, h => by
    rw [List.pairwise_cons] at ha hb
    have hxy : x = y := by
      have h1 := (h x).1 (List.mem_cons_self ..)
      have h2 := (h y).2 (List.mem_cons_self ..)
      rcases List.mem_cons.1 h1 with h1 | h1
      · exact h1
      · rcases List.mem_cons.1 h2 with h2 | h2
        · exact h2.symm
        · have := hb.1 x h1; have := ha.1 y h2; omega
    subst hxy
    rw [sorted_ext a b ha.2 hb.2 fun z => ?_]
    have hz := h z
    rw [List.mem_cons, List.mem_cons] at hz
    constructor
    · intro hm
      rcases hz.1 (.inr hm) with e | e
      · subst e; have := ha.1 z hm; omega
      · exact e
    · intro hm
      rcases hz.2 (.inr hm) with e | e
      · subst e; have := hb.1 z hm; omega
      · exact e
theorem incP_pairwise : ∀ {l : List Int}, incP l → l.Pairwise (· < ·) := by
  intro l h
  rw [List.pairwise_iff_getElem]
  intro i j hi hj hij
  have := h i j hij hj
  simpa [List.getD, hi, hj] using this
theorem hasB_mem_iff (l : List Int) (x : Int) : hasB l x = true ↔ x ∈ l := by
  simp only [hasB, List.any_eq_true, beq_iff_eq]
  constructor
  · rintro ⟨y, hy, rfl⟩; exact hy
  · intro h; exact ⟨x, h, rfl⟩
theorem posP_cons_lt (y id : Int) (r : List Int) (h : y < id) : posP (y :: r) id = posP r id + 1 := by simp [posP, h]
theorem posP_cons_ge (y id : Int) (r : List Int) (h : ¬ y < id) : posP (y :: r) id = 0 := by simp [posP, h]
theorem posP_take (id : Int) : ∀ l : List Int, ∀ x ∈ l.take (posP l id), x < id
  | [], x, hx => by cases hx
  | y :: r, x, hx => by
    by_cases h : y < id
    · rw [posP_cons_lt y id r h, List.take_succ_cons] at hx
      rcases List.mem_cons.1 hx with rfl | hx
      · exact h
      · exact posP_take id r x hx
    · rw [posP_cons_ge y id r h] at hx; cases hx
theorem posP_drop (id : Int) : ∀ l : List Int, l.Pairwise (· < ·) → ∀ x ∈ l.drop (posP l id), id ≤ x
  | [], _, x, hx => by cases hx
  | y :: r, hp, x, hx => by
    rw [List.pairwise_cons] at hp
    by_cases h : y < id
    · rw [posP_cons_lt y id r h, List.drop_succ_cons] at hx
      exact posP_drop id r hp.2 x hx
    · rw [posP_cons_ge y id r h, List.drop_zero] at hx
      rcases List.mem_cons.1 hx with rfl | hx
      · omega
      · have := hp.1 x hx; omega
theorem posP_split {l : List Int} (h : incP l) (id : Int) : (∀ x ∈ l.take (posP l id), x < id) ∧ (∀ x ∈ l.drop (posP l id), id ≤ x) :=
  ⟨posP_take id l, posP_drop id l (incP_pairwise h)⟩

def collP (l : List Int) (id : Int) : Nat → List Int
  | 0 => []
  | k + 1 => if (k : Int) = id ∨ hasB l k = true then collP l id k ++ [(k : Int)] else collP l id k
theorem collP_yes {l : List Int} {id : Int} {k : Nat} (h : (k : Int) = id ∨ hasB l k = true) : collP l id (k + 1) = collP l id k ++ [(k : Int)] := by rw [collP, if_pos h]
theorem collP_no {l : List Int} {id : Int} {k : Nat} (h : ¬ ((k : Int) = id ∨ hasB l k = true)) : collP l id (k + 1) = collP l id k := by rw [collP, if_neg h]
theorem collP_len (l : List Int) (id : Int) : ∀ k, (collP l id k).length ≤ k
  | 0 => Nat.le_refl 0
  | k + 1 => by have := collP_len l id k; rw [collP]; split <;> simp <;> omega
theorem collP_mem (l : List Int) (id : Int) : ∀ k x, x ∈ collP l id k ↔ (0 ≤ x ∧ x < k ∧ (x = id ∨ hasB l x = true))
  | 0, x => by simp [collP]; omega
  | k + 1, x => by
    rw [collP]
    split
    · rename_i h
      rw [List.mem_append, collP_mem l id k, List.mem_singleton]
      constructor
      · rintro (h1 | rfl)
        · exact ⟨h1.1, by omega, h1.2.2⟩
        · exact ⟨by omega, by omega, h⟩
      · rintro ⟨h1, h2, h3⟩
        by_cases hx : x = k
        · exact .inr hx
        · exact .inl ⟨h1, by omega, h3⟩
    · rename_i h
      rw [collP_mem l id k]
      constructor
      · rintro ⟨h1, h2, h3⟩; exact ⟨h1, by omega, h3⟩
      · rintro ⟨h1, h2, h3⟩
        refine ⟨h1, ?_, h3⟩
        have : x ≠ k := by rintro rfl; exact h h3
        omega
theorem collP_pw (l : List Int) (id : Int) : ∀ k, (collP l id k).Pairwise (· < ·)
  | 0 => List.Pairwise.nil
  | k + 1 => by
    rw [collP]
    split
    · rw [List.pairwise_append]
      refine ⟨collP_pw l id k, List.pairwise_singleton .., fun x hx y hy => ?_⟩
      rw [collP_mem] at hx
      rw [List.mem_singleton] at hy
      omega
    · exact collP_pw l id k

theorem joinP_pw {l : List Int} {id : Int} (h : joinE l id = 0) : (joinP l id).Pairwise (· < ·) := by
  obtain ⟨hf, hh, _⟩ := joinE_0 h
  have hi := incP_of (fitsB_ris hf).1
  have hs := posP_split hi id
  have hpw := incP_pairwise hi
  have hne : ∀ x ∈ l, x ≠ id := by
    rintro x hx rfl
    rw [(hasB_mem_iff l x).2 hx] at hh; cases hh
  rw [joinP_ok h, List.pairwise_append, List.pairwise_cons]
  refine ⟨hpw.sublist (List.take_sublist _ _), ⟨fun x hx => ?_, hpw.sublist (List.drop_sublist _ _)⟩, fun x hx y hy => ?_⟩
  · have := hs.2 x hx; have := hne x (List.mem_of_mem_drop hx); omega
  · have h1 := hs.1 x hx
    rcases List.mem_cons.1 hy with rfl | hy
    · exact h1
    · have := hs.2 y hy; omega
theorem joinP_mem {l : List Int} {id : Int} (h : joinE l id = 0) (x : Int) : x ∈ joinP l id ↔ x = id ∨ x ∈ l := by
  rw [joinP_ok h, List.mem_append, List.mem_cons]
  conv => rhs; rw [← List.take_append_drop (posP l id) l, List.mem_append]
  constructor
  · rintro (h | h | h)
    · exact .inr (.inl h)
    · exact .inl h
    · exact .inr (.inr h)
  · rintro (h | h | h)
    · exact .inr (.inl h)
    · exact .inl h
    · exact .inr (.inr h)
theorem collP_join {l : List Int} {id : Int} (h : joinE l id = 0) : collP l id 16 = joinP l id := by
  obtain ⟨hf, hh, _⟩ := joinE_0 h
  obtain ⟨hr, h0, h1⟩ := fitsB_ris hf
  refine sorted_ext _ _ (collP_pw l id 16) (joinP_pw h) fun x => ?_
  rw [collP_mem, joinP_mem h, hasB_mem_iff]
  constructor
  · exact fun h => h.2.2
  · intro hx
    refine ⟨?_, ?_, hx⟩
    · rcases hx with rfl | hx
      · exact h0
      · exact (risingB_range hr x hx).1
    · rcases hx with rfl | hx
      · exact h1
      · exact (risingB_range hr x hx).2

def dropP (l : List Int) (id : Int) : List Int := l.filter fun x => x != id
theorem leave_split {l : List Int} {id : Int} (h : leaveE l id = 0) : posP l id < l.length ∧ l = l.take (posP l id) ++ id :: l.drop (posP l id + 1) := by
  obtain ⟨hf, hh, _⟩ := leaveE_0 h
  have hi := incP_of (fitsB_ris hf).1
  obtain ⟨i, hil, hv⟩ := (hasB_iff l id).1 hh
  have hp : posP l id = i := posP_eq l id i (by omega) (fun t ht => by have := hi t i ht hil; omega) (fun _ => by omega)
  rw [hp]
  refine ⟨hil, ?_⟩
  have hg : l[i] = id := by simpa [List.getD, hil] using hv
  conv => lhs; rw [← List.take_append_drop i l, List.drop_eq_getElem_cons hil, hg]
theorem dropP_leave {l : List Int} {id : Int} (h : leaveE l id = 0) : dropP l id = leaveP l id := by
  obtain ⟨hf, hh, _⟩ := leaveE_0 h
  have hpw := incP_pairwise (incP_of (fitsB_ris hf).1)
  have hs := (leave_split h).2
  rw [leaveP_ok h]
  unfold dropP
  rw [hs, List.pairwise_append, List.pairwise_cons] at hpw
  conv => lhs; rw [hs]
  rw [List.filter_append, List.filter_cons]
  simp only [bne_self_eq_false]
  congr 1
  · rw [List.filter_eq_self]
    intro x hx
    have := hpw.2.2 x hx id (List.mem_cons_self ..)
    simp; omega
  · simp only [Bool.false_eq_true, if_false]
    rw [List.filter_eq_self]
    intro x hx
    have := hpw.2.1.1 x hx
    simp; omega
end Go.Proofs.Ytijeieamodjgbaa

/- Walks of the search and of 'fits'. -/
namespace Go.Proofs.Ytijeieamodjgbaa
set_option maxRecDepth 100000
open Go.RowKit
set_option linter.unusedVariables false



end Go.Proofs.Ytijeieamodjgbaa

/- Walks of Join and Leave of the program. -/
namespace Go.Proofs.Ytijeieamodjgbaa
set_option maxRecDepth 100000
open Go.RowKit
set_option linter.unusedVariables false

theorem info_int : (Try.prog.info? 3).map (fun i => (i.zero, i.size, i.bytes)) = some (some (.int .i64 0), 1, 8) := by kernel_rfl

/-- What Join and Leave answer: a new list, and an error. -/
def MovePost (w : World) (l : List Int) (err : Int) (e : Ending) (w' : World) : Prop :=
  ∃ v, e = .returned (.tuple #[v, .int .i64 err]) ∧ w'.ownsRow w.heap.size 3 1 v l.length (intsV l) ∧ Below w.heap.size w w'

theorem move_nil {w w' : World} {err : Int} (hb : Below w.heap.size w w') : MovePost w [] err (.returned (.tuple #[.slice none 0 0, .int .i64 err])) w' :=
  ⟨_, rfl, World.ownsRow_nil _ _ _ _, hb⟩


theorem splice_join {α : Type} (Z X1 X2 : List α) (y : α) (p n : Nat) (l1 : X1.length = p) (l2 : X2.length = n - p) (hZ : Z.length = n + 1) (hp : p ≤ n) :
    splice ((splice Z 0 X1).set p y) (p + 1) X2 = X1 ++ y :: X2 := by
  have e1 : splice Z 0 X1 = X1 ++ Z.drop p := by simp [splice, l1]
  obtain ⟨z, r, hr⟩ : ∃ z r, Z.drop p = z :: r := by
    cases h : Z.drop p with
    | nil => have := congrArg List.length h; simp at this; omega
    | cons z r => exact ⟨z, r, rfl⟩
  have hrl : r.length = n - p := by have := congrArg List.length hr; simp at this; omega
  have e2 : (X1 ++ z :: r).set p y = X1 ++ y :: r := by subst l1; simp
  rw [e1, hr, e2]
  have e3 : X1 ++ y :: r = (X1 ++ [y]) ++ r := by simp
  have l3 : (X1 ++ [y]).length = p + 1 := by simp [l1]
  rw [e3, splice, List.take_left' l3, List.drop_of_length_le (by simp; omega)]
  simp
theorem splice_leave {α : Type} (Z X1 X2 : List α) (p n : Nat) (l1 : X1.length = p) (l2 : X2.length = n - p) (hZ : Z.length = n) (hp : p ≤ n) :
    splice (splice Z 0 X1) p X2 = X1 ++ X2 := by
  have e1 : splice Z 0 X1 = X1 ++ Z.drop p := by simp [splice, l1]
  rw [e1, splice, List.take_left' l1, List.drop_of_length_le (by simp; omega)]
  simp
theorem intsV_append (a b : List Int) : intsV (a ++ b) = intsV a ++ intsV b := by simp [intsV]
theorem intsV_cons (x : Int) (b : List Int) : intsV (x :: b) = .int .i64 x :: intsV b := rfl
theorem intsV_len (a : List Int) : (intsV a).length = a.length := by simp [intsV]

end Go.Proofs.Ytijeieamodjgbaa

/- Walks of Leave of the program. -/
namespace Go.Proofs.Ytijeieamodjgbaa
set_option maxRecDepth 100000
open Go.RowKit
set_option linter.unusedVariables false


end Go.Proofs.Ytijeieamodjgbaa

/- Walks of the reference's Join and Leave, and of SameInts. -/
namespace Go.Proofs.Ytijeieamodjgbaa
set_option maxRecDepth 100000
open Go.RowKit
set_option linter.unusedVariables false

theorem fitsB_cases {l : List Int} {id : Int} (h : fitsB l id = false) : risingB l = false ∨ (risingB l = true ∧ id < 0) ∨ (risingB l = true ∧ ¬ id < 0 ∧ 16 ≤ id) := by
  cases hr : risingB l with
  | false => exact .inl rfl
  | true =>
    simp [fitsB, hr] at h
    by_cases h0 : id < 0
    · exact .inr (.inl ⟨rfl, h0⟩)
    · exact .inr (.inr ⟨rfl, h0, h (by omega)⟩)


end Go.Proofs.Ytijeieamodjgbaa

/- Walks of the reference's Leave, and of SameInts. -/
namespace Go.Proofs.Ytijeieamodjgbaa
set_option maxRecDepth 100000
open Go.RowKit
set_option linter.unusedVariables false



set_option maxHeartbeats 400000 in
theorem sameints_any (a : Option Addr) (n c : Nat) (l : List Int) (a' : Option Addr) (n' c' : Nat) (l' : List Int) (w : World) (h : IntsAt w a n l) (h' : IntsAt w a' n' l') :
    Calls Try.prog 69 #[.slice a n c, .slice a' n' c'] w fun e w' => e = .returned (.bool (l == l')) ∧ ∃ q, w' = w.drewN q := by
  have hmax := h.max
  have hmax' := h'.max
  have hlen := h.len
  have hlen' := h'.len
  have H := Lib.hid h; clear h
  have H' := Lib.hid h'; clear h'
  have hb : (l == l') = decide (l = l') := by rw [Bool.eq_iff_iff]; simp
  by_cases hnn : n = n'
  · subst hnn
    have hn0 : ((n : Int) != n) = false := by simp
    have hfin : ∀ k, k = n → l.take k = l'.take k → (l == l') = true := fun k hk ht => by
      rw [List.take_of_length_le (by omega), List.take_of_length_le (by omega)] at ht
      simp [ht]
    have Hfin := Lib.hid hfin; have Hlen := Lib.hid hlen; have Hlen' := Lib.hid hlen'
    clear hfin hb hlen hlen'
    go_enter Try.func69, Try.ntmps69
    go_wp2_with fail
    go_loopw [5] (fun i wr => ∃ k q : Nat, k ≤ n ∧ i = .int .i64 k ∧ wr = w.drewN q ∧ Hid (l.take k = l'.take k)) (fun i _ => n - (intOf i).toNat)
    case atStart => exact ⟨0, 0, by omega, rfl, rfl, Lib.hid (by simp)⟩
    case round =>
      obtain ⟨k, q, hk, rfl, rfl, ht⟩ := hrel
      by_cases hlt : k < n
      · obtain ⟨b, o, x, rfl, hc, _, _, _, hx⟩ := H.out.elem k hlt
        obtain ⟨b', o', x', rfl, hc', _, _, _, hx'⟩ := H'.out.elem k hlt
        cases hne : x != x' with
        | true =>
          have hno := Lib.hid (show (l == l') = false by
            cases h : l == l' with
            | false => rfl
            | true =>
              have he : l = l' := by simpa using h
              subst he
              have : x = x' := by have := hx.out.symm.trans hx'.out; simpa using this
              simp [this] at hne)
          clear hx hx' ht
          go_wp2_with fail
          go_quiet (fail)
          go_wp2_with fail
          go_ret
          exact ⟨by rw [hno.out]; rfl, q + nq, by simp⟩
        | false =>
          have ht' := Lib.hid (show l.take (k + 1) = l'.take (k + 1) by
            have : x = x' := by simpa using hne
            rw [List.take_add_one, List.take_add_one, ht.out, hx.out, hx'.out, this])
          clear hx hx' ht
          go_wp2_with fail
          go_quiet (fail)
          go_wp2_with fail
          go_roundw
          case rel => exact ⟨k + 1, q + nq, by omega, by go_num, by simp, ht'⟩
          case measure => simp [intOf]; omega
      · have hy := Lib.hid (Hfin.out k (by omega) ht.out)
        clear ht
        go_wp2_with fail
        go_ret
        exact ⟨by rw [hy.out]; rfl, q, rfl⟩
  · have hne : ((n : Int) != n') = true := by simp; omega
    have hno := Lib.hid (show (l == l') = false by
      rw [hb]; simp; rintro rfl; omega)
    clear hb hlen hlen'
    go_enter Try.func69, Try.ntmps69
    go_wp2_with fail
    go_ret
    exact ⟨by rw [hno.out]; rfl, 0, rfl⟩
end Go.Proofs.Ytijeieamodjgbaa

/- Walk of slices.Equal at ints. -/
namespace Go.Proofs.Ytijeieamodjgbaa
set_option maxRecDepth 100000
open Go.RowKit
set_option linter.unusedVariables false

set_option maxHeartbeats 400000 in
theorem equal_any (a : Option Addr) (n c : Nat) (l : List Int) (a' : Option Addr) (n' c' : Nat) (l' : List Int) (w : World) (h : IntsAt w a n l) (h' : IntsAt w a' n' l') :
    Calls Try.prog 172 #[.slice a n c, .slice a' n' c'] w fun e w' => e = .returned (.bool (l == l')) ∧ ∃ q, w' = w.drewN q := by
  have hmax := h.max
  have hmax' := h'.max
  have hlen := h.len
  have hlen' := h'.len
  have H := Lib.hid h; clear h
  have H' := Lib.hid h'; clear h'
  have hb : (l == l') = decide (l = l') := by rw [Bool.eq_iff_iff]; simp
  by_cases hnn : n = n'
  · subst hnn
    have hn0 : ((n : Int) != n) = false := by simp
    have hfin : ∀ k, k = n → l.take k = l'.take k → (l == l') = true := fun k hk ht => by
      rw [List.take_of_length_le (by omega), List.take_of_length_le (by omega)] at ht
      simp [ht]
    have Hfin := Lib.hid hfin; have Hlen := Lib.hid hlen; have Hlen' := Lib.hid hlen'
    clear hfin hb hlen hlen'
    go_enter Try.func172, Try.ntmps172
    go_wp2_with fail
    go_loopw [13] (fun i wr => ∃ k q : Nat, k ≤ n ∧ i = .int .i64 k ∧ wr = w.drewN q ∧ Hid (l.take k = l'.take k)) (fun i _ => n - (intOf i).toNat)
    case atStart => exact ⟨0, 0, by omega, rfl, rfl, Lib.hid (by simp)⟩
    case round =>
      obtain ⟨k, q, hk, rfl, rfl, ht⟩ := hrel
      by_cases hlt : k < n
      · obtain ⟨b, o, x, rfl, hc, _, _, _, hx⟩ := H.out.elem k hlt
        obtain ⟨b', o', x', rfl, hc', _, _, _, hx'⟩ := H'.out.elem k hlt
        cases hne : x != x' with
        | true =>
          have hno := Lib.hid (show (l == l') = false by
            cases h : l == l' with
            | false => rfl
            | true =>
              have he : l = l' := by simpa using h
              subst he
              have : x = x' := by have := hx.out.symm.trans hx'.out; simpa using this
              simp [this] at hne)
          clear hx hx' ht
          go_wp2_with fail
          go_quiet (fail)
          go_wp2_with fail
          go_ret
          exact ⟨by rw [hno.out]; rfl, q + nq, by simp⟩
        | false =>
          have ht' := Lib.hid (show l.take (k + 1) = l'.take (k + 1) by
            have : x = x' := by simpa using hne
            rw [List.take_add_one, List.take_add_one, ht.out, hx.out, hx'.out, this])
          clear hx hx' ht
          go_wp2_with fail
          go_quiet (fail)
          go_wp2_with fail
          go_roundw
          case rel => exact ⟨k + 1, q + nq, by omega, by go_num, by simp, ht'⟩
          case measure => simp [intOf]; omega
      · have hy := Lib.hid (Hfin.out k (by omega) ht.out)
        clear ht
        go_wp2_with fail
        go_ret
        exact ⟨by rw [hy.out]; rfl, q, rfl⟩
  · have hne : ((n : Int) != n') = true := by simp; omega
    have hno := Lib.hid (show (l == l') = false by
      rw [hb]; simp; rintro rfl; omega)
    clear hb hlen hlen'
    go_enter Try.func172, Try.ntmps172
    go_wp2_with fail
    go_ret
    exact ⟨by rw [hno.out]; rfl, 0, rfl⟩
end Go.Proofs.Ytijeieamodjgbaa
