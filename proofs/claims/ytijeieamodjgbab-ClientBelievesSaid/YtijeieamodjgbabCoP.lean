
/- Plain law of the layer council: right members, membership. No program in sight. -/
import Derived.Test.YtijeieamodjgbabMem
import Derived.WalkKit
import Derived.Test.YtijeieamodjgbabRows
import Derived.WalkSpells
import Derived.WalkLawsBesides
import Derived.Lib.Hide

namespace Go.Proofs.Ytijeieamodjgbab
set_option maxRecDepth 100000

def upFrom (last : Int) : List Int → Bool
  | [] => true
  | x :: r => if x ≤ last ∨ 16 ≤ x then false else upFrom x r
def risingB (l : List Int) : Bool := upFrom (-1) l && decide (4 ≤ l.length) && decide (l.length ≤ 10)
def rightB (e : Int) (l : List Int) : Bool := decide (0 ≤ e) && decide (e ≤ 60) && risingB l

def idxFrom (k : Nat) (l : List Int) (id : Int) : Int :=
  match l with
  | [] => -1
  | x :: r => if id = x then k else idxFrom (k + 1) r id
def hasB (l : List Int) (id : Int) : Bool := l.any (fun x => id == x)

theorem upFrom_stop (z x : Int) (r : List Int) (h : x ≤ z ∨ 16 ≤ x) : upFrom z (x :: r) = false := by unfold upFrom; rw [if_pos h]
theorem upFrom_go (z x : Int) (r : List Int) (h : ¬ (x ≤ z ∨ 16 ≤ x)) : upFrom z (x :: r) = upFrom x r := by
  rw [upFrom, if_neg h]
theorem risingB_false (l : List Int) (h : upFrom (-1) l = false) : risingB l = false := by simp [risingB, h]
theorem risingB_true (l : List Int) (h : upFrom (-1) l = true) : risingB l = (decide (4 ≤ l.length) && decide (l.length ≤ 10)) := by simp [risingB, h]

theorem idxFrom_stop (k : Nat) (x id : Int) (r : List Int) (h : id = x) : idxFrom k (x :: r) id = k := by rw [idxFrom, if_pos h]
theorem idxFrom_go (k : Nat) (x id : Int) (r : List Int) (h : ¬ id = x) : idxFrom k (x :: r) id = idxFrom (k + 1) r id := by rw [idxFrom, if_neg h]
theorem idxFrom_has (l : List Int) (id : Int) : ∀ k, decide (0 ≤ idxFrom k l id) = hasB l id := by
  induction l with
  | nil => intro k; rfl
  | cons x r ih =>
    intro k
    by_cases h : id = x
    · rw [idxFrom_stop k x id r h]; simp [hasB, h]
    · rw [idxFrom_go k x id r h, ih]; simp [hasB, h]
theorem rightB_1 (e : Int) (l : List Int) (h : ¬ 0 ≤ e) : rightB e l = false := by simp [rightB, h]
theorem rightB_2 (e : Int) (l : List Int) (h : ¬ e ≤ 60) : rightB e l = false := by simp [rightB, h]
theorem rightB_3 (e : Int) (l : List Int) (h : 0 ≤ e) (h2 : e ≤ 60) : rightB e l = risingB l := by simp [rightB, h, h2]

theorem upFrom_range (l : List Int) : ∀ z, upFrom z l = true → ∀ x ∈ l, z < x ∧ x < 16 := by
  induction l with
  | nil => intro z _ x hx; cases hx
  | cons y r ih =>
    intro z h x hx
    by_cases hy : y ≤ z ∨ 16 ≤ y
    · rw [upFrom_stop z y r hy] at h; cases h
    · rw [upFrom_go z y r hy] at h
      rcases List.mem_cons.1 hx with rfl | hx
      · omega
      · have := ih y h x hx; omega
theorem risingB_len {l : List Int} (h : risingB l = true) : 4 ≤ l.length ∧ l.length ≤ 10 := by
  simp [risingB] at h; omega
theorem risingB_up {l : List Int} (h : risingB l = true) : upFrom (-1) l = true := by
  simp [risingB] at h; exact h.1.1
theorem risingB_range {l : List Int} (h : risingB l = true) : ∀ x ∈ l, 0 ≤ x ∧ x < 16 := fun x hx => by
  have := upFrom_range l (-1) (risingB_up h) x hx; omega
theorem rightB_rising {e : Int} {l : List Int} (h : rightB e l = true) : 0 ≤ e ∧ e ≤ 60 ∧ risingB l = true := by
  simp [rightB] at h; exact ⟨h.1.1, h.1.2, h.2⟩

end Go.Proofs.Ytijeieamodjgbab

/- Plain numbers of the layer council: faults, quorum, weak quorum; no program in sight. -/
namespace Go.Proofs.Ytijeieamodjgbab
set_option maxRecDepth 100000

def faultsP (n : Int) : Int := if n < 1 then 0 else (n - 1) / 3
def quorumP (n : Int) : Int := if n < 1 then 0 else faultsP n + (n - faultsP n) / 2 + 1
def weakP (n : Int) : Int := if n < 1 then 0 else faultsP n + 1

theorem faultsP_lo (n : Int) (h : n < 1) : faultsP n = 0 := by unfold faultsP; rw [if_pos h]
theorem faultsP_hi (n : Int) (h : ¬ n < 1) : faultsP n = (n - 1) / 3 := by unfold faultsP; rw [if_neg h]
theorem quorumP_lo (n : Int) (h : n < 1) : quorumP n = 0 := by unfold quorumP; rw [if_pos h]
theorem quorumP_hi (n : Int) (h : ¬ n < 1) : quorumP n = faultsP n + (n - faultsP n) / 2 + 1 := by unfold quorumP; rw [if_neg h]
theorem weakP_lo (n : Int) (h : n < 1) : weakP n = 0 := by unfold weakP; rw [if_pos h]
theorem weakP_hi (n : Int) (h : ¬ n < 1) : weakP n = faultsP n + 1 := by unfold weakP; rw [if_neg h]
theorem faultsP_bd (n : Int) (h : ¬ n < 1) : 0 ≤ faultsP n ∧ 3 * faultsP n ≤ n - 1 := by
  rw [faultsP_hi n h]; omega
end Go.Proofs.Ytijeieamodjgbab

/- Walks of the council's numbers (Faults, Quorum, Weak), of the program and of the reference. -/
namespace Go.Proofs.Ytijeieamodjgbab
set_option maxRecDepth 100000
open Go.RowKit

set_option maxHeartbeats 400000 in
theorem faults_any (n : Int) (w : World) (h1 : -9223372036854775808 ≤ n) (h2 : n ≤ 9223372036854775807) :
    Calls Try.prog 30 #[.int .i64 n] w fun e w' => e = .returned (.int .i64 (faultsP n)) ∧ w = w' := by
  by_cases h : n < 1
  · go_enter Try.func30, Try.ntmps30
    go_wp2
    go_ret
    exact ⟨by rw [faultsP_lo n (by omega)]; rfl, rfl⟩
  · go_enter Try.func30, Try.ntmps30
    go_wp2
    go_ret
    exact ⟨by rw [faultsP_hi n (by omega)]; rfl, rfl⟩

set_option maxHeartbeats 400000 in
theorem quorum_any (n : Int) (w : World) (h1 : -9223372036854775808 ≤ n) (h2 : n ≤ 9223372036854775807) :
    Calls Try.prog 100 #[.int .i64 n] w fun e w' => e = .returned (.int .i64 (quorumP n)) ∧ w = w' := by
  by_cases h : n < 1
  · go_enter Try.func100, Try.ntmps100
    go_wp2
    go_ret
    exact ⟨by rw [quorumP_lo n (by omega)]; rfl, rfl⟩
  · obtain ⟨f0, f1⟩ := faultsP_bd n h
    go_enter Try.func100, Try.ntmps100
    go_wp2_with (go_at_call 30; refine (faults_any _ _ h1 h2).mono ?_; rintro e w' ⟨rfl, rfl⟩)
    go_ret
    exact ⟨by rw [quorumP_hi n (by omega)]; rfl, rfl⟩

set_option maxHeartbeats 400000 in
theorem weak_any (n : Int) (w : World) (h1 : -9223372036854775808 ≤ n) (h2 : n ≤ 9223372036854775807) :
    Calls Try.prog 15 #[.int .i64 n] w fun e w' => e = .returned (.int .i64 (weakP n)) ∧ w = w' := by
  by_cases h : n < 1
  · go_enter Try.func15, Try.ntmps15
    go_wp2
    go_ret
    exact ⟨by rw [weakP_lo n (by omega)]; rfl, rfl⟩
  · obtain ⟨f0, f1⟩ := faultsP_bd n h
    go_enter Try.func15, Try.ntmps15
    go_wp2_with (go_at_call 30; refine (faults_any _ _ h1 h2).mono ?_; rintro e w' ⟨rfl, rfl⟩)
    go_ret
    exact ⟨by rw [weakP_hi n (by omega)]; rfl, rfl⟩

end Go.Proofs.Ytijeieamodjgbab
