
/- Walks of the search and of 'fits'. -/
import Derived.Test.YtelmpoaioccpoaaCoW
import Derived.Test.YtelmpoaioccpoaaJoP
import Derived.Test.YtelmpoaioccpoaaQuiet
import Derived.Test.YtelmpoaioccpoaaOwn
import Derived.StillTailTactics
namespace Go.Proofs.Ytelmpoaioccpoaa
set_option maxRecDepth 100000
open Go.RowKit
set_option linter.unusedVariables false



end Go.Proofs.Ytelmpoaioccpoaa

/- Walks of Join and Leave of the program. -/
namespace Go.Proofs.Ytelmpoaioccpoaa
set_option maxRecDepth 100000
open Go.RowKit
set_option linter.unusedVariables false

theorem info_int : (Try.prog.info? 3).map (fun i => (i.zero, i.size, i.bytes)) = some (some (.int .i64 0), 1, 8) := by kernel_rfl

/-- What Join and Leave answer: a new list, and an error. -/
def MovePost (w : World) (l : List Int) (err : Int) (e : Ending) (w' : World) : Prop :=
  ∃ v, e = .returned (.tuple #[v, .int .i64 err]) ∧ w'.ownsRow w.heap.size 3 1 v l.length (intsV l) ∧ Below w.heap.size w w'

theorem move_nil {w w' : World} {err : Int} (hb : Below w.heap.size w w') : MovePost w [] err (.returned (.tuple #[.slice none 0 0, .int .i64 err])) w' :=
  ⟨_, rfl, World.ownsRow_nil _ _ _ _, hb⟩


theorem splice_join {α : Type} (Z X1 X2 : List α) (y : α) (p n : Nat) (l1 : X1.length = p) (l2 : X2.length = n - p) (hZ : Z.length = n + 1) (hp : p ≤ n) :
    splice ((splice Z 0 X1).set p y) (p + 1) X2 = X1 ++ y :: X2 := by
  have e1 : splice Z 0 X1 = X1 ++ Z.drop p := by simp [splice, l1]
  obtain ⟨z, r, hr⟩ : ∃ z r, Z.drop p = z :: r := by
    cases h : Z.drop p with
    | nil => have := congrArg List.length h; simp at this; omega
    | cons z r => exact ⟨z, r, rfl⟩
  have hrl : r.length = n - p := by have := congrArg List.length hr; simp at this; omega
  have e2 : (X1 ++ z :: r).set p y = X1 ++ y :: r := by subst l1; simp
  rw [e1, hr, e2]
  have e3 : X1 ++ y :: r = (X1 ++ [y]) ++ r := by simp
  have l3 : (X1 ++ [y]).length = p + 1 := by simp [l1]
  rw [e3, splice, List.take_left' l3, List.drop_of_length_le (by simp; omega)]
  simp
theorem splice_leave {α : Type} (Z X1 X2 : List α) (p n : Nat) (l1 : X1.length = p) (l2 : X2.length = n - p) (hZ : Z.length = n) (hp : p ≤ n) :
    splice (splice Z 0 X1) p X2 = X1 ++ X2 := by
  have e1 : splice Z 0 X1 = X1 ++ Z.drop p := by simp [splice, l1]
  rw [e1, splice, List.take_left' l1, List.drop_of_length_le (by simp; omega)]
  simp
theorem intsV_append (a b : List Int) : intsV (a ++ b) = intsV a ++ intsV b := by simp [intsV]
theorem intsV_cons (x : Int) (b : List Int) : intsV (x :: b) = .int .i64 x :: intsV b := rfl
theorem intsV_len (a : List Int) : (intsV a).length = a.length := by simp [intsV]

end Go.Proofs.Ytelmpoaioccpoaa

/- Walks of Leave of the program. -/
namespace Go.Proofs.Ytelmpoaioccpoaa
set_option maxRecDepth 100000
open Go.RowKit
set_option linter.unusedVariables false


end Go.Proofs.Ytelmpoaioccpoaa

/- Walks of the reference's Join and Leave, and of SameInts. -/
namespace Go.Proofs.Ytelmpoaioccpoaa
set_option maxRecDepth 100000
open Go.RowKit
set_option linter.unusedVariables false

theorem fitsB_cases {l : List Int} {id : Int} (h : fitsB l id = false) : risingB l = false ∨ (risingB l = true ∧ id < 0) ∨ (risingB l = true ∧ ¬ id < 0 ∧ 16 ≤ id) := by
  cases hr : risingB l with
  | false => exact .inl rfl
  | true =>
    simp [fitsB, hr] at h
    by_cases h0 : id < 0
    · exact .inr (.inl ⟨rfl, h0⟩)
    · exact .inr (.inr ⟨rfl, h0, h (by omega)⟩)


end Go.Proofs.Ytelmpoaioccpoaa

/- Walks of the reference's Leave, and of SameInts. -/
namespace Go.Proofs.Ytelmpoaioccpoaa
set_option maxRecDepth 100000
open Go.RowKit
set_option linter.unusedVariables false



end Go.Proofs.Ytelmpoaioccpoaa
