
/- What a put leaves of a writer's room and errors. -/
import Derived.Test.YtfhbjajhmegdmaaPkM
namespace Go.Proofs.Ytfhbjajhmegdmaa
set_option maxRecDepth 100000

theorem wPut_room {s : W} {ok : Bool} {bs : List UInt8} {T : Nat} (h0 : 0 ≤ s.room) (h1 : (s.out.length : Int) + s.room ≤ T) : 0 ≤ (wPut s ok bs).room ∧ ((wPut s ok bs).out.length : Int) + (wPut s ok bs).room ≤ T := by
  unfold wPut
  split
  · split
    · unfold wAdd
      split
      · exact ⟨h0, h1⟩
      · refine ⟨by show 0 ≤ s.room - _; omega, ?_⟩
        show ((s.out ++ bs).length : Int) + (s.room - _) ≤ T
        rw [List.length_append]; omega
    · exact ⟨h0, h1⟩
  · exact ⟨h0, h1⟩
theorem wPut_errs {s : W} {ok : Bool} {bs : List UInt8} (h : 0 ≤ s.err ∧ s.err ≤ 9) : 0 ≤ (wPut s ok bs).err ∧ (wPut s ok bs).err ≤ 9 := by
  unfold wPut
  split
  · split
    · unfold wAdd
      split
      · exact ⟨by show (0 : Int) ≤ 3; omega, by show (3 : Int) ≤ 9; omega⟩
      · exact h
    · exact ⟨by show (0 : Int) ≤ 4; omega, by show (4 : Int) ≤ 9; omega⟩
  · exact h
end Go.Proofs.Ytfhbjajhmegdmaa
