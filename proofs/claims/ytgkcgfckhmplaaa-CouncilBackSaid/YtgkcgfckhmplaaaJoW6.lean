/- One contract for both ways of Join and of Leave, of the program and of the reference. -/
import Derived.Test.YtgkcgfckhmplaaaJoW5
namespace Go.Proofs.Ytgkcgfckhmplaaa
open Go.RowKit
set_option linter.unusedVariables false

/-- One contract for both ways of each function. -/
theorem join_any (a : Option Addr) (n c : Nat) (l : List Int) (id : Int) (w : World) (h : IntsAt w a n l) (hc : n ≤ c) (hid : i64 id) :
    Calls Try.prog 25 #[.slice a n c, .int .i64 id] w (MovePost w (joinP l id) (joinE l id)) := by
  by_cases he : joinE l id = 0
  · rw [he]; exact join_yes a n c l id w h hc hid he
  · rw [joinP_no he]; exact join_no a n c l id w h hid he
theorem rjoin_any (a : Option Addr) (n c : Nat) (l : List Int) (id : Int) (w : World) (h : IntsAt w a n l) (hid : i64 id) :
    Calls Try.prog 26 #[.slice a n c, .int .i64 id] w (MovePost w (joinP l id) (joinE l id)) := by
  by_cases he : joinE l id = 0
  · rw [he]; exact rjoin_yes a n c l id w h hid he
  · rw [joinP_no he]; exact rjoin_no a n c l id w h hid he
theorem leave_any (a : Option Addr) (n c : Nat) (l : List Int) (id : Int) (w : World) (h : IntsAt w a n l) (hc : n ≤ c) (hid : i64 id) :
    Calls Try.prog 27 #[.slice a n c, .int .i64 id] w (MovePost w (leaveP l id) (leaveE l id)) := by
  by_cases he : leaveE l id = 0
  · rw [he]; exact leave_yes a n c l id w h hc hid he
  · rw [leaveP_no he]; exact leave_no a n c l id w h hid he
theorem rleave_any (a : Option Addr) (n c : Nat) (l : List Int) (id : Int) (w : World) (h : IntsAt w a n l) (hid : i64 id) :
    Calls Try.prog 28 #[.slice a n c, .int .i64 id] w (MovePost w (leaveP l id) (leaveE l id)) := by
  by_cases he : leaveE l id = 0
  · rw [he]; exact rleave_yes a n c l id w h hid he
  · rw [leaveP_no he]; exact rleave_no a n c l id w h hid he

theorem joinP_fit {l : List Int} {id : Int} (hl : ∀ x ∈ l, i64 x) (hid : i64 id) : (∀ x ∈ joinP l id, i64 x) ∧ (joinP l id).length ≤ 11 := by
  by_cases he : joinE l id = 0
  · have h2 := (joinE_0 he).2.2
    refine ⟨fun x hx => ?_, ?_⟩
    · rcases (joinP_mem he x).1 hx with rfl | hx
      · exact hid
      · exact hl x hx
    · rw [joinP_ok he]; simp; omega
  · rw [joinP_no he]; exact ⟨fun x hx => by (cases hx), by simp⟩
theorem leaveP_fit {l : List Int} {id : Int} (hl : ∀ x ∈ l, i64 x) : (∀ x ∈ leaveP l id, i64 x) ∧ (leaveP l id).length ≤ 11 := by
  by_cases he : leaveE l id = 0
  · have h2 := risingB_len (fitsB_ris (leaveE_0 he).1).1
    refine ⟨fun x hx => ?_, ?_⟩
    · rw [← dropP_leave he] at hx
      exact hl x (List.mem_filter.1 hx).1
    · rw [leaveP_ok he]; simp; omega
  · rw [leaveP_no he]; exact ⟨fun x hx => by (cases hx), by simp⟩

/-- What is answered, opened. -/
theorem move_open {w : World} {l : List Int} {err : Int} {e : Ending} {w' : World} (h : MovePost w l err e w') (hf : (∀ x ∈ l, i64 x) ∧ l.length ≤ 11) :
    ∃ ao c, e = .returned (.tuple #[.slice ao l.length c, .int .i64 err]) ∧ IntsAt w' ao l.length l ∧ l.length ≤ c ∧ OwnW w' 3 w.heap.size ao l.length ∧ Below w.heap.size w w' := by
  obtain ⟨v, rfl, ho, hb⟩ := h
  obtain ⟨ao, c, rfl, hi⟩ := owns_ints ho hf.1 (by have := hf.2; omega)
  refine ⟨ao, c, rfl, hi, ?_, owns_ownw ho, hb⟩
  rcases ho.2 with ⟨_, h0⟩ | ⟨g, cap, cur, hv, _, _, hn, _⟩
  · omega
  · injection hv with _ _ h3; omega

end Go.Proofs.Ytgkcgfckhmplaaa
