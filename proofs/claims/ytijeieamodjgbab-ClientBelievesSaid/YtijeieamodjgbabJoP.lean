
/- Plain law of who joins and who leaves. No program in sight. -/
import Derived.Test.YtijeieamodjgbabCoP
import Derived.Test.YtijeieamodjgbabCoW
import Derived.Test.YtijeieamodjgbabQuiet
import Derived.Test.YtijeieamodjgbabOwn
import Derived.StillTailTactics

namespace Go.Proofs.Ytijeieamodjgbab
set_option maxRecDepth 100000

end Go.Proofs.Ytijeieamodjgbab

/- Walks of the search and of 'fits'. -/
namespace Go.Proofs.Ytijeieamodjgbab
set_option maxRecDepth 100000
open Go.RowKit
set_option linter.unusedVariables false

end Go.Proofs.Ytijeieamodjgbab

/- Walks of Join and Leave of the program. -/
namespace Go.Proofs.Ytijeieamodjgbab
set_option maxRecDepth 100000
open Go.RowKit
set_option linter.unusedVariables false

end Go.Proofs.Ytijeieamodjgbab

/- Walks of Leave of the program. -/
namespace Go.Proofs.Ytijeieamodjgbab
set_option maxRecDepth 100000
open Go.RowKit
set_option linter.unusedVariables false

end Go.Proofs.Ytijeieamodjgbab

/- Walks of the reference's Join and Leave, and of SameInts. -/
namespace Go.Proofs.Ytijeieamodjgbab
set_option maxRecDepth 100000
open Go.RowKit
set_option linter.unusedVariables false

end Go.Proofs.Ytijeieamodjgbab

/- Walks of the reference's Leave, and of SameInts. -/
namespace Go.Proofs.Ytijeieamodjgbab
set_option maxRecDepth 100000
open Go.RowKit
set_option linter.unusedVariables false

end Go.Proofs.Ytijeieamodjgbab

/- Walk of slices.Equal at ints. -/
namespace Go.Proofs.Ytijeieamodjgbab
set_option maxRecDepth 100000
open Go.RowKit
set_option linter.unusedVariables false

set_option maxHeartbeats 400000 in
theorem equal_any (a : Option Addr) (n c : Nat) (l : List Int) (a' : Option Addr) (n' c' : Nat) (l' : List Int) (w : World) (h : IntsAt w a n l) (h' : IntsAt w a' n' l') :
    Calls Try.prog 92 #[.slice a n c, .slice a' n' c'] w fun e w' => e = .returned (.bool (l == l')) ∧ ∃ q, w' = w.drewN q := by
  have hmax := h.max
  have hmax' := h'.max
  have hlen := h.len
  have hlen' := h'.len
  have H := Lib.hid h; clear h
  have H' := Lib.hid h'; clear h'
  have hb : (l == l') = decide (l = l') := by rw [Bool.eq_iff_iff]; simp
  by_cases hnn : n = n'
  · subst hnn
    have hn0 : ((n : Int) != n) = false := by simp
    have hfin : ∀ k, k = n → l.take k = l'.take k → (l == l') = true := fun k hk ht => by
      rw [List.take_of_length_le (by omega), List.take_of_length_le (by omega)] at ht
      simp [ht]
    have Hfin := Lib.hid hfin; have Hlen := Lib.hid hlen; have Hlen' := Lib.hid hlen'
    clear hfin hb hlen hlen'
    go_enter Try.func92, Try.ntmps92
    go_wp2_with fail
    go_loopw [13] (fun i wr => ∃ k q : Nat, k ≤ n ∧ i = .int .i64 k ∧ wr = w.drewN q ∧ Hid (l.take k = l'.take k)) (fun i _ => n - (intOf i).toNat)
    case atStart => exact ⟨0, 0, by omega, rfl, rfl, Lib.hid (by simp)⟩
    case round =>
      obtain ⟨k, q, hk, rfl, rfl, ht⟩ := hrel
      by_cases hlt : k < n
      · obtain ⟨b, o, x, rfl, hc, _, _, _, hx⟩ := H.out.elem k hlt
        obtain ⟨b', o', x', rfl, hc', _, _, _, hx'⟩ := H'.out.elem k hlt
        cases hne : x != x' with
        | true =>
          have hno := Lib.hid (show (l == l') = false by
            cases h : l == l' with
            | false => rfl
            | true =>
              have he : l = l' := by simpa using h
              subst he
              have : x = x' := by have := hx.out.symm.trans hx'.out; simpa using this
              simp [this] at hne)
          clear hx hx' ht
          go_wp2_with fail
          go_quiet (fail)
          go_wp2_with fail
          go_ret
          exact ⟨by rw [hno.out]; rfl, q + nq, by simp⟩
        | false =>
          have ht' := Lib.hid (show l.take (k + 1) = l'.take (k + 1) by
            have : x = x' := by simpa using hne
            rw [List.take_add_one, List.take_add_one, ht.out, hx.out, hx'.out, this])
          clear hx hx' ht
          go_wp2_with fail
          go_quiet (fail)
          go_wp2_with fail
          go_roundw
          case rel => exact ⟨k + 1, q + nq, by omega, by go_num, by simp, ht'⟩
          case measure => simp [intOf]; omega
      · have hy := Lib.hid (Hfin.out k (by omega) ht.out)
        clear ht
        go_wp2_with fail
        go_ret
        exact ⟨by rw [hy.out]; rfl, q, rfl⟩
  · have hne : ((n : Int) != n') = true := by simp; omega
    have hno := Lib.hid (show (l == l') = false by
      rw [hb]; simp; rintro rfl; omega)
    clear hb hlen hlen'
    go_enter Try.func92, Try.ntmps92
    go_wp2_with fail
    go_ret
    exact ⟨by rw [hno.out]; rfl, 0, rfl⟩
end Go.Proofs.Ytijeieamodjgbab
