
/- Walks of the search and of 'fits'. -/
import Derived.Test.YtfhbjajhmegdmaaCoW
import Derived.Test.YtfhbjajhmegdmaaJoP
import Derived.Test.YtfhbjajhmegdmaaQuiet
import Derived.Test.YtfhbjajhmegdmaaOwn
import Derived.StillTailTactics
namespace Go.Proofs.Ytfhbjajhmegdmaa
set_option maxRecDepth 100000
open Go.RowKit
set_option linter.unusedVariables false



end Go.Proofs.Ytfhbjajhmegdmaa

/- Walks of Join and Leave of the program. -/
namespace Go.Proofs.Ytfhbjajhmegdmaa
set_option maxRecDepth 100000
open Go.RowKit
set_option linter.unusedVariables false

theorem info_int : (Try.prog.info? 3).map (fun i => (i.zero, i.size, i.bytes)) = some (some (.int .i64 0), 1, 8) := by kernel_rfl

/-- What Join and Leave answer: a new list, and an error. -/
def MovePost (w : World) (l : List Int) (err : Int) (e : Ending) (w' : World) : Prop :=
  ∃ v, e = .returned (.tuple #[v, .int .i64 err]) ∧ w'.ownsRow w.heap.size 3 1 v l.length (intsV l) ∧ Below w.heap.size w w'

theorem move_nil {w w' : World} {err : Int} (hb : Below w.heap.size w w') : MovePost w [] err (.returned (.tuple #[.slice none 0 0, .int .i64 err])) w' :=
  ⟨_, rfl, World.ownsRow_nil _ _ _ _, hb⟩


theorem splice_join {α : Type} (Z X1 X2 : List α) (y : α) (p n : Nat) (l1 : X1.length = p) (l2 : X2.length = n - p) (hZ : Z.length = n + 1) (hp : p ≤ n) :
    splice ((splice Z 0 X1).set p y) (p + 1) X2 = X1 ++ y :: X2 := by
  have e1 : splice Z 0 X1 = X1 ++ Z.drop p := by simp [splice, l1]
  obtain ⟨z, r, hr⟩ : ∃ z r, Z.drop p = z :: r := by
    cases h : Z.drop p with
    | nil => have := congrArg List.length h; simp at this; omega
    | cons z r => exact ⟨z, r, rfl⟩
  have hrl : r.length = n - p := by have := congrArg List.length hr; simp at this; omega
  have e2 : (X1 ++ z :: r).set p y = X1 ++ y :: r := by subst l1; simp
  rw [e1, hr, e2]
  have e3 : X1 ++ y :: r = (X1 ++ [y]) ++ r := by simp
  have l3 : (X1 ++ [y]).length = p + 1 := by simp [l1]
  rw [e3, splice, List.take_left' l3, List.drop_of_length_le (by simp; omega)]
  simp
theorem splice_leave {α : Type} (Z X1 X2 : List α) (p n : Nat) (l1 : X1.length = p) (l2 : X2.length = n - p) (hZ : Z.length = n) (hp : p ≤ n) :
    splice (splice Z 0 X1) p X2 = X1 ++ X2 := by
  have e1 : splice Z 0 X1 = X1 ++ Z.drop p := by simp [splice, l1]
  rw [e1, splice, List.take_left' l1, List.drop_of_length_le (by simp; omega)]
  simp
theorem intsV_append (a b : List Int) : intsV (a ++ b) = intsV a ++ intsV b := by simp [intsV]
theorem intsV_cons (x : Int) (b : List Int) : intsV (x :: b) = .int .i64 x :: intsV b := rfl
theorem intsV_len (a : List Int) : (intsV a).length = a.length := by simp [intsV]

end Go.Proofs.Ytfhbjajhmegdmaa

/- Walks of Leave of the program. -/
namespace Go.Proofs.Ytfhbjajhmegdmaa
set_option maxRecDepth 100000
open Go.RowKit
set_option linter.unusedVariables false


end Go.Proofs.Ytfhbjajhmegdmaa

/- Walks of the reference's Join and Leave, and of SameInts. -/
namespace Go.Proofs.Ytfhbjajhmegdmaa
set_option maxRecDepth 100000
open Go.RowKit
set_option linter.unusedVariables false

theorem fitsB_cases {l : List Int} {id : Int} (h : fitsB l id = false) : risingB l = false ∨ (risingB l = true ∧ id < 0) ∨ (risingB l = true ∧ ¬ id < 0 ∧ 16 ≤ id) := by
  cases hr : risingB l with
  | false => exact .inl rfl
  | true =>
    simp [fitsB, hr] at h
    by_cases h0 : id < 0
    · exact .inr (.inl ⟨rfl, h0⟩)
    · exact .inr (.inr ⟨rfl, h0, h (by omega)⟩)


end Go.Proofs.Ytfhbjajhmegdmaa

/- Walks of the reference's Leave, and of SameInts. -/
namespace Go.Proofs.Ytfhbjajhmegdmaa
set_option maxRecDepth 100000
open Go.RowKit
set_option linter.unusedVariables false



set_option maxHeartbeats 400000 in
theorem sameints_any (a : Option Addr) (n c : Nat) (l : List Int) (a' : Option Addr) (n' c' : Nat) (l' : List Int) (w : World) (h : IntsAt w a n l) (h' : IntsAt w a' n' l') :
    Calls Try.prog 41 #[.slice a n c, .slice a' n' c'] w fun e w' => e = .returned (.bool (l == l')) ∧ ∃ q, w' = w.drewN q := by
  have hmax := h.max
  have hmax' := h'.max
  have hlen := h.len
  have hlen' := h'.len
  have H := Lib.hid h; clear h
  have H' := Lib.hid h'; clear h'
  have hb : (l == l') = decide (l = l') := by rw [Bool.eq_iff_iff]; simp
  by_cases hnn : n = n'
  · subst hnn
    have hn0 : ((n : Int) != n) = false := by simp
    have hfin : ∀ k, k = n → l.take k = l'.take k → (l == l') = true := fun k hk ht => by
      rw [List.take_of_length_le (by omega), List.take_of_length_le (by omega)] at ht
      simp [ht]
    have Hfin := Lib.hid hfin; have Hlen := Lib.hid hlen; have Hlen' := Lib.hid hlen'
    clear hfin hb hlen hlen'
    go_enter Try.func41, Try.ntmps41
    go_wp2_with fail
    go_loopw [5] (fun i wr => ∃ k q : Nat, k ≤ n ∧ i = .int .i64 k ∧ wr = w.drewN q ∧ Hid (l.take k = l'.take k)) (fun i _ => n - (intOf i).toNat)
    case atStart => exact ⟨0, 0, by omega, rfl, rfl, Lib.hid (by simp)⟩
    case round =>
      obtain ⟨k, q, hk, rfl, rfl, ht⟩ := hrel
      by_cases hlt : k < n
      · obtain ⟨b, o, x, rfl, hc, _, _, _, hx⟩ := H.out.elem k hlt
        obtain ⟨b', o', x', rfl, hc', _, _, _, hx'⟩ := H'.out.elem k hlt
        cases hne : x != x' with
        | true =>
          have hno := Lib.hid (show (l == l') = false by
            cases h : l == l' with
            | false => rfl
            | true =>
              have he : l = l' := by simpa using h
              subst he
              have : x = x' := by have := hx.out.symm.trans hx'.out; simpa using this
              simp [this] at hne)
          clear hx hx' ht
          go_wp2_with fail
          go_quiet (fail)
          go_wp2_with fail
          go_ret
          exact ⟨by rw [hno.out]; rfl, q + nq, by simp⟩
        | false =>
          have ht' := Lib.hid (show l.take (k + 1) = l'.take (k + 1) by
            have : x = x' := by simpa using hne
            rw [List.take_add_one, List.take_add_one, ht.out, hx.out, hx'.out, this])
          clear hx hx' ht
          go_wp2_with fail
          go_quiet (fail)
          go_wp2_with fail
          go_roundw
          case rel => exact ⟨k + 1, q + nq, by omega, by go_num, by simp, ht'⟩
          case measure => simp [intOf]; omega
      · have hy := Lib.hid (Hfin.out k (by omega) ht.out)
        clear ht
        go_wp2_with fail
        go_ret
        exact ⟨by rw [hy.out]; rfl, q, rfl⟩
  · have hne : ((n : Int) != n') = true := by simp; omega
    have hno := Lib.hid (show (l == l') = false by
      rw [hb]; simp; rintro rfl; omega)
    clear hb hlen hlen'
    go_enter Try.func41, Try.ntmps41
    go_wp2_with fail
    go_ret
    exact ⟨by rw [hno.out]; rfl, 0, rfl⟩
end Go.Proofs.Ytfhbjajhmegdmaa
