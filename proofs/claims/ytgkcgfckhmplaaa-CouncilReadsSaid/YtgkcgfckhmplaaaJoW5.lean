/- Walks of the reference's Leave, and of SameInts. -/
import Derived.Test.YtgkcgfckhmplaaaJoW4
namespace Go.Proofs.Ytgkcgfckhmplaaa
open Go.RowKit
set_option linter.unusedVariables false

set_option maxHeartbeats 400000 in
theorem rleave_no (a : Option Addr) (n c : Nat) (l : List Int) (id : Int) (w : World) (h : IntsAt w a n l) (hid : i64 id) (he : leaveE l id ≠ 0) :
    Calls Try.prog 28 #[.slice a n c, .int .i64 id] w (MovePost w [] (leaveE l id)) := by
  have hmax := h.max
  have hlen := h.len
  have H := Lib.hid h; clear h
  cases hf : fitsB l id with
  | false =>
    have he1 := Lib.hid (show leaveE l id = 1 by unfold leaveE; rw [if_pos hf])
    clear he
    rcases fitsB_cases hf with hr | ⟨hr, h0⟩ | ⟨hr, h0, h1⟩
    all_goals
      have Hr := Lib.hid hr; clear hr hf
      go_enter Try.func28, Try.ntmps28
      go_wp2_with (go_at_call 36; refine (rmembers_any a n c l _ H.out).mono ?_; rw [Hr.out]; rintro e w' ⟨rfl, q, rfl⟩)
      go_ret2
      rw [he1.out]
      exact move_nil (below_drewN (Below.refl _ _) _)
  | true =>
    obtain ⟨hr, hi0, hi1⟩ := fitsB_ris hf
    have hl10 := risingB_len hr
    rw [hlen] at hl10
    have i0 : ¬ id < 0 := by omega
    have i1 : ¬ 16 ≤ id := by omega
    have Hr := Lib.hid hr
    cases hh : hasB l id with
    | false =>
      have he1 := Lib.hid (show leaveE l id = 8 by unfold leaveE; rw [if_neg (by simp [hf]), if_pos hh])
      have Hh := Lib.hid hh; clear hh hf he hr hlen
      go_enter Try.func28, Try.ntmps28
      go_wp2_with (first | (go_at_call 36; refine (rmembers_any a n c l _ H.out).mono ?_; rw [Hr.out]; rintro e w' ⟨rfl, q, rfl⟩) | (go_at_call 22; refine (rhas_any a n c l id _ (H.out.below (below_drewN (Below.refl _ _) _))).mono ?_; rw [Hh.out]; rintro e w' ⟨rfl, rfl⟩))
      go_ret2
      rw [he1.out]
      exact move_nil (below_drewN (Below.refl _ _) _)
    | true =>
      have h10 : n = 4 := by
        unfold leaveE at he
        rw [if_neg (by simp [hf]), if_neg (by simp [hh]), hlen] at he
        split at he
        · omega
        · exact absurd rfl he
      have he1 := Lib.hid (show leaveE l id = 9 by unfold leaveE; rw [if_neg (by simp [hf]), if_neg (by simp [hh]), if_pos (by omega)])
      have Hh := Lib.hid hh; clear hh hf he hr hlen
      subst h10
      go_enter Try.func28, Try.ntmps28
      go_wp2_with (first | (go_at_call 36; refine (rmembers_any a 4 c l _ H.out).mono ?_; rw [Hr.out]; rintro e w' ⟨rfl, q, rfl⟩) | (go_at_call 22; refine (rhas_any a 4 c l id _ (H.out.below (below_drewN (Below.refl _ _) _))).mono ?_; rw [Hh.out]; rintro e w' ⟨rfl, rfl⟩))
      go_ret2
      rw [he1.out]
      exact move_nil (below_drewN (Below.refl _ _) _)

set_option maxHeartbeats 400000 in
theorem rleave_yes (a : Option Addr) (n c : Nat) (l : List Int) (id : Int) (w : World) (h : IntsAt w a n l) (hid : i64 id) (he : leaveE l id = 0) :
    Calls Try.prog 28 #[.slice a n c, .int .i64 id] w (MovePost w (leaveP l id) 0) := by
  have hmax := h.max
  have hlen := h.len
  have H := Lib.hid h; clear h
  obtain ⟨hf, hh, hl4⟩ := leaveE_0 he
  obtain ⟨hr, hi0, hi1⟩ := fitsB_ris hf
  have hl10 := (risingB_len hr).2
  rw [hlen] at hl4 hl10
  have i0 : ¬ id < 0 := by omega
  have i1 : ¬ 16 ≤ id := by omega
  have Hr := Lib.hid hr
  have Hh := Lib.hid hh
  have Hj := Lib.hid (dropP_leave he)
  have Hlen := Lib.hid hlen
  clear hh hf he hr hlen
  obtain ⟨ii, hi, hz0, hz1, hz2⟩ := info_parts info_int
  go_enter Try.func28, Try.ntmps28
  go_wp2_with (first | (go_at_call 36; refine (rmembers_any a n c l _ H.out).mono ?_; rw [Hr.out]; rintro e w' ⟨rfl, q, rfl⟩) | (go_at_call 22; refine (rhas_any a n c l id _ (H.out.below (below_drewN (Below.refl _ _) _))).mono ?_; rw [Hh.out]; rintro e w' ⟨rfl, rfl⟩))
  go_loopw [6, 7] (fun v i wr => ∃ k : Nat, k ≤ n ∧ i = .int .i64 k ∧ Hid (wr.ownsRow w.heap.size 3 1 v (dropP (l.take k) id).length (intsV (dropP (l.take k) id))) ∧ Hid (Below w.heap.size w wr)) (fun _ i _ => n - (intOf i).toNat)
  case atStart => exact ⟨0, by omega, rfl, Lib.hid (World.ownsRow_nil _ _ _ _), Lib.hid (below_drewN (Below.refl _ _) _)⟩
  case round =>
    obtain ⟨k, hk, rfl, hown, hB⟩ := hrel
    by_cases hlt : k < n
    · obtain ⟨b, o, x, rfl, hc, b0, b1, _, hx⟩ := (H.out.below hB.out).elem k hlt
      have ht := Lib.hid (show l.take (k + 1) = l.take k ++ [x] by
        rw [List.take_add_one, hx.out]; rfl)
      cases hne : x == id with
      | true =>
        have hd := Lib.hid (show dropP (l.take (k + 1)) id = dropP (l.take k) id by rw [ht.out]; simp [dropP, bne, hne])
        have hne2 : (x != id) = false := by simp [bne, hne]
        clear ht hx hne
        go_wp2_with fail
        go_roundw
        case rel => exact ⟨k + 1, by omega, by go_num, by rw [hd.out]; exact hown, hB⟩
        case measure => simp [intOf]; omega
      | false =>
        have hd := Lib.hid (show dropP (l.take (k + 1)) id = dropP (l.take k) id ++ [x] by rw [ht.out]; simp [dropP, bne, hne])
        have hne2 : (x != id) = true := by simp [bne, hne]
        have hL : (dropP (l.take k) id).length ≤ k := by
          have h1 : (dropP (l.take k) id).length ≤ (l.take k).length := List.length_filter_le ..
          simp at h1; omega
        have hfin : ∀ (v' : Value) (w1 : World), w1.ownsRow w.heap.size 3 1 v' ((dropP (l.take k) id).length + 1) (intsV (dropP (l.take k) id) ++ [.int .i64 x]) → w1.ownsRow w.heap.size 3 1 v' (dropP (l.take (k + 1)) id).length (intsV (dropP (l.take (k + 1)) id)) := fun v' w1 h => by
          rw [hd.out, intsV_append, List.length_append]; exact h
        have Hfin := Lib.hid hfin; clear hfin
        clear ht hx hne hd
        obtain ⟨D, hD⟩ : ∃ D, D = dropP (l.take k) id := ⟨_, rfl⟩
        rw [← hD] at hown Hfin hL
        have HD := Lib.hid hD; clear hD
        go_wp2_with (at_builtin; refine wpList_append_own _ rfl (.tmp 41) (.tmp 46) 28 rfl w.heap.size 3 ii (.int .i64 0) 1 8 Try.underlying28 hi hz0 hz1 hz2 rfl (by decide) _ D.length (intsV D) rfl (hown.out.alloc _) ⟨wr.heap.size, 0, none⟩ 1 1 [.int .i64 x] rfl rfl ?c1 ?c2 ?c3 ?c4 ?c5 ?_)
        case c1 => exact cell_one_new _ _ _
        case c2 => simp [Value.oneCell']
        case c3 => simp only [maxLen]; omega
        case c4 => omega
        case c5 => have := hB.out.size; simp; omega
        intro v' w1 hown1 hg1 _
        have hB1 := Lib.hid ((balloc hB.out _).grown hg1 (by have := hB.out.size; simp; omega) (fun k hk => (hown.out.lt k hk).1))
        have hown1' := Lib.hid (Hfin.out v' w1 hown1)
        clear hown hown1 hg1 hB Hfin hc
        go_wp2_with fail
        go_roundw
        case rel => exact ⟨k + 1, by omega, by go_num, hown1', hB1⟩
        case measure => simp [intOf]; omega
    · have hk' : k = n := by omega
      have hown' := Lib.hid (show wr.ownsRow w.heap.size 3 1 u6 (leaveP l id).length (intsV (leaveP l id)) by
        have := hown.out
        rw [List.take_of_length_le (by rw [Hlen.out]; omega), Hj.out] at this
        exact this)
      clear hown
      go_wp2_with fail
      go_ret2
      exact ⟨_, rfl, hown'.out, hB.out⟩

set_option maxHeartbeats 400000 in
theorem sameints_any (a : Option Addr) (n c : Nat) (l : List Int) (a' : Option Addr) (n' c' : Nat) (l' : List Int) (w : World) (h : IntsAt w a n l) (h' : IntsAt w a' n' l') :
    Calls Try.prog 29 #[.slice a n c, .slice a' n' c'] w fun e w' => e = .returned (.bool (l == l')) ∧ ∃ q, w' = w.drewN q := by
  have hmax := h.max
  have hmax' := h'.max
  have hlen := h.len
  have hlen' := h'.len
  have H := Lib.hid h; clear h
  have H' := Lib.hid h'; clear h'
  have hb : (l == l') = decide (l = l') := by rw [Bool.eq_iff_iff]; simp
  by_cases hnn : n = n'
  · subst hnn
    have hn0 : ((n : Int) != n) = false := by simp
    have hfin : ∀ k, k = n → l.take k = l'.take k → (l == l') = true := fun k hk ht => by
      rw [List.take_of_length_le (by omega), List.take_of_length_le (by omega)] at ht
      simp [ht]
    have Hfin := Lib.hid hfin; have Hlen := Lib.hid hlen; have Hlen' := Lib.hid hlen'
    clear hfin hb hlen hlen'
    go_enter Try.func29, Try.ntmps29
    go_wp2_with fail
    go_loopw [5] (fun i wr => ∃ k q : Nat, k ≤ n ∧ i = .int .i64 k ∧ wr = w.drewN q ∧ Hid (l.take k = l'.take k)) (fun i _ => n - (intOf i).toNat)
    case atStart => exact ⟨0, 0, by omega, rfl, rfl, Lib.hid (by simp)⟩
    case round =>
      obtain ⟨k, q, hk, rfl, rfl, ht⟩ := hrel
      by_cases hlt : k < n
      · obtain ⟨b, o, x, rfl, hc, _, _, _, hx⟩ := H.out.elem k hlt
        obtain ⟨b', o', x', rfl, hc', _, _, _, hx'⟩ := H'.out.elem k hlt
        cases hne : x != x' with
        | true =>
          have hno := Lib.hid (show (l == l') = false by
            cases h : l == l' with
            | false => rfl
            | true =>
              have he : l = l' := by simpa using h
              subst he
              have : x = x' := by have := hx.out.symm.trans hx'.out; simpa using this
              simp [this] at hne)
          clear hx hx' ht
          go_wp2_with fail
          go_quiet (fail)
          go_wp2_with fail
          go_ret
          exact ⟨by rw [hno.out]; rfl, q + nq, by simp⟩
        | false =>
          have ht' := Lib.hid (show l.take (k + 1) = l'.take (k + 1) by
            have : x = x' := by simpa using hne
            rw [List.take_add_one, List.take_add_one, ht.out, hx.out, hx'.out, this])
          clear hx hx' ht
          go_wp2_with fail
          go_quiet (fail)
          go_wp2_with fail
          go_roundw
          case rel => exact ⟨k + 1, q + nq, by omega, by go_num, by simp, ht'⟩
          case measure => simp [intOf]; omega
      · have hy := Lib.hid (Hfin.out k (by omega) ht.out)
        clear ht
        go_wp2_with fail
        go_ret
        exact ⟨by rw [hy.out]; rfl, q, rfl⟩
  · have hne : ((n : Int) != n') = true := by simp; omega
    have hno := Lib.hid (show (l == l') = false by
      rw [hb]; simp; rintro rfl; omega)
    clear hb hlen hlen'
    go_enter Try.func29, Try.ntmps29
    go_wp2_with fail
    go_ret
    exact ⟨by rw [hno.out]; rfl, 0, rfl⟩
end Go.Proofs.Ytgkcgfckhmplaaa
