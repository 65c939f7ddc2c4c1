/- Walks of Leave of the program. -/
import Derived.Test.YtgkcgfckhmplaaaJoW2
namespace Go.Proofs.Ytgkcgfckhmplaaa
open Go.RowKit
set_option linter.unusedVariables false

set_option maxHeartbeats 400000 in
theorem leave_no (a : Option Addr) (n c : Nat) (l : List Int) (id : Int) (w : World) (h : IntsAt w a n l) (hid : i64 id) (he : leaveE l id ≠ 0) :
    Calls Try.prog 27 #[.slice a n c, .int .i64 id] w (MovePost w [] (leaveE l id)) := by
  have hmax := h.max
  have hlen := h.len
  have H := Lib.hid h; clear h
  cases hf : fitsB l id with
  | false =>
    have he1 := Lib.hid (show leaveE l id = 1 by unfold leaveE; rw [if_pos hf])
    have Hf := Lib.hid hf; clear hf he
    go_enter Try.func27, Try.ntmps27
    go_wp2_with (go_at_call 38; refine (fits_any a n c l id _ H.out).mono ?_; rw [Hf.out]; rintro e w' ⟨rfl, rfl⟩)
    go_ret2
    rw [he1.out]
    exact move_nil (Below.refl _ _)
  | true =>
    have hris := fitsB_ris hf
    have hl10 := risingB_len hris.1
    rw [hlen] at hl10
    have HI := Lib.hid (incP_of hris.1)
    have Hf := Lib.hid hf
    cases hh : hasB l id with
    | false =>
      have he1 := Lib.hid (show leaveE l id = 8 by unfold leaveE; rw [if_neg (by simp [hf]), if_pos hh])
      have Hh := Lib.hid hh; have Hlen := Lib.hid hlen; clear hh hf he hris hlen
      go_enter Try.func27, Try.ntmps27
      go_wp2_with (first | (go_at_call 38; refine (fits_any a n c l id _ H.out).mono ?_; rw [Hf.out]; rintro e w' ⟨rfl, rfl⟩) | (go_at_call 39; refine (search_any a n c l id _ H.out HI.out (by omega)).mono ?_; rw [Hh.out]; rintro e w' ⟨rfl, q, rfl⟩))
      go_ret2
      rw [he1.out]
      exact move_nil (below_drewN (Below.refl _ _) _)
    | true =>
      have h4 : n = 4 := by
        unfold leaveE at he
        rw [if_neg (by simp [hf]), if_neg (by simp [hh]), hlen] at he
        split at he
        · omega
        · exact absurd rfl he
      have he1 := Lib.hid (show leaveE l id = 9 by unfold leaveE; rw [if_neg (by simp [hf]), if_neg (by simp [hh]), if_pos (by omega)])
      have Hh := Lib.hid hh; have Hlen := Lib.hid hlen; clear hh hf he hris hlen
      subst h4
      go_enter Try.func27, Try.ntmps27
      go_wp2_with (first | (go_at_call 38; refine (fits_any a 4 c l id _ H.out).mono ?_; rw [Hf.out]; rintro e w' ⟨rfl, rfl⟩) | (go_at_call 39; refine (search_any a 4 c l id _ H.out HI.out (by omega)).mono ?_; rw [Hh.out]; rintro e w' ⟨rfl, q, rfl⟩))
      go_ret2
      rw [he1.out]
      exact move_nil (below_drewN (Below.refl _ _) _)

set_option maxHeartbeats 400000 in
theorem leave_yes (a : Option Addr) (n c : Nat) (l : List Int) (id : Int) (w : World) (h : IntsAt w a n l) (hc : n ≤ c) (hid : i64 id) (he : leaveE l id = 0) :
    Calls Try.prog 27 #[.slice a n c, .int .i64 id] w (MovePost w (leaveP l id) 0) := by
  have hlen := h.len
  obtain ⟨hf, hh, hl4⟩ := leaveE_0 he
  have hris := fitsB_ris hf
  have hl10 := (risingB_len hris.1).2
  obtain ⟨b, o, x0, rfl, _⟩ := h.elem 0 (by omega)
  have hcell : ∀ i, i < n → w.cell? ⟨b, o + i, none⟩ = some (.int .i64 (l.getD i 0)) := fun i hi => by
    obtain ⟨b', o', he, hc⟩ := h.cell i hi
    simp at he; obtain ⟨rfl, rfl⟩ := he; exact hc
  have hp : posP l id < l.length := by
    obtain ⟨i, hi, hv⟩ := (hasB_iff l id).1 hh
    have := posP_eq l id i (by omega) (fun t ht => by have := incP_of hris.1 t i ht hi; omega) (fun _ => by omega)
    omega
  obtain ⟨m, rfl⟩ : ∃ m, n = m + 1 := ⟨n - 1, by omega⟩
  have Hcell := Lib.hid hcell; clear hcell
  have H := Lib.hid h; clear h
  rw [hlen] at hl10 hl4 hp
  have Hf := Lib.hid hf; have Hlen := Lib.hid hlen
  have hj := leaveP_ok he
  have CS := search_any _ (m + 1) c l id w H.out (incP_of hris.1) (by omega)
  rw [hh] at CS
  generalize posP l id = p at *
  have Hj := Lib.hid hj
  replace CS := Lib.hid CS
  clear hf hh he hris hlen hj
  obtain ⟨X1, hX1⟩ : ∃ X1, X1 = intsV (l.take p) := ⟨_, rfl⟩
  obtain ⟨X2, hX2⟩ : ∃ X2, X2 = intsV (l.drop (p + 1)) := ⟨_, rfl⟩
  have l1 : X1.length = p := by rw [hX1]; simp [intsV]; rw [Hlen.out]; omega
  have l2 : X2.length = m - p := by rw [hX2]; simp [intsV]; rw [Hlen.out]; omega
  have L1 := Lib.hid l1; have L2 := Lib.hid l2; clear l1 l2
  have HX1 := Lib.hid hX1; have HX2 := Lib.hid hX2; clear hX1 hX2
  have o1 : ∀ v ∈ X1, v.oneCell' = true := by rw [HX1.out]; exact intsV_one _
  have o2 : ∀ v ∈ X2, v.oneCell' = true := by rw [HX2.out]; exact intsV_one _
  have s1 : ∀ j v, X1[j]? = some v → w.cell? ⟨b, o + j, none⟩ = some v := fun j v hv => by
    rw [HX1.out] at hv
    have hj : j < p := by have := (List.getElem?_eq_some_iff.1 hv).1; simp [intsV] at this; omega
    have hjl : j < l.length := by rw [Hlen.out]; omega
    rw [Hcell.out j (by omega), ← hv]
    simp [intsV, hj, List.getD, hjl]
  have s2 : ∀ j v, X2[j]? = some v → w.cell? ⟨b, o + (p + 1) + j, none⟩ = some v := fun j v hv => by
    rw [HX2.out] at hv
    have hj : p + 1 + j < l.length := by have := (List.getElem?_eq_some_iff.1 hv).1; simp [intsV] at this; omega
    rw [Nat.add_assoc, Hcell.out (p + 1 + j) (by rw [← Hlen.out]; exact hj), ← hv]
    simp [intsV, List.getD, hj]
  have O1 := Lib.hid o1; have O2 := Lib.hid o2; have S1 := Lib.hid s1; have S2 := Lib.hid s2
  clear o1 o2 s1 s2
  obtain ⟨i0, hi, hz0, hz1, hz2⟩ := info_parts info_int
  go_enter Try.func27, Try.ntmps27
  go_wp2_with fail
  refine (fits_any _ _ c l id _ H.out).mono ?_; rw [Hf.out]; rintro e w' ⟨rfl, rfl⟩
  go_wp2_with fail
  refine CS.out.mono ?_; clear CS; rintro e w' ⟨rfl, q, rfl⟩
  have h4 : ((m : Int) + 1 == 4) = false := by simp; omega
  go_wp2_with (at_make; refine wpList_make_full _ rfl _ _ 28 rfl w.heap.size 3 i0 (.int .i64 0) 1 Try.underlying28 hi hz0 hz1 _ _ _ _ m rfl rfl (by omega) (by omega) ?b1 ?b2 ?b3 ?_)
  case b1 => rw [hz2]; omega
  case b2 => simp only [maxLen]; omega
  case b3 => simp
  intro w1 hown hgr
  have hb1 : Below w.heap.size w w1 := (below_drewN (Below.refl _ _) q).trans (grown_below_none hgr)
  obtain ⟨hg, _, _⟩ := owns_whole hown
  obtain ⟨Z, hZ⟩ : ∃ Z, Z = (madeCells #[Value.int .i64 0] m).toList := ⟨_, rfl⟩
  have hZl : Z.length = m := by rw [hZ]; simp [size_madeCells]
  rw [← hZ] at hg
  have HZl := Lib.hid hZl; clear hZl hZ hown hgr
  have Hg := Lib.hid hg; clear hg
  have Hb1 := Lib.hid hb1
  go_wp2_with (refine wpList_copy_splice rfl (.tmp 28) (.tmp 31) 28 28 rfl 3 Try.underlying28 (by kernel_rfl) _ _ _ _ _ _ rfl rfl w.heap.size 0 Z 3 Hg.out X1 ?n1 ?p1 ?f1 O1.out w.heap.size w Hb1.out (Nat.le_refl _) ?_)
  case n1 => rw [L1.out]; show p = min p m; omega
  case p1 => exact fun _ j v hv => below_cell Hb1.out (S1.out j v hv)
  case f1 => rw [L1.out, HZl.out]; omega
  intro w3 hg3 hb3
  have Hb3 := Lib.hid hb3; clear hb3
  obtain ⟨Z3, hZ3⟩ : ∃ Z3, Z3 = splice Z 0 X1 := ⟨_, rfl⟩
  have hl3 : Z3.length = m := by rw [hZ3, length_splice _ _ _ (by rw [L1.out, HZl.out]; omega), HZl.out]
  have Hl3 := Lib.hid hl3
  have Hg3 := Lib.hid (show w3.heap[w.heap.size]? = some (.cells Z3.toArray 3 (0, 0)) by rw [hZ3]; exact hg3.out)
  have HZ3 := Lib.hid hZ3
  clear hl3 hZ3 hg3 Hg Hb1
  go_wp2_with fail
  have hfin : ∀ w4 : World, w4.heap[w.heap.size]? = some (.cells (splice Z3 p X2).toArray 3 (0, 0)) → Below w.heap.size w w4 →
      MovePost w (leaveP l id) 0 (.returned (.tuple #[.slice (some ⟨w.heap.size, 0, none⟩) m m, .int .i64 0])) w4 := fun w4 h1 h2 => by
    rw [HZ3.out, splice_leave Z X1 X2 p m L1.out L2.out HZl.out (by omega), HX1.out, HX2.out, ← intsV_append, ← Hj.out] at h1
    have hl : (intsV (leaveP l id)).length = m := by rw [intsV_len, Hj.out]; simp; rw [Hlen.out]; omega
    have := owns_of h1 (Nat.le_refl _) (by rw [hl]; simp only [maxLen]; omega)
    rw [hl] at this
    refine ⟨_, rfl, ?_, h2⟩
    rw [show (leaveP l id).length = m by rw [← intsV_len]; exact hl]
    exact this
  have Hfin := Lib.hid hfin; clear hfin
  have g0 : (0 : Int) ≤ (p : Int) + 1 := by omega
  have g1 : ((p : Int) + 1).toNat = p + 1 := by omega
  have g2 : (p : Int) + 1 ≤ (m : Int) + 1 := by omega
  have g3 : (p : Int) ≤ (m : Int) := by omega
  have g4 : IntKind.i64.wrap ((p : Int) + 1) = (p : Int) + 1 := IntWalk.i64_in _ (by omega)
  by_cases hpn : p = m
  · have hx2 : X2.length = 0 := by rw [L2.out]; omega
    have Hx2 := Lib.hid hx2
    subst hpn
    clear hx2
    by_cases hcp : c = p + 1
    · subst hcp
      go_still_tail 7, (by kernel_rfl)
      change wpList _ _ _ _ _ w3.drew
      refine wpList_copy_splice rfl (.tmp 35) (.tmp 39) 28 28 rfl 3 Try.underlying28 (by kernel_rfl) _ _ _ _ _ _ rfl rfl w.heap.size p Z3 3 Hg3.out X2 ?n2 ?p2 ?f2 O2.out w.heap.size w Hb3.out.drew (Nat.le_refl _) ?_
      case n2 => rw [Hx2.out]; simp
      case p2 => intro h; rw [Hx2.out] at h; omega
      case f2 => rw [Hx2.out, Hl3.out]; omega
      intro w4 hg4 hb4
      have Hb4 := Lib.hid hb4; clear hb4 g1 g4
      go_wp2_with fail
      go_ret2
      exact Hfin.out w4 hg4.out Hb4.out
    · have e2 : ¬ c = p + 1 := hcp
      go_still_tail 7, (by kernel_rfl)
      change wpList _ _ _ _ _ w3.drew
      refine wpList_copy_splice rfl (.tmp 35) (.tmp 39) 28 28 rfl 3 Try.underlying28 (by kernel_rfl) _ _ _ _ _ _ rfl rfl w.heap.size p Z3 3 Hg3.out X2 ?n2 ?p2 ?f2 O2.out w.heap.size w Hb3.out.drew (Nat.le_refl _) ?_
      case n2 => rw [Hx2.out]; simp
      case p2 => intro h; rw [Hx2.out] at h; omega
      case f2 => rw [Hx2.out, Hl3.out]; omega
      intro w4 hg4 hb4
      have Hb4 := Lib.hid hb4; clear hb4 g1 g4
      go_wp2_with fail
      go_ret2
      exact Hfin.out w4 hg4.out Hb4.out
  · have e1 : ¬ m = p := fun h => hpn h.symm
    have e2 : ¬ c = p + 1 := by omega
    go_still_tail 7, (by kernel_rfl)
    change wpList _ _ _ _ _ w3.drew
    refine wpList_copy_splice rfl (.tmp 35) (.tmp 39) 28 28 rfl 3 Try.underlying28 (by kernel_rfl) _ _ _ _ _ _ rfl rfl w.heap.size p Z3 3 Hg3.out X2 ?n2 ?p2 ?f2 O2.out w.heap.size w Hb3.out.drew (Nat.le_refl _) ?_
    case n2 => rw [L2.out]; show _ = min _ _; omega
    case p2 => exact fun _ => ⟨rfl, _, rfl, fun j v hv => by rw [Addr.add_lit]; exact below_cell Hb3.out (S2.out j v hv)⟩
    case f2 => rw [L2.out, Hl3.out]; omega
    intro w4 hg4 hb4
    have Hb4 := Lib.hid hb4; clear hb4 g1 g4
    go_wp2_with fail
    go_ret2
    exact Hfin.out w4 hg4.out Hb4.out
end Go.Proofs.Ytgkcgfckhmplaaa
