/- Walks of Join and Leave of the program. -/
import Derived.Test.YtgkcgfckhmplaaaJoW
import Derived.Test.YtgkcgfckhmplaaaOwn
import Derived.StillTailTactics
namespace Go.Proofs.Ytgkcgfckhmplaaa
open Go.RowKit
set_option linter.unusedVariables false

theorem info_int : (Try.prog.info? 3).map (fun i => (i.zero, i.size, i.bytes)) = some (some (.int .i64 0), 1, 8) := by kernel_rfl

/-- What Join and Leave answer: a new list, and an error. -/
def MovePost (w : World) (l : List Int) (err : Int) (e : Ending) (w' : World) : Prop :=
  ∃ v, e = .returned (.tuple #[v, .int .i64 err]) ∧ w'.ownsRow w.heap.size 3 1 v l.length (intsV l) ∧ Below w.heap.size w w'

theorem move_nil {w w' : World} {err : Int} (hb : Below w.heap.size w w') : MovePost w [] err (.returned (.tuple #[.slice none 0 0, .int .i64 err])) w' :=
  ⟨_, rfl, World.ownsRow_nil _ _ _ _, hb⟩

set_option maxHeartbeats 400000 in
theorem join_no (a : Option Addr) (n c : Nat) (l : List Int) (id : Int) (w : World) (h : IntsAt w a n l) (hid : i64 id) (he : joinE l id ≠ 0) :
    Calls Try.prog 25 #[.slice a n c, .int .i64 id] w (MovePost w [] (joinE l id)) := by
  have hmax := h.max
  have hlen := h.len
  have H := Lib.hid h; clear h
  cases hf : fitsB l id with
  | false =>
    have he1 := Lib.hid (show joinE l id = 1 by unfold joinE; rw [if_pos hf])
    have Hf := Lib.hid hf; clear hf he
    go_enter Try.func25, Try.ntmps25
    go_wp2_with (go_at_call 38; refine (fits_any a n c l id _ H.out).mono ?_; rw [Hf.out]; rintro e w' ⟨rfl, rfl⟩)
    go_ret2
    rw [he1.out]
    exact move_nil (Below.refl _ _)
  | true =>
    have hris := fitsB_ris hf
    have hl10 := risingB_len hris.1
    rw [hlen] at hl10
    have HI := Lib.hid (incP_of hris.1)
    have Hf := Lib.hid hf
    cases hh : hasB l id with
    | true =>
      have he1 := Lib.hid (show joinE l id = 7 by unfold joinE; rw [if_neg (by simp [hf]), if_pos hh])
      have Hh := Lib.hid hh; have Hlen := Lib.hid hlen; clear hh hf he hris hlen
      go_enter Try.func25, Try.ntmps25
      go_wp2_with (first | (go_at_call 38; refine (fits_any a n c l id _ H.out).mono ?_; rw [Hf.out]; rintro e w' ⟨rfl, rfl⟩) | (go_at_call 39; refine (search_any a n c l id _ H.out HI.out (by omega)).mono ?_; rw [Hh.out]; rintro e w' ⟨rfl, q, rfl⟩))
      go_ret2
      rw [he1.out]
      exact move_nil (below_drewN (Below.refl _ _) _)
    | false =>
      have h10 : n = 10 := by
        unfold joinE at he
        rw [if_neg (by simp [hf]), if_neg (by simp [hh]), hlen] at he
        split at he
        · omega
        · exact absurd rfl he
      have he1 := Lib.hid (show joinE l id = 10 by unfold joinE; rw [if_neg (by simp [hf]), if_neg (by simp [hh]), if_pos (by omega)])
      have Hh := Lib.hid hh; have Hlen := Lib.hid hlen; clear hh hf he hris hlen
      subst h10
      go_enter Try.func25, Try.ntmps25
      go_wp2_with (first | (go_at_call 38; refine (fits_any a 10 c l id _ H.out).mono ?_; rw [Hf.out]; rintro e w' ⟨rfl, rfl⟩) | (go_at_call 39; refine (search_any a 10 c l id _ H.out HI.out (by omega)).mono ?_; rw [Hh.out]; rintro e w' ⟨rfl, q, rfl⟩))
      go_ret2
      rw [he1.out]
      exact move_nil (below_drewN (Below.refl _ _) _)

theorem splice_join {α : Type} (Z X1 X2 : List α) (y : α) (p n : Nat) (l1 : X1.length = p) (l2 : X2.length = n - p) (hZ : Z.length = n + 1) (hp : p ≤ n) :
    splice ((splice Z 0 X1).set p y) (p + 1) X2 = X1 ++ y :: X2 := by
  have e1 : splice Z 0 X1 = X1 ++ Z.drop p := by simp [splice, l1]
  obtain ⟨z, r, hr⟩ : ∃ z r, Z.drop p = z :: r := by
    cases h : Z.drop p with
    | nil => have := congrArg List.length h; simp at this; omega
    | cons z r => exact ⟨z, r, rfl⟩
  have hrl : r.length = n - p := by have := congrArg List.length hr; simp at this; omega
  have e2 : (X1 ++ z :: r).set p y = X1 ++ y :: r := by subst l1; simp
  rw [e1, hr, e2]
  have e3 : X1 ++ y :: r = (X1 ++ [y]) ++ r := by simp
  have l3 : (X1 ++ [y]).length = p + 1 := by simp [l1]
  rw [e3, splice, List.take_left' l3, List.drop_of_length_le (by simp; omega)]
  simp
theorem splice_leave {α : Type} (Z X1 X2 : List α) (p n : Nat) (l1 : X1.length = p) (l2 : X2.length = n - p) (hZ : Z.length = n) (hp : p ≤ n) :
    splice (splice Z 0 X1) p X2 = X1 ++ X2 := by
  have e1 : splice Z 0 X1 = X1 ++ Z.drop p := by simp [splice, l1]
  rw [e1, splice, List.take_left' l1, List.drop_of_length_le (by simp; omega)]
  simp
theorem intsV_append (a b : List Int) : intsV (a ++ b) = intsV a ++ intsV b := by simp [intsV]
theorem intsV_cons (x : Int) (b : List Int) : intsV (x :: b) = .int .i64 x :: intsV b := rfl
theorem intsV_len (a : List Int) : (intsV a).length = a.length := by simp [intsV]

set_option maxHeartbeats 400000 in
theorem join_yes (a : Option Addr) (n c : Nat) (l : List Int) (id : Int) (w : World) (h : IntsAt w a n l) (hc : n ≤ c) (hid : i64 id) (he : joinE l id = 0) :
    Calls Try.prog 25 #[.slice a n c, .int .i64 id] w (MovePost w (joinP l id) 0) := by
  have hlen := h.len
  obtain ⟨hf, hh, hl10⟩ := joinE_0 he
  have hris := fitsB_ris hf
  have hl4 := (risingB_len hris.1).1
  obtain ⟨b, o, x0, rfl, _⟩ := h.elem 0 (by omega)
  have hcell : ∀ i, i < n → w.cell? ⟨b, o + i, none⟩ = some (.int .i64 (l.getD i 0)) := fun i hi => by
    obtain ⟨b', o', he, hc⟩ := h.cell i hi
    simp at he; obtain ⟨rfl, rfl⟩ := he; exact hc
  have Hcell := Lib.hid hcell; clear hcell
  have H := Lib.hid h; clear h
  rw [hlen] at hl10 hl4
  have Hf := Lib.hid hf; have Hlen := Lib.hid hlen
  have hp := posP_le l id
  have hj := joinP_ok he
  have CS := search_any _ n c l id w H.out (incP_of hris.1) (by omega)
  rw [hh] at CS
  rw [hlen] at hp
  generalize posP l id = p at *
  have Hj := Lib.hid hj
  replace CS := Lib.hid CS
  clear hf hh he hris hlen hj
  have hX1 : ∃ X1, X1 = intsV (l.take p) := ⟨_, rfl⟩
  obtain ⟨X1, hX1⟩ := hX1
  have hX2 : ∃ X2, X2 = intsV (l.drop p) := ⟨_, rfl⟩
  obtain ⟨X2, hX2⟩ := hX2
  have l1 : X1.length = p := by rw [hX1]; simp [intsV]; rw [Hlen.out]; omega
  have l2 : X2.length = n - p := by rw [hX2]; simp [intsV]; rw [Hlen.out]
  have L1 := Lib.hid l1; have L2 := Lib.hid l2; clear l1 l2
  have HX1 := Lib.hid hX1; have HX2 := Lib.hid hX2; clear hX1 hX2
  have o1 : ∀ v ∈ X1, v.oneCell' = true := by rw [HX1.out]; exact intsV_one _
  have o2 : ∀ v ∈ X2, v.oneCell' = true := by rw [HX2.out]; exact intsV_one _
  have s1 : ∀ j v, X1[j]? = some v → w.cell? ⟨b, o + j, none⟩ = some v := fun j v hv => by
    rw [HX1.out] at hv
    have hj : j < p := by have := (List.getElem?_eq_some_iff.1 hv).1; simp [intsV] at this; omega
    have hjl : j < l.length := by rw [Hlen.out]; omega
    rw [Hcell.out j (by omega), ← hv]
    simp [intsV, hj, List.getD, hjl]
  have s2 : ∀ j v, X2[j]? = some v → w.cell? ⟨b, o + p + j, none⟩ = some v := fun j v hv => by
    rw [HX2.out] at hv
    have hj : p + j < l.length := by have := (List.getElem?_eq_some_iff.1 hv).1; simp [intsV] at this; omega
    rw [Nat.add_assoc, Hcell.out (p + j) (by rw [← Hlen.out]; exact hj), ← hv]
    simp [intsV, List.getD, hj]
  have O1 := Lib.hid o1; have O2 := Lib.hid o2; have S1 := Lib.hid s1; have S2 := Lib.hid s2
  clear o1 o2 s1 s2
  obtain ⟨i0, hi, hz0, hz1, hz2⟩ := info_parts info_int
  go_enter Try.func25, Try.ntmps25
  go_wp2_with fail
  refine (fits_any _ n c l id _ H.out).mono ?_; rw [Hf.out]; rintro e w' ⟨rfl, rfl⟩
  go_wp2_with fail
  refine CS.out.mono ?_; clear CS; rintro e w' ⟨rfl, q, rfl⟩
  go_wp2_with (at_make; refine wpList_make_full _ rfl _ _ 28 rfl w.heap.size 3 i0 (.int .i64 0) 1 Try.underlying28 hi hz0 hz1 _ _ _ _ (n + 1) rfl rfl (by omega) (by omega) ?b1 ?b2 ?b3 ?_)
  case b1 => rw [hz2]; omega
  case b2 => simp only [maxLen]; omega
  case b3 => simp
  intro w1 hown hgr
  have hb1 : Below w.heap.size w w1 := (below_drewN (Below.refl _ _) q).trans (grown_below_none hgr)
  obtain ⟨hg, _, _⟩ := owns_whole hown
  have hZ : ∃ Z, Z = (madeCells #[Value.int .i64 0] (n + 1)).toList := ⟨_, rfl⟩
  obtain ⟨Z, hZ⟩ := hZ
  have hZl : Z.length = n + 1 := by rw [hZ]; simp [size_madeCells]
  rw [← hZ] at hg
  have HZl := Lib.hid hZl; clear hZl hZ hown hgr
  have Hg := Lib.hid hg; clear hg
  have Hb1 := Lib.hid hb1
  go_wp2_with (refine wpList_copy_splice rfl (.tmp 27) (.tmp 30) 28 28 rfl 3 Try.underlying28 (by kernel_rfl) _ _ _ _ _ _ rfl rfl w.heap.size 0 Z 3 Hg.out X1 ?n1 ?p1 ?f1 O1.out w.heap.size w Hb1.out (Nat.le_refl _) ?_)
  case n1 => rw [L1.out, show p.min (n + 1) = min p (n + 1) from rfl]; omega
  case p1 => exact fun _ j v hv => below_cell Hb1.out (S1.out j v hv)
  case f1 => rw [L1.out, HZl.out]; omega
  intro w2 Hg2 hb2
  have Hb2 := Lib.hid hb2; clear hb2
  have hl2 : (splice Z 0 X1).length = n + 1 := by rw [length_splice _ _ _ (by rw [L1.out, HZl.out]; omega), HZl.out]
  obtain ⟨v2, hv2⟩ : ∃ v2, (splice Z 0 X1)[p]? = some v2 := ⟨_, List.getElem?_eq_getElem (by omega)⟩
  have c2 : w2.cell? ⟨w.heap.size, p, none⟩ = some v2 := by rw [blk_cell Hg2.out]; simpa using hv2
  have z2 : w2.frozen? ⟨w.heap.size, p, none⟩ = false := blk_frozen Hg2.out _
  have Hl2 := Lib.hid hl2; clear hl2 hv2
  go_wp2_with fail
  obtain ⟨w3, hw3⟩ : ∃ w3, w3 = w2.setCell ⟨w.heap.size, p, none⟩ (.int .i64 id) := ⟨_, rfl⟩
  rw [← hw3]
  obtain ⟨Z3, hZ3⟩ : ∃ Z3, Z3 = (splice Z 0 X1).set p (.int .i64 id) := ⟨_, rfl⟩
  have hg3 : w3.heap[w.heap.size]? = some (.cells Z3.toArray 3 (0, 0)) := by rw [hw3, blk_set Hg2.out, hZ3]; simp
  have hb3 : Below w.heap.size w w3 := by rw [hw3]; exact Hb2.out.setCell (Nat.le_refl _) _
  have hl3 : Z3.length = n + 1 := by rw [hZ3, List.length_set, Hl2.out]
  have Hg3 := Lib.hid hg3; have Hb3 := Lib.hid hb3; have HZ3 := Lib.hid hZ3; have Hl3 := Lib.hid hl3
  clear hg3 hb3 hZ3 hl3 hw3 c2 z2 Hg2 Hb2 Hg Hb1
  have hfin : ∀ w4 : World, w4.heap[w.heap.size]? = some (.cells (splice Z3 (p + 1) X2).toArray 3 (0, 0)) → Below w.heap.size w w4 →
      MovePost w (joinP l id) 0 (.returned (.tuple #[.slice (some ⟨w.heap.size, 0, none⟩) (n + 1) (n + 1), .int .i64 0])) w4 := fun w4 h1 h2 => by
    rw [HZ3.out, splice_join Z X1 X2 _ p n L1.out L2.out HZl.out hp, HX1.out, HX2.out, ← intsV_cons, ← intsV_append, ← Hj.out] at h1
    have hl : (intsV (joinP l id)).length = n + 1 := by rw [intsV_len, Hj.out]; simp; rw [Hlen.out]; omega
    have := owns_of h1 (Nat.le_refl _) (by rw [hl]; simp only [maxLen]; omega)
    rw [hl] at this
    refine ⟨_, rfl, ?_, h2⟩
    rw [show (joinP l id).length = n + 1 by rw [← intsV_len]; exact hl]
    exact this
  have Hfin := Lib.hid hfin; clear hfin
  have g0 : (0 : Int) ≤ (p : Int) + 1 := by omega
  have g1 : ((p : Int) + 1).toNat = p + 1 := by omega
  have g2 : (p : Int) + 1 ≤ (n : Int) + 1 := by omega
  have g3 : (p : Int) ≤ (n : Int) := by omega
  have g4 : IntKind.i64.wrap ((p : Int) + 1) = (p : Int) + 1 := IntWalk.i64_in _ (by omega)
  by_cases hpn : p = n
  · have hx2 : X2.length = 0 := by rw [L2.out]; omega
    have Hx2 := Lib.hid hx2
    subst hpn
    clear hx2
    by_cases hcp : c = p
    · subst hcp
      go_still_tail 7, (by kernel_rfl)
      change wpList _ _ _ _ _ w3.drew
      refine wpList_copy_splice rfl (.tmp 39) (.tmp 42) 28 28 rfl 3 Try.underlying28 (by kernel_rfl) _ _ _ _ _ _ rfl rfl w.heap.size (c + 1) Z3 3 Hg3.out X2 ?n2 ?p2 ?f2 O2.out w.heap.size w Hb3.out.drew (Nat.le_refl _) ?_
      case n2 => rw [Hx2.out]; simp
      case p2 => intro h; rw [Hx2.out] at h; omega
      case f2 => rw [Hx2.out, Hl3.out]; omega
      intro w4 hg4 hb4
      have Hb4 := Lib.hid hb4; clear hb4 g1 g4
      go_wp2_with fail
      go_ret2
      exact Hfin.out w4 hg4.out Hb4.out
    · have e2 : ¬ c = p := hcp
      go_still_tail 7, (by kernel_rfl)
      change wpList _ _ _ _ _ w3.drew
      refine wpList_copy_splice rfl (.tmp 39) (.tmp 42) 28 28 rfl 3 Try.underlying28 (by kernel_rfl) _ _ _ _ _ _ rfl rfl w.heap.size (p + 1) Z3 3 Hg3.out X2 ?n2 ?p2 ?f2 O2.out w.heap.size w Hb3.out.drew (Nat.le_refl _) ?_
      case n2 => rw [Hx2.out]; simp
      case p2 => intro h; rw [Hx2.out] at h; omega
      case f2 => rw [Hx2.out, Hl3.out]; omega
      intro w4 hg4 hb4
      have Hb4 := Lib.hid hb4; clear hb4 g1 g4
      go_wp2_with fail
      go_ret2
      exact Hfin.out w4 hg4.out Hb4.out
  · have e1 : ¬ n = p := fun h => hpn h.symm
    have e2 : ¬ c = p := by omega
    go_still_tail 7, (by kernel_rfl)
    change wpList _ _ _ _ _ w3.drew
    refine wpList_copy_splice rfl (.tmp 39) (.tmp 42) 28 28 rfl 3 Try.underlying28 (by kernel_rfl) _ _ _ _ _ _ rfl rfl w.heap.size (p + 1) Z3 3 Hg3.out X2 ?n2 ?p2 ?f2 O2.out w.heap.size w Hb3.out.drew (Nat.le_refl _) ?_
    case n2 => rw [L2.out]; exact (Nat.min_self _).symm
    case p2 => exact fun _ => ⟨rfl, _, rfl, fun j v hv => by rw [Addr.add_lit]; exact below_cell Hb3.out (S2.out j v hv)⟩
    case f2 => rw [L2.out, Hl3.out]; omega
    intro w4 hg4 hb4
    have Hb4 := Lib.hid hb4; clear hb4 g1 g4
    go_wp2_with fail
    go_ret2
    exact Hfin.out w4 hg4.out Hb4.out
end Go.Proofs.Ytgkcgfckhmplaaa
