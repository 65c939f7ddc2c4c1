
/- Wire: walk of the reference's changes. (printed by mkWtd.py) -/
import Derived.Test.YtijeieamodjgbaaWtc
namespace Go.Proofs.Ytijeieamodjgbaa
set_option maxRecDepth 100000
open Go.RowKit Go.Deep
attribute [local irreducible] wpQuiet
set_option linter.unusedVariables false
set_option linter.unusedSimpArgs false
attribute [local go_sem] run_store_float

def chR (e view : Int) (p : Option Int) (c : Ch) : Bool := changeR e c && decide (c.v = view) && (p.all fun z => decide (z < c.fr))
def changesR (e view : Int) : Option Int → List Ch → Bool
  | _, [] => true
  | p, c :: r => chR e view p c && changesR e view (some c.fr) r
def prevF (l : List Ch) (k : Nat) : Option Int := if k = 0 then none else (l[k - 1]?).map (·.fr)
theorem prevF_next {l : List Ch} {k : Nat} {y : Ch} (hy : l[k]? = some y) : prevF l (k + 1) = some y.fr := by
  unfold prevF
  rw [if_neg (by omega), Nat.add_sub_cancel, hy]
  rfl
theorem changesR_step {e view : Int} {p : Option Int} {l : List Ch} {k : Nat} {y : Ch} (hy : l[k]? = some y) : changesR e view p (l.drop k) = (chR e view p y && changesR e view (some y.fr) (l.drop (k + 1))) := by
  rw [List.drop_eq_getElem_cons (List.getElem?_eq_some_iff.1 hy).1, (List.getElem?_eq_some_iff.1 hy).2]
  rfl
theorem chR_iff {e view : Int} {p : Option Int} {y : Ch} : chR e view p y = true ↔ changeR e y = true ∧ y.v = view ∧ ∀ z, p = some z → z < y.fr := by
  unfold chR
  simp only [Bool.and_eq_true, decide_eq_true_eq]
  constructor
  · rintro ⟨⟨h1, h2⟩, h3⟩
    exact ⟨h1, h2, fun z hz => by rw [hz] at h3; simpa using h3⟩
  · rintro ⟨h1, h2, h3⟩
    refine ⟨⟨h1, h2⟩, ?_⟩
    cases p with
    | none => rfl
    | some z => simpa using h3 z rfl
theorem chR_no {e view : Int} {p : Option Int} {y : Ch} (h : ¬ (changeR e y = true ∧ y.v = view ∧ ∀ z, p = some z → z < y.fr)) : chR e view p y = false := by
  rw [Bool.eq_false_iff]
  exact fun hh => h (chR_iff.1 hh)
theorem changesR_some {e view : Int} (he : 0 ≤ e ∧ e ≤ 60) : ∀ (z : Int) (l : List Ch), changesR e view (some z) l = changesB e view z l
  | _, [] => rfl
  | z, c :: r => by
    show (chR e view (some z) c && changesR e view (some c.fr) r) = (decide (c.v = view) && decide (z < c.fr) && changeB e c && changesB e view c.fr r)
    rw [changesR_some he c.fr r]
    unfold chR
    rw [changeR_in he]
    show (changeB e c && decide (c.v = view) && decide (z < c.fr) && _) = _
    cases changeB e c <;> cases decide (c.v = view) <;> cases decide (z < c.fr) <;> rfl
theorem changesR_none {e view : Int} (he : 0 ≤ e ∧ e ≤ 60) (l : List Ch) : changesR e view none l = changesB e view (-1) l := by
  cases l with
  | nil => rfl
  | cons c r =>
    show (chR e view none c && changesR e view (some c.fr) r) = (decide (c.v = view) && decide ((-1 : Int) < c.fr) && changeB e c && changesB e view c.fr r)
    rw [changesR_some he c.fr r]
    unfold chR
    rw [changeR_in he]
    show (changeB e c && decide (c.v = view) && true && _) = _
    cases h : changeB e c with
    | false => cases decide (c.v = view) <;> cases decide ((-1 : Int) < c.fr) <;> rfl
    | true =>
      have h1 : decide ((-1 : Int) < c.fr) = true := by
        simp only [changeB, Bool.and_eq_true, decide_eq_true_eq] at h
        simp only [decide_eq_true_eq]
        omega
      rw [h1]
      cases decide (c.v = view) <;> rfl
set_option maxHeartbeats 4000000 in
theorem rchanges13_any (e view : Int) (a : Option Addr) (n c : Nat) (l : List Ch) (w : World) (hv : i64 view) (hm : SlAt shChange w a n c l) :
    Calls Try.prog 87 #[.int .i64 e, .int .i64 view, .slice a n c] w fun r w' => r = .returned (.bool (changesR e view none l)) ∧ Below w.heap.size w w' := by
  have hlen := hm.len
  have hcap := hm.cap
  have hmax := hm.max
  have HM := Lib.hid hm
  obtain ⟨R, hR⟩ : ∃ R, R = changesR e view none l := ⟨_, rfl⟩
  rw [← hR]
  clear hm
  go_enter Try.func87, Try.ntmps87
  go_wp2_with fail
  go_loopw [7] (fun i wr => ∃ k : Nat, k ≤ n ∧ i = .int .i64 k ∧ Hid (R = changesR e view (prevF l k) (l.drop k)) ∧ Hid (Below w.heap.size w wr)) (fun i _ => n - (intOf i).toNat)
  case atStart => exact ⟨0, by omega, rfl, Lib.hid (by rw [hR]; rfl), Lib.hid (Below.refl _ _)⟩
  case round =>
    obtain ⟨k, hk, rfl, HK, HW⟩ := hrel
    clear hR
    by_cases hlt : k < n
    · have hd : decide ((k : Int) < (n : Int)) = true := by simp; omega
      obtain ⟨bb, o, ⟨fr, v, ce, sx, st⟩, sa, sn, sc, rfl, hy, c0, c1, c2, c3, c4, hy1, hy2, hce, hs1, hs2⟩ := change_cells (HM.out.old HW.out) hlt
      dsimp only at c0 c1 c2 c3 c4 hy1 hy2 hce hs1 hs2
      have HST := Lib.hid (changesR_step (e := e) (view := view) (p := prevF l k) hy)
      have HPN := Lib.hid (prevF_next hy)
      have HF := Lib.hid (show chR e view (prevF l k) _ = false → R = false from fun h => by rw [HK.out, HST.out, h]; rfl)
      have HT := Lib.hid (show chR e view (prevF l k) _ = true → R = changesR e view (prevF l (k + 1)) (l.drop (k + 1)) from fun h => by rw [HK.out, HST.out, h, HPN.out]; rfl)
      have hj0 : (0 : Int) ≤ (k : Int) := by omega
      have hj1 : (k : Int) < (n : Int) := by omega
      have lb := World.block_lt c0
      have CC := fun (w' : World) (hb : Below wr.heap.size wr w') => rchange13_any e ⟨fr, v, ce, sx, st⟩ sa sn sc w' hy1 hy2 (hce.old hb) hs1 hs2
      dsimp only at CC
      have HPV := Lib.hid (show 0 < k → ∃ x : Ch, l[k - 1]? = some x ∧ wr.cell? ⟨bb, o + (k - 1) * 5, none⟩ = some (.int .i64 x.fr) from fun hk0 => by
        obtain ⟨b', o', x, _, _, _, he, hx, u0, _⟩ := change_cells (HM.out.old HW.out) (i := k - 1) (by omega)
        obtain ⟨rfl, rfl⟩ : bb = b' ∧ o = o' := by simpa using he
        exact ⟨x, hx, u0⟩)
      clear hce hy
      cases hch : changeR e ⟨fr, v, ce, sx, st⟩
      · rw [hch] at CC
        have hr := HF.out (chR_no (fun h => by have h1 := h.1; rw [hch] at h1; cases h1))
        clear hch
        have CC := Lib.hid CC
        clear HT HK
        go_wp2_with fail
        refine wp_region_below (by kernel_rfl) (by kernel_rfl) ?_
        repeat (refine wpQuiet_step (fun K hK => ?_); go_simp; first | (refine hK _ ?_; clear hK K) | (apply Exists.intro; refine ⟨fun w' hw' => ?_, hK _ ?_⟩; (first | (go_at_call 135; exact Calls.quiet_below hw' (CC.out _ hw')) | (with_reducible rfl) | (obtain ⟨cc, dd⟩ := bcell hw'; go_simp; rfl)); clear hK K))
        refine wpQuiet_nil ?_
        intro w7 h7
        have B7 := Lib.hid (bthen HW.out h7)
        clear h7 c0 c1 c2 c3 c4 CC 
        go_wp2_with fail
        go_ret
        exact ⟨by first | rfl | (rw [hr]; rfl), B7.out⟩
      rw [hch] at CC
      have HC := Lib.hid hch
      clear hch
      by_cases g2 : ¬ v = view
      · have hr := HF.out (chR_no (fun h => g2 h.2.1))
        have d2 : (v != view) = true := by simpa using g2
        clear g2
        have CC := Lib.hid CC
        clear HT HK
        go_wp2_with fail
        refine wp_region_below (by kernel_rfl) (by kernel_rfl) ?_
        repeat (refine wpQuiet_step (fun K hK => ?_); go_simp; first | (refine hK _ ?_; clear hK K) | (apply Exists.intro; refine ⟨fun w' hw' => ?_, hK _ ?_⟩; (first | (go_at_call 135; exact Calls.quiet_below hw' (CC.out _ hw')) | (with_reducible rfl) | (obtain ⟨cc, dd⟩ := bcell hw'; go_simp; rfl)); clear hK K))
        refine wpQuiet_nil ?_
        intro w7 h7
        have B7 := Lib.hid (bthen HW.out h7)
        clear h7 c0 c1 c2 c3 c4 CC 
        go_wp2_with fail
        go_ret
        exact ⟨by first | rfl | (rw [hr]; rfl), B7.out⟩
      replace g2 := Classical.not_not.1 g2
      have d2 : (v != view) = false := by simpa using g2
      by_cases hk0 : k = 0
      · have dk : decide ((0 : Int) < (k : Int)) = false := by simp; omega
        have HPR := Lib.hid (show ∀ z, prevF l k = some z → z < fr from fun z hz => by
          unfold prevF at hz
          rw [if_pos hk0] at hz
          cases hz)
        have dkn : decide (0 < k) = false := by simp; omega
        clear hk0
        have HR := Lib.hid (HT.out (chR_iff.2 ⟨HC.out, g2, HPR.out⟩))
        have CC := Lib.hid CC
        clear HT HK HF HST g2
        go_wp2_with fail
        refine wp_region_below (by kernel_rfl) (by kernel_rfl) ?_
        repeat (refine wpQuiet_step (fun K hK => ?_); go_simp; first | (refine hK _ ?_; clear hK K) | (apply Exists.intro; refine ⟨fun w' hw' => ?_, hK _ ?_⟩; (first | (go_at_call 135; exact Calls.quiet_below hw' (CC.out _ hw')) | (with_reducible rfl) | (obtain ⟨cc, dd⟩ := bcell hw'; go_simp; rfl)); clear hK K))
        refine wpQuiet_nil ?_
        intro w7 h7
        have B7 := Lib.hid (bthen HW.out h7)
        clear h7 c0 c1 c2 c3 c4 CC dk d2 dkn
        go_wp2_with fail
        go_roundw
        case rel => exact ⟨k + 1, by omega, by go_num, HR, B7⟩
        case measure => simp [intOf]; omega
      have dk : decide ((0 : Int) < (k : Int)) = true := by simp; omega
      obtain ⟨x, hx, pz⟩ := HPV.out (by omega)
      have hk2 : 0 < k := by omega
      have hwr : IntKind.i64.wrap ((k : Int) - 1) = (k : Int) - 1 := IntWalk.i64_in _ (by omega)
      have g1 : (0 : Int) ≤ (k : Int) - 1 := by omega
      have g3 : (1 : Int) ≤ (k : Int) := by omega
      have g4 : (k : Int) - 1 < (n : Int) := by omega
      by_cases q1 : fr ≤ x.fr
      · have hr := HF.out (chR_no (fun h => absurd (h.2.2 x.fr (by unfold prevF; rw [if_neg hk0, hx]; rfl)) (by dsimp only; omega)))
        have dq : decide (fr ≤ x.fr) = true := by simpa using q1
        clear q1 hx g2
        have CC := Lib.hid CC
        clear HT HK
        go_wp2_with fail
        refine wp_region_below (by kernel_rfl) (by kernel_rfl) ?_
        repeat (refine wpQuiet_step (fun K hK => ?_); go_simp; first | (refine hK _ ?_; clear hK K) | (apply Exists.intro; refine ⟨fun w' hw' => ?_, hK _ ?_⟩; (first | (go_at_call 135; exact Calls.quiet_below hw' (CC.out _ hw')) | (with_reducible rfl) | (obtain ⟨cc, dd⟩ := bcell hw'; go_simp; rfl)); clear hK K))
        refine wpQuiet_nil ?_
        intro w7 h7
        have B7 := Lib.hid (bthen HW.out h7)
        clear h7 c0 c1 c2 c3 c4 CC pz
        go_wp2_with fail
        go_ret
        exact ⟨by first | rfl | (rw [hr]; rfl), B7.out⟩
      have dq : decide (fr ≤ x.fr) = false := by simpa using q1
      have HPR := Lib.hid (show ∀ z, prevF l k = some z → z < fr from fun z hz => by
        unfold prevF at hz
        rw [if_neg hk0, hx] at hz
        have hz : x.fr = z := by simpa using hz
        rw [← hz]
        omega)
      clear q1 hx
      have HR := Lib.hid (HT.out (chR_iff.2 ⟨HC.out, g2, HPR.out⟩))
      have CC := Lib.hid CC
      clear HT HK HF HST g2
      go_wp2_with fail
      refine wp_region_below (by kernel_rfl) (by kernel_rfl) ?_
      repeat (refine wpQuiet_step (fun K hK => ?_); go_simp; first | (refine hK _ ?_; clear hK K) | (apply Exists.intro; refine ⟨fun w' hw' => ?_, hK _ ?_⟩; (first | (go_at_call 135; exact Calls.quiet_below hw' (CC.out _ hw')) | (with_reducible rfl) | (obtain ⟨cc, dd⟩ := bcell hw'; go_simp; rfl)); clear hK K))
      refine wpQuiet_nil ?_
      intro w7 h7
      have B7 := Lib.hid (bthen HW.out h7)
      clear h7 c0 c1 c2 c3 c4 CC pz dk d2 dq
      go_wp2_with fail
      go_roundw
      case rel => exact ⟨k + 1, by omega, by go_num, HR, B7⟩
      case measure => simp [intOf]; omega
    · have hd : decide ((k : Int) < (n : Int)) = false := by simp; omega
      have hr : R = true := by
        rw [HK.out, List.drop_of_length_le (by omega)]
        rfl
      go_wp2_with fail
      go_ret
      exact ⟨by first | rfl | (rw [hr]; rfl), HW.out⟩
end Go.Proofs.Ytijeieamodjgbaa
