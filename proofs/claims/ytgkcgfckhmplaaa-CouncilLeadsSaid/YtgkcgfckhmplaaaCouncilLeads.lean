/- CouncilLeads: who leads any view is what the document says; of as many views as there are members each leads one: for every input the law returns true, and its arguments read as before. No condition. -/
import Derived.Test.YtgkcgfckhmplaaaLift
import Derived.Test.YtgkcgfckhmplaaaCoW3
import Derived.Test.YtgkcgfckhmplaaaQuiet
namespace Go.Proofs.Ytgkcgfckhmplaaa.councilLeads
open Go.ChangeShapes Go.WideShapes Go.ChangeAt Go.RowKit
set_option linter.unusedVariables false

def ledA (f : Int → Bool) : Array Value := ((List.range 16).map fun i : Nat => Value.bool (f i)).toArray
theorem ledA_get (f : Int → Bool) (o : Nat) (h : o < 16) : (ledA f)[o]? = some (.bool (f o)) := by
  simp [ledA, h]
theorem ledA_far (f : Int → Bool) (o : Nat) (h : ¬ o < 16) : (ledA f)[o]? = none := by
  simp [ledA]; omega
theorem ledA_set (f : Int → Bool) (x : Int) (h0 : 0 ≤ x) (h1 : x < 16) : (ledA f).setIfInBounds x.toNat (.bool true) = ledA (fun q => q == x || f q) := by
  apply Array.ext_getElem?
  intro i
  rw [Array.getElem?_setIfInBounds]
  by_cases hi : i < 16
  · rw [ledA_get (fun q => q == x || f q) i hi, ledA_get f i hi]
    by_cases hx : x.toNat = i
    · have h2 : ((i : Int) == x) = true := by simp; omega
      rw [if_pos hx, if_pos (by simp [ledA]; omega), h2]; rfl
    · have h2 : ((i : Int) == x) = false := by simp; omega
      rw [if_neg hx, h2]; rfl
  · rw [ledA_far _ i hi, ledA_far _ i hi]
    split
    · have : x.toNat < 16 := by omega
      omega
    · rfl
theorem ledA_none : ledA (fun _ => false) = #[.bool false, .bool false, .bool false, .bool false, .bool false, .bool false, .bool false, .bool false, .bool false, .bool false, .bool false, .bool false, .bool false, .bool false, .bool false, .bool false] := rfl

set_option maxHeartbeats 400000 in
theorem walk_no (w : World) (p : Int) (a : Option Addr) (n c : Nat) (l : List Int) (hp : i64 p) (hI : IntsAt w a n l) (hc : (a = none → c = 0) ∧ n ≤ c ∧ c ≤ maxLen) (view : Int) (hv : i64 view) (hno : rightB p l = false ∨ view < 0) :
    Calls Try.prog 6 #[.agg #[.int .i64 p, .slice a n c], .int .i64 view] w fun e w' => e = .returned (.bool true) ∧ Below w.heap.size w w' := by
  have HI := Lib.hid (hI.alloc (.cells #[.int .i64 p, .slice a n c] 30)); clear hI hc hp
  have Hno := Lib.hid hno; clear hno
  go_enter Try.func6, Try.ntmps6
  go_wp2_with fail
  refine (lives_any _).mono ?_
  rintro e w1 ⟨rfl, b1⟩
  have q0 := below_cell b1 (b := w.heap.size) (o := 0) (v := .int .i64 p) (by simp)
  have q1 := below_cell b1 (b := w.heap.size) (o := 1) (v := .slice a n c) (by simp)
  replace HI := Lib.hid (HI.out.below b1)
  have B := Lib.hid (bthen (below_alloc w _) b1); clear b1
  go_wp2_with fail
  refine (primary_no p a n c l view _ HI.out Hno.out).mono ?_
  rintro e w2 ⟨rfl, b2⟩
  replace q0 := below_cell b2 q0; replace q1 := below_cell b2 q1; replace HI := Lib.hid (HI.out.below b2); replace B := Lib.hid (bthen B.out b2); clear b2
  go_wp2_with fail
  refine (rprimary_no p a n c l view _ HI.out Hno.out).mono ?_
  rintro e w3 ⟨rfl, b3⟩
  replace B := Lib.hid (bthen B.out b3); clear b3
  go_wp2_with fail
  go_ret
  exact ⟨rfl, B.out⟩

set_option maxHeartbeats 400000 in
theorem walk_yes (w : World) (p : Int) (a : Option Addr) (n c : Nat) (l : List Int) (hI : IntsAt w a n l) (view : Int) (hv : i64 view) (hr : rightB p l = true) (hv0 : 0 ≤ view) :
    Calls Try.prog 6 #[.agg #[.int .i64 p, .slice a n c], .int .i64 view] w fun e w' => e = .returned (.bool true) ∧ Below w.heap.size w w' := by
  have HI0 := Lib.hid hI
  have HI := Lib.hid (hI.alloc (.cells #[.int .i64 p, .slice a n c] 30)); clear hI
  have Hr := Lib.hid hr; clear hr
  obtain ⟨hv1, hv2⟩ := hv
  go_enter Try.func6, Try.ntmps6
  go_wp2_with fail
  refine (lives_any _).mono ?_
  rintro e w1 ⟨rfl, b1⟩
  have q0 := below_cell b1 (b := w.heap.size) (o := 0) (v := .int .i64 p) (by simp)
  have q1 := below_cell b1 (b := w.heap.size) (o := 1) (v := .slice a n c) (by simp)
  replace HI := Lib.hid (HI.out.below b1)
  have B := Lib.hid (bthen (below_alloc w _) b1); clear b1
  go_wp2_with fail
  refine (primary_yes p a n c l view _ HI.out Hr.out hv0 hv2).mono ?_
  rintro e w2 ⟨rfl, b2⟩
  replace q0 := below_cell b2 q0; replace q1 := below_cell b2 q1; replace HI := Lib.hid (HI.out.below b2); replace B := Lib.hid (bthen B.out b2); clear b2
  go_wp2_with fail
  refine (rprimary_yes p a n c l view _ HI.out Hr.out hv0 hv2).mono ?_
  rintro e w3 ⟨rfl, b3⟩
  replace q0 := below_cell b3 q0; replace q1 := below_cell b3 q1; replace HI := Lib.hid (HI.out.below b3)
  replace B := Lib.hid (bthen B.out b3); clear b3
  by_cases hbig : 1073741824 < view
  · go_wp2_with fail
    go_ret
    exact ⟨rfl, B.out⟩
  · have hmk : ∀ w, (Instr.makeSlice 36 (.int .i64 16) (.int .i64 16)).run Try.prog w = .ok (.slice (some ⟨w.heap.size, 0, none⟩) 16 16) (w.alloc (.cells (ledA fun _ => false) 4)) := fun _ => by kernel_rfl
    have hr := rightB_rising Hr.out
    have hlen := risingB_len hr.2.2
    have hn : l.length = n := HI.out.len
    have HRis := Lib.hid hr.2.2
    rw [hn] at hlen
    have Hn := Lib.hid hn
    clear hr hn
    have hB3 := B.out.size
    have hq0 := World.block_lt q0
    go_wp2_with fail
    generalize hz3 : w3.heap.size = z3 at *
    have hled : (w3.alloc (.cells (ledA fun _ => false) 4)).heap[z3]? = some (.cells (ledA fun _ => false) 4 (0, 0)) := by rw [← hz3]; exact blk_alloc _ _
    go_loopw [10] (fun i wr => ∃ k : Nat, k ≤ n ∧ i = .int .i64 k ∧ Below w.heap.size w wr ∧ z3 < wr.heap.size ∧ wr.cell? ⟨w.heap.size, 0, none⟩ = some (.int .i64 p) ∧ wr.cell? ⟨w.heap.size, 1, none⟩ = some (.slice a n c) ∧ wr.heap[z3]? = some (.cells (ledA (ledB l view k)) 4 (0, 0)) ∧ IntsAt wr a n l) (fun i _ => n - (intOf i).toNat)
    case atStart => exact ⟨0, by omega, rfl, balloc B.out _, by simp; omega, by rw [World.cell?_alloc_past _ _ _ (by omega)]; exact q0, by rw [World.cell?_alloc_past _ _ _ (by omega)]; exact q1, hled, HI.out.alloc _⟩
    case round =>
      clear hled q0 q1 HI B hmk
      obtain ⟨k, hk, rfl, hB, hz, r0, r1, hled, hI⟩ := hrel
      by_cases hlt : k < n
      · have HI := Lib.hid hI; have HB := Lib.hid hB; clear hI hB
        have CP := fun w hI => primary_yes p a n c l (view + k) w hI Hr.out (by omega) (by omega)
        have hxm := primP_mem (l := l) (by rw [Hn.out]; omega) (view + k)
        have hx := risingB_range HRis.out _ hxm
        have hxb := hasB_mem hxm
        have hxf := ledB_fresh HRis.out hv0 (k := k) (by rw [Hn.out]; exact hlt) k (Nat.le_refl _)
        have hxs : ∀ q, ledB l view (k + 1) q = (q == primP l (view + k) || ledB l view k q) := fun q => rfl
        generalize primP l (view + k) = x at *
        have CH := fun w hI => has_any p a n c l x w hI
        rw [hxb] at CH
        replace CP := Lib.hid CP; replace CH := Lib.hid CH
        obtain ⟨hx0, hx1⟩ := hx
        have Hxf := Lib.hid hxf; have Hxs := Lib.hid hxs
        clear hxb hxf hxs hxm
        have Hled := Lib.hid hled; clear hled
        go_wp2_with fail
        refine (CP.out _ HI.out).mono ?_
        rintro e w4 ⟨rfl, b4⟩
        replace r0 := below_cell b4 r0; replace r1 := below_cell b4 r1; replace HI := Lib.hid (HI.out.below b4); replace HB := Lib.hid (bthen HB.out b4)
        replace Hled := Lib.hid (blk_below Hled.out b4)
        replace hz : z3 < w4.heap.size := blk_lt Hled.out
        clear b4
        have hcell : w4.cell? ⟨z3, x.toNat, none⟩ = some (.bool false) := by
          rw [blk_cell Hled.out, ledA_get _ _ (by omega), Int.toNat_of_nonneg hx0, Hxf.out]
        go_wp2_with fail
        refine (CH.out _ HI.out).mono ?_
        rintro e w5 ⟨rfl, b5⟩
        replace r0 := below_cell b5 r0; replace r1 := below_cell b5 r1; replace HI := Lib.hid (HI.out.below b5); replace HB := Lib.hid (bthen HB.out b5)
        replace Hled := Lib.hid (blk_below Hled.out b5)
        replace hcell := below_cell b5 hcell
        replace hz : z3 < w5.heap.size := blk_lt Hled.out
        have hfz : w5.frozen? ⟨z3, x.toNat, none⟩ = false := blk_frozen Hled.out _
        clear b5
        go_wp2_with fail
        go_roundw
        case rel =>
          have hB' := HB.out.setCell (p := ⟨z3, x.toNat, none⟩) (by show w.heap.size ≤ z3; omega) (.bool true)
          refine ⟨k + 1, by omega, by go_num, hB', ?_, cell_set_other r0 _ _ _ (by omega), cell_set_other r1 _ _ _ (by omega), ?_, HI0.out.below hB'⟩
          · exact blk_lt (blk_set Hled.out _ _)
          · rw [blk_set Hled.out, ledA_set _ _ hx0 hx1, show ledB l view (k + 1) = (fun q => q == x || ledB l view k q) from funext Hxs.out]
        case measure => simp [intOf]; omega
      · have HB := Lib.hid hB; clear hB hled hI
        go_wp2_with fail
        go_ret
        exact ⟨rfl, HB.out⟩

theorem walk (w : World) (p : Int) (a : Option Addr) (n c : Nat) (l : List Int) (hp : i64 p) (hI : IntsAt w a n l) (hc : (a = none → c = 0) ∧ n ≤ c ∧ c ≤ maxLen) (view : Int) (hv : i64 view) :
    Calls Try.prog 6 #[.agg #[.int .i64 p, .slice a n c], .int .i64 view] w fun e w' => e = .returned (.bool true) ∧ Below w.heap.size w w' := by
  by_cases h : rightB p l = true ∧ 0 ≤ view
  · exact walk_yes w p a n c l hI view hv h.1 h.2
  · refine walk_no w p a n c l hp hI hc view hv ?_
    cases hr : rightB p l with
    | false => exact .inl rfl
    | true => exact .inr (by have : ¬ 0 ≤ view := fun h0 => h ⟨hr, h0⟩
                             omega)
set_option maxRecDepth 100000 in
theorem lifted (os : Os) (started : os.Started) (H : Type) (enc : TypeId × Value → H) :
    ReturnsInHanded {} Try.checked os 6 .any (Rows.councilLeadsSpec.pre6 enc Try.prog Try.f6 Rows.councilLeadsRow.domain false) (Rows.councilLeadsSpec.post enc Try.prog Try.f6 false true false false) := by
  refine returnsInHanded_of_change (C := Try.checked) own started (by kernel_rfl) Try.func6
    (ChangeSpec.witness6 (enc := enc) (C := Try.checked) false ⟨#[], #[.agg #[.int .i64 0, .slice none 0 0], .int .i64 0], []⟩ 8 (by kernel_rfl) (by kernel_rfl) (by kernel_rfl) (by kernel_rfl)) ?_
  intro W base args ds gs before hval0 hW hcnd _
  have hval : ∀ (j : Nat) t v, Try.f6.params[j]? = some t → args[j]? = some v → Value.okWide Try.prog W .any base t v := hval0
  have hW' := hW
  obtain ⟨p, q, hA0, hV, rfl, hfz, hnd⟩ := hW
  have hA : DataW.TrodAll enc Try.prog W 0 (fun _ => true) true Try.f6.params.toList args.toList ds p := hA0
  rw [Try.params6] at hA hval
  have hA2 := hA
  obtain ⟨v0, vs0, d0, ds0, p0, q0, hargs, rfl, rfl, h0, r0⟩ := trodAll_cons hA
  obtain ⟨v1, vs1, d1, ds1, p1, q1, rfl, rfl, rfl, h1, r1⟩ := trodAll_cons r0
  obtain ⟨rfl, rfl, rfl⟩ := trodAll_nil r1
  obtain rfl : args = #[v0, v1] := by cases args; simp_all
  obtain ⟨rfl, rfl⟩ := trodVars_none hV
  clear hargs
  have k0 := hval 0 30 v0 rfl rfl
  obtain ⟨fu0, m0⟩ := h0
  have s0 := cells_agg Try.underlying30 k0
  obtain ⟨p0, a0, n0, c0, l0, e0, g0, f0⟩ := view_conf Try.underlying30 rfl rfl (by kernel_rfl) (by kernel_rfl) (by kernel_rfl) Try.underlying3 Try.underlying28 Try.underlying3 (by kernel_rfl) m0
  obtain ⟨z0, s01, s02⟩ := s0
  have e0' := agg_of ⟨s01, s02⟩ e0
  subst e0'
  have k1 := hval 1 3 v1 rfl rfl
  obtain ⟨fu1, m1⟩ := h1
  obtain ⟨a1, e1, f1⟩ := view_int Try.underlying3 m1
  have e1' := int_of Try.underlying3 k1 e1
  subst e1'
  refine (walk W p0 a0 n0 c0 l0 g0 f0.1 f0.2 a1 f1).mono fun e W' ⟨he, bel⟩ => ?_
  subst he
  exact ⟨_, rfl, _, _, _, [], _, [], hW', trodAll_mk1 (shut_bool Try.underlying4 _), trodAll_again laidOut bel (by kernel_rfl) hA2, rfl, bel.frame _, fun h => by cases h⟩

theorem over : Rows.councilLeadsRow.holds Try.pinned (OpenSpec.ofChange Rows.councilLeadsSpec) :=
  OpenClaim.holds_of_wide 6 Try.f6 rfl rfl rfl rfl rfl rfl rfl ⟨rfl, rfl, rfl, rfl, rfl⟩ rfl rfl rfl rfl rfl (by kernel_rfl) Try.func6 (by kernel_rfl)
    (of_decide_eq_true (by kernel_rfl)) (by unfold Func.isWrapper; first | (rw [if_pos (by decide +kernel)]; kernel_rfl) | (rw [if_neg (by decide +kernel)]; exact ⟨rfl, rfl⟩))
    (fun os started H enc _ => lifted os started H enc)

theorem proved : Rows.CouncilLeadsSaid := over
#print axioms proved
end Go.Proofs.Ytgkcgfckhmplaaa.councilLeads
