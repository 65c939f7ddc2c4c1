
/- A region that draws its order, whose operations only read old memory and whose callees leave old memory as it was: one walk in the text's order. No program in sight. -/
import Derived.Test.YtijeieamodjgbaaGreatMem
import Derived.Deep.QuietTactic
import Derived.BigQuiet
import Derived.WalkKit
import Derived.Deep.AppendLies
import Derived.Deep.RegionLaw

namespace Go.Proofs.YtijeieamodjgbaaGreat
set_option maxRecDepth 100000
open Go.RowKit

theorem wp_region_below {P : Program} {id : Nat} {Q : Exit → Act → World → Prop} {a : Act} {w : World} {l : List Oper} (hm : P.follows .mixedOrders = true) (hB : Region.lexB .any l.toArray = true)
    (h : wpQuiet P l.toArray (Below w.heap.size w) (fun a' => ∀ w', Below w.heap.size w w' → Q .normal a' w') l a) : (Code.region id l.toArray true).wp P Q a w :=
  wp_region_quiet (C := Below w.heap.size w) hm hB ⟨rfl, rfl, rfl, Nat.le_refl _, fun _ _ => rfl⟩ (by simpa using h)

theorem below_cell {w w' : World} (h : Below w.heap.size w w') {b o : Nat} {v : Value} (hc : w.cell? ⟨b, o, none⟩ = some v) : w'.cell? ⟨b, o, none⟩ = some v := by
  rw [h.cell (World.block_lt hc)]; exact hc

theorem Calls.quiet_below {P : Program} {f : FuncId} {args : Array Value} {w w' : World} {v : Value} (hC : Below w.heap.size w w')
    (h : Calls P f args w' fun e w'' => e = .returned v ∧ Below w'.heap.size w' w'') : Calls P f args w' fun e w'' => e = .returned v ∧ Below w.heap.size w w'' :=
  h.mono fun _ _ ⟨he, hb⟩ => ⟨he, hC.trans (hb.mono hC.size)⟩
theorem Calls.quiet_below_same {P : Program} {f : FuncId} {args : Array Value} {w w' : World} {v : Value} (hC : Below w.heap.size w w')
    (h : Calls P f args w' fun e w'' => e = .returned v ∧ w' = w'') : Calls P f args w' fun e w'' => e = .returned v ∧ Below w.heap.size w w'' :=
  h.mono fun _ _ ⟨he, hb⟩ => ⟨he, hb ▸ hC⟩
theorem Calls.quiet_below_drawn {P : Program} {f : FuncId} {args : Array Value} {w w' : World} {v : Value} (hC : Below w.heap.size w w')
    (h : Calls P f args w' fun e w'' => e = .returned v ∧ ∃ q, w'' = w'.drewN q) : Calls P f args w' fun e w'' => e = .returned v ∧ Below w.heap.size w w'' :=
  h.mono fun _ _ ⟨he, q, hb⟩ => ⟨he, hb ▸ below_drewN hC q⟩
end Go.Proofs.YtijeieamodjgbaaGreat

/- A region that draws its order, walked in parts: operations that are quiet in a class of worlds, then one that all others wait for, then a new class. No program in sight. -/
namespace Go.Proofs.YtijeieamodjgbaaGreat
set_option maxRecDepth 100000
open Go.RowKit

section
variable {P : Program} {ops : Array Oper} {md : Region.Mode} {C : World → Prop}

/-- The first k operations have come up. -/
def firstK (ops : Array Oper) (k : Nat) : Array Bool := ((List.range ops.size).map fun i => decide (i < k)).toArray
theorem firstK_size (k : Nat) : (firstK ops k).size = ops.size := by simp [firstK]
theorem firstK_get (k x : Nat) (d : Bool) (h : x < ops.size) : (firstK ops k).getD x d = decide (x < k) := by simp [firstK, h]
theorem firstK_zero : firstK ops 0 = Array.replicate ops.size false := by
  apply Array.ext
  · simp [firstK]
  · intro i h1 h2; simp [firstK]
theorem firstK_succ (k : Nat) : (firstK ops k).setIfInBounds k true = firstK ops (k + 1) := by
  apply Array.ext
  · simp [firstK]
  · intro i h1 h2
    simp [firstK]
    by_cases h : k = i
    · subst h; simp
    · simp [h]; omega

def dcB (md : Region.Mode) (ops : Array Oper) (listed : Array Bool) : Bool :=
  (List.range ops.size).all fun x => !listed.getD x false || ((ops[x]?).map (·.after.all fun e => !Region.binds md e || listed.getD e.on false)).getD true
def Dc (md : Region.Mode) (ops : Array Oper) (listed : Array Bool) : Prop :=
  ∀ x o e, ops[x]? = some o → listed.getD x false = true → e ∈ o.after → Region.binds md e = true → listed.getD e.on false = true
theorem dcB_of {listed : Array Bool} (h : Dc md ops listed) : dcB md ops listed = true := by
  simp only [dcB, List.all_eq_true, List.mem_range]
  intro x hx
  cases hl : listed.getD x false with
  | false => rfl
  | true =>
    have ho : ops[x]? = some ops[x] := Array.getElem?_eq_getElem hx
    rw [ho]
    simp only [Bool.not_true, Bool.false_or, Option.map_some, Option.getD_some, Array.all_eq_true_iff_forall_mem, Bool.or_eq_true, Bool.not_eq_true']
    intro e he
    cases hb : Region.binds md e with
    | false => exact .inl rfl
    | true => exact .inr (h x _ e ho hl he hb)
theorem dc_of {listed : Array Bool} (hB : dcB md ops listed = true) : Dc md ops listed := by
  intro x o e ho hl he hb
  simp only [dcB, List.all_eq_true, List.mem_range] at hB
  have h1 := hB x (Array.getElem?_eq_some_iff.1 ho).1
  rw [hl, ho] at h1
  simp only [Bool.not_true, Bool.false_or, Option.map_some, Option.getD_some, Array.all_eq_true_iff_forall_mem, Bool.or_eq_true, Bool.not_eq_true'] at h1
  rcases h1 e he with h | h
  · rw [hb] at h; cases h
  · exact h
theorem Dc.set {listed : Array Bool} (h : Dc md ops listed) {j : Nat} (hj : j ∈ Region.ready md ops listed) : Dc md ops (listed.setIfInBounds j true) := by
  intro x o e ho hl he hb
  by_cases hx : j = x
  · subst hx
    obtain ⟨_, o', ho', hall⟩ := mem_ready.1 hj
    rw [ho] at ho'; injection ho' with ho'; subst ho'
    exact getD_set_true (hall e he hb)
  · rw [getD_set_ne false hx] at hl
    exact getD_set_true (h x o e ho hl he hb)

/-- Whatever order the operations below b take; then R. -/
def wpSg (P : Program) (md : Region.Mode) (ops : Array Oper) (C : World → Prop) (b : Nat) (R : Act → Prop) : Nat → Array Bool → Act → Prop
  | 0, listed, a => (∀ x, x < b → listed.getD x true = true) ∧ R a
  | fuel + 1, listed, a => Region.ready md ops listed ≠ [] ∧ ∀ i ∈ Region.ready md ops listed, i < b ∧ qOp P ops C i (wpSg P md ops C b R fuel (listed.setIfInBounds i true)) a

/-- No operation from b on is ready while one below is lacking. -/
def segOk (md : Region.Mode) (ops : Array Oper) (b : Nat) : Bool :=
  (List.range b).all fun i => !(dcB md ops ((firstK ops b).setIfInBounds i false)) || (Region.ready md ops ((firstK ops b).setIfInBounds i false)).all (fun j => decide (j < b))

theorem wpSg_first {b : Nat} {R : Act → Prop} (hok : segOk md ops b = true) (_hbn : b ≤ ops.size) {i : Nat} {oi : Oper} {v : Value} (hi : ops[i]? = some oi) (hib : i < b) (hsel : ∀ (j : Nat) (o : Oper) cs b, ops[j]? = some o → o.op ≠ .select cs b) :
    ∀ (fuel : Nat) (listed : Array Bool) (a : Act), listed.size = ops.size → Dc md ops listed → (∀ x, b ≤ x → listed.getD x false = false) →
      (∀ j oj, ops[j]? = some oj → j ≠ i → listed.getD j true = false → (∀ e ∈ oj.after, Region.binds md e = true → e.on ≠ i) → oi.apart ops oj = true) →
      i ∈ Region.ready md ops listed → YieldsIn P ops C oi v a →
      wpSg P md ops C b R fuel (listed.setIfInBounds i true) (a.put oi.dst v) → wpSg P md ops C b R (fuel + 1) listed a := by
  intro fuel
  induction fuel with
  | zero =>
    intro listed a hsz hdc hlo _ hr hy H
    refine ⟨fun h => (by rw [h] at hr; cases hr), fun j hj => ?_⟩
    by_cases hji : j = i
    · subst hji; exact ⟨hib, hy.qOp hi H⟩
    · exfalso
      have hi0 := (mem_ready.1 hr).1
      have hj0 := (mem_ready.1 hj).1
      have hjb : b ≤ j := by
        rcases Nat.lt_or_ge j b with h | h
        · have := H.1 j h
          rw [getD_set_ne true (Ne.symm hji)] at this
          rw [this] at hj0; cases hj0
        · exact h
      have hl : listed = (firstK ops b).setIfInBounds i false := by
        apply Array.ext
        · simp [firstK, hsz]
        · intro x h1 h2
          have hx : x < ops.size := by omega
          have e1 : listed.getD x true = listed[x] := by simp [h1]
          have e2 : listed.getD x false = listed[x] := by simp [h1]
          rw [Array.getElem_setIfInBounds (by rw [firstK_size]; exact hx)]
          by_cases hxi : i = x
          · subst hxi; rw [if_pos rfl, ← e1, hi0]
          · rw [if_neg hxi]
            have e3 : (firstK ops b)[x]'(by simpa [firstK] using hx) = decide (x < b) := by simp [firstK]
            rw [e3]
            rcases Nat.lt_or_ge x b with h | h
            · have := H.1 x h
              rw [getD_set_ne true hxi] at this
              rw [← e1, this]; simp [h]
            · rw [← e2, hlo x h]; simp; omega
      have h1 := hok
      simp only [segOk, List.all_eq_true, List.mem_range] at h1
      have h2 := h1 i hib
      rw [← hl, dcB_of hdc] at h2
      simp only [Bool.not_true, Bool.false_or, List.all_eq_true, decide_eq_true_eq] at h2
      have := h2 j hj
      omega
  | succ fuel ih =>
    intro listed a hsz hdc hlo hfree hr hy H
    refine ⟨fun h => (by rw [h] at hr; cases hr), fun j hj => ?_⟩
    by_cases hji : j = i
    · subst hji; exact ⟨hib, hy.qOp hi H⟩
    · obtain ⟨hjb, h1⟩ := H.2 j (ready_mono hj hji)
      refine ⟨hjb, ?_⟩
      obtain ⟨hjun, oj, hoj, hall⟩ := mem_ready.1 hj
      have hnot : ∀ e ∈ oj.after, Region.binds md e = true → e.on ≠ i := fun e he hb heq => by
        have h1 := hall e he hb
        have h0 := (mem_ready.1 hr).1
        rw [heq] at h1
        rcases Nat.lt_or_ge i listed.size with h' | h'
        · simp [h'] at h0 h1; rw [h0] at h1; cases h1
        · simp [Array.getElem?_eq_none h'] at h1
      have h2 := qOp_put hoj (hfree j oj hoj hji hjun hnot) (fun cs b => hsel i oi cs b hi) (fun cs b => hsel j oj cs b hoj) hy h1
      have hfree' : ∀ k ok, ops[k]? = some ok → k ≠ i → (listed.setIfInBounds j true).getD k true = false →
          (∀ e ∈ ok.after, Region.binds md e = true → e.on ≠ i) → oi.apart ops ok = true := fun k ok hk hki hun hno => by
        refine hfree k ok hk hki ?_ hno
        by_cases hjk : j = k
        · subst hjk; exact hjun
        · rw [getD_set_ne true hjk] at hun; exact hun
      refine qOp_mono (fun a' h3 => ih (listed.setIfInBounds j true) a' (by simpa using hsz) (hdc.set hj) (fun x hx => by rw [getD_set_ne false (by omega)]; exact hlo x hx) hfree' (ready_mono hr (Ne.symm hji)) h3.1 ?_) h2
      rw [Array.setIfInBounds_comm _ _ hji]
      exact h3.2

/-- The segment's operations in the text's order may come up, and are free. -/
def segFrom (md : Region.Mode) (ops : Array Oper) : Nat → Nat → Bool
  | 0, _ => true
  | fuel + 1, k => (Region.ready md ops (firstK ops k)).contains k && Region.free md ops (firstK ops k) k && segFrom md ops fuel (k + 1)
def segB (md : Region.Mode) (ops : Array Oper) (k b : Nat) : Bool :=
  Region.noSelect ops && decide (k ≤ b) && decide (b ≤ ops.size) && dcB md ops (firstK ops k) && segOk md ops b && segFrom md ops (b - k) k

theorem wpSg_lex {b : Nat} {R : Act → Prop} (hs : Region.noSelect ops = true) (hok : segOk md ops b = true) (hbn : b ≤ ops.size) : ∀ (l : List Oper) (k : Nat) (a : Act), k + l.length = b → (∀ j, j < l.length → l[j]? = ops[k + j]?) →
    Dc md ops (firstK ops k) → segFrom md ops l.length k = true → wpQuiet P ops C R l a → wpSg P md ops C b R l.length (firstK ops k) a
  | [], k, _, hk, _, _, _, h => ⟨fun x hx => by rw [firstK_get k x true (by omega)]; simp at hk; simp; omega, h⟩
  | o :: l, k, a, hk, hl, hdc, hB, h => by
    have h0 : ops[k]? = some o := by simpa using (hl 0 (by simp)).symm
    simp only [List.length_cons] at hk
    simp only [List.length_cons, segFrom, Bool.and_eq_true] at hB
    obtain ⟨⟨hr, hf⟩, hB'⟩ := hB
    have hr' : k ∈ Region.ready md ops (firstK ops k) := by simpa using hr
    have hst : qOp P ops C k (wpQuiet P ops C R l) a := by unfold qOp; simp only [h0]; exact h
    obtain ⟨v, hy, hK⟩ := yieldsIn_of_qOp h0 hst
    refine wpSg_first hok hbn h0 (by omega) (Region.noSelect_spec hs) l.length _ a (firstK_size k) hdc (fun x hx => ?_) (Region.free_spec h0 hf) hr' hy ?_
    · rcases Nat.lt_or_ge x ops.size with hxs | hxs
      · rw [firstK_get k x false hxs]; simp; omega
      · simp [firstK, Array.getD]; omega
    · rw [firstK_succ]
      exact wpSg_lex hs hok hbn l (k + 1) _ (by omega) (fun j hj => by have := hl (j + 1) (by simp; omega); simpa [Nat.add_assoc, Nat.add_comm 1 j] using this) (by rw [← firstK_succ]; exact hdc.set hr') hB' hK

theorem wpAny_of_sg {b : Nat} {R : Act → Prop} {Q : Exit → Act → World → Prop} {m : Nat} : ∀ (fuel : Nat) (listed : Array Bool) (a : Act) (w : World), listed.size = ops.size → (∀ x, b ≤ x → listed.getD x false = false) → b ≤ ops.size →
    (∀ a w, C w → R a → wpAny P md ops Q m (firstK ops b) a w) → C w → wpSg P md ops C b R fuel listed a → wpAny P md ops Q (fuel + m) listed a w
  | 0, listed, a, w, hsz, hlo, hbn, hR, hw, h => by
    have hl : listed = firstK ops b := by
      apply Array.ext
      · rw [hsz, firstK_size]
      · intro x h1 h2
        have hx : x < ops.size := by omega
        have e1 : listed.getD x true = listed[x] := by simp [h1]
        have e2 : listed.getD x false = listed[x] := by simp [h1]
        have e3 : (firstK ops b)[x]'h2 = decide (x < b) := by simp [firstK]
        rw [e3]
        rcases Nat.lt_or_ge x b with hb | hb
        · rw [← e1, h.1 x hb]; simp [hb]
        · rw [← e2, hlo x hb]; simp; omega
    rw [hl, Nat.zero_add]
    exact hR a w hw h.2
  | fuel + 1, listed, a, w, hsz, hlo, hbn, hR, hw, h => by
    rw [Nat.add_right_comm]
    refine ⟨fun h0 => absurd h0 h.1, fun i hi => ?_⟩
    obtain ⟨hib, hq⟩ := h.2 i hi
    exact wpOp_of_qOp hw (fun a' w' hw' h' => wpAny_of_sg fuel _ a' w' (by simpa using hsz) (fun x hx => by rw [getD_set_ne false (by omega)]; exact hlo x hx) hbn hR hw' h') hq

/-- The operations from k up to b, each quiet in the class C; then what stands from b on, in every world of the class. -/
theorem wpAny_seg (C : World → Prop) (k b : Nat) (l : List Oper) {Q : Exit → Act → World → Prop} {a : Act} {w : World} {n : Nat} (hB : segB md ops k b = true) (hl : l = (ops.toList.drop k).take (b - k)) (hn : n = (b - k) + (ops.size - b)) (hw : C w)
    (h : wpQuiet P ops C (fun a' => ∀ w', C w' → wpAny P md ops Q (ops.size - b) (firstK ops b) a' w') l a) : wpAny P md ops Q n (firstK ops k) a w := by
  simp only [segB, Bool.and_eq_true, decide_eq_true_eq] at hB
  obtain ⟨⟨⟨⟨⟨hs, hkb⟩, hbn⟩, hdc⟩, hok⟩, hsg⟩ := hB
  have hll : l.length = b - k := by rw [hl]; simp; omega
  subst hn
  rw [← hll]
  refine wpAny_of_sg (C := C) (b := b) (R := fun a' => ∀ w', C w' → wpAny P md ops Q (ops.size - b) (firstK ops b) a' w') l.length _ a w (firstK_size k) (fun x hx => ?_) hbn (fun a w hw h => h w hw) hw (wpSg_lex hs hok hbn l k a (by omega) (fun j hj => ?_) (dc_of hdc) (by rw [hll]; exact hsg) h)
  · rcases Nat.lt_or_ge x ops.size with hxs | hxs
    · rw [firstK_get k x false hxs]; simp; omega
    · simp [firstK, Array.getD]; omega
  · rw [hl, List.getElem?_take, if_pos (by omega), List.getElem?_drop]; simp
/-- An operation that all others wait for. -/
theorem wpAny_bar (k : Nat) (o : Oper) {Q : Exit → Act → World → Prop} {a : Act} {w : World} {n m : Nat} (hr : Region.ready md ops (firstK ops k) = [k]) (ho : ops[k]? = some o) (hn : n = m + 1)
    (h : ∀ K : Act → World → Prop, (∀ a w, wpAny P md ops Q m (firstK ops (k + 1)) a w → K a w) → if Region.wanted o (yielded ops a.tmps) = true then Oper.wp P o a w K Q else K (a.put o.dst undef) w) : wpAny P md ops Q n (firstK ops k) a w := by
  subst hn
  refine wpAny_all hr (by simp) fun i hi => ?_
  have : i = k := by simpa using hi
  subst this
  refine wpOp_step ho ?_
  rw [firstK_succ]
  exact h
/-- All have come up. -/
theorem wpAny_end {Q : Exit → Act → World → Prop} {a : Act} {w : World} {k n : Nat} (hk : k = ops.size) (h : Q .normal a w) : wpAny P md ops Q n (firstK ops k) a w := by
  refine wpAny_done ?_ h n
  subst hk
  rw [List.eq_nil_iff_forall_not_mem]
  intro j hj
  have h0 := (mem_ready.1 hj).1
  obtain ⟨_, o, ho, _⟩ := mem_ready.1 hj
  have hj := (Array.getElem?_eq_some_iff.1 ho).1
  rw [firstK_get _ _ _ hj] at h0
  simp at h0; omega
/-- A region that draws, from its first operation on. -/
theorem wp_region_parts {id : Nat} {Q : Exit → Act → World → Prop} {a : Act} {w : World} {l : List Oper} (hm : P.follows .mixedOrders = true) (h : wpAny P .any l.toArray Q l.toArray.size (firstK l.toArray 0) a w.drew) : (Code.region id l.toArray true).wp P Q a w := by
  refine wp_region_any hm ?_
  rw [firstK_zero] at h
  exact h
end
end Go.Proofs.YtijeieamodjgbaaGreat

/- Steps of a region that draws its order: a call met by its contract. No program in sight. -/
namespace Go.Proofs.YtijeieamodjgbaaGreat
set_option maxRecDepth 100000
open Go.RowKit

/-- A call of a function at a step of a region that draws, met by its contract. -/
theorem step_calls {P : Program} {ops : Array Oper} {o : Oper} {a : Act} {w : World} {K : Act → World → Prop} {Q : Exit → Act → World → Prop} {E : Prop} (hgd : o.guard = none)
    (f : FuncId) (args : Array Value) (hrun : (execOp a.eval o).run P w = .ok (.enter f args) w) {R : Ending → World → Prop} (hc : Calls P f args w R) (h : ∀ e w', R e w' → ∃ v, e = .returned v ∧ K (a.put o.dst v) w') :
    if Region.wanted o (yielded ops a.tmps) = true then Oper.wp P o a w K Q else E := by
  have hw : Region.wanted o (yielded ops a.tmps) = true := by simp [Region.wanted, hgd]
  rw [if_pos hw]
  unfold Oper.wp
  rw [hrun, Oper.upon_enter]
  refine hc.mono fun e w' he => ?_
  obtain ⟨v, rfl, hk⟩ := h e w' he
  exact hk

/-- A call of a function at a step of a region that draws, met by its contract; it may panic. -/
theorem step_calls_or {P : Program} {ops : Array Oper} {o : Oper} {a : Act} {w : World} {K : Act → World → Prop} {Q : Exit → Act → World → Prop} {E : Prop} (hgd : o.guard = none)
    (f : FuncId) (args : Array Value) (hrun : (execOp a.eval o).run P w = .ok (.enter f args) w) {R : Ending → World → Prop} (hc : Calls P f args w R)
    (h : ∀ e w', R e w' → (∃ v, e = .returned v ∧ K (a.put o.dst v) w') ∨ (∃ ps, e = .panicked ps ∧ Q (.panic ps) a w')) :
    if Region.wanted o (yielded ops a.tmps) = true then Oper.wp P o a w K Q else E := by
  have hw : Region.wanted o (yielded ops a.tmps) = true := by simp [Region.wanted, hgd]
  rw [if_pos hw]
  unfold Oper.wp
  rw [hrun, Oper.upon_enter]
  refine hc.mono fun e w' he => ?_
  rcases h e w' he with ⟨v, rfl, hk⟩ | ⟨ps, rfl, hk⟩
  · exact hk
  · exact hk

/-- The same under a guard that holds. -/
theorem step_calls_g {P : Program} {ops : Array Oper} {o : Oper} {a : Act} {w : World} {K : Act → World → Prop} {Q : Exit → Act → World → Prop} {E : Prop} (hw : Region.wanted o (yielded ops a.tmps) = true)
    (f : FuncId) (args : Array Value) (hrun : (execOp a.eval o).run P w = .ok (.enter f args) w) {R : Ending → World → Prop} (hc : Calls P f args w R) (h : ∀ e w', R e w' → ∃ v, e = .returned v ∧ K (a.put o.dst v) w') :
    if Region.wanted o (yielded ops a.tmps) = true then Oper.wp P o a w K Q else E := by
  rw [if_pos hw]
  unfold Oper.wp
  rw [hrun, Oper.upon_enter]
  refine hc.mono fun e w' he => ?_
  obtain ⟨v, rfl, hk⟩ := h e w' he
  exact hk
end Go.Proofs.YtijeieamodjgbaaGreat
