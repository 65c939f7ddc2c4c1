
/- Lanes: guarded operations in made regions, packets in slices, the place of a packet. -/
import Derived.Test.YtijeieamodjgbaaLn
import Derived.Test.YtijeieamodjgbaaSp

namespace Go.Proofs.Ytijeieamodjgbaa
set_option maxRecDepth 100000
open Go.RowKit Go.Deep
set_option linter.unusedVariables false
set_option linter.unusedSimpArgs false
attribute [local go_sem] run_store_float

/-- A guard that holds. -/
theorem wanted_of {ops : Array Oper} {o : Oper} {k : Nat} {b : Bool} {t : Tmp} {a : Act} (hg : o.guard = some (k, b)) (hd : dstAt ops k = some t) (hv : a.eval (.tmp t) = .bool b) : Region.wanted o (yielded ops a.tmps) = true := by
  have ht : a.tmps[t]? = some (.bool b) := by
    simp only [Act.eval, Array.getD_eq_getD_getElem?] at hv
    cases h : a.tmps[t]? with
    | none => rw [h] at hv; cases hv
    | some v => rw [h] at hv; simpa using hv
  unfold Region.wanted yielded
  rw [hg]
  unfold dstAt at hd
  simp only [hd, Option.bind_some, ht]
  simp
theorem news_gval {P : Program} {ops : Array Oper} {Q : Exit → Act → World → Prop} {i : Nat} {o : Oper} {a : Act} {w w' : World} {v : Value} {K : Act → World → Prop} (ho : ops[i]? = some o) (hw : Region.wanted o (yielded ops a.tmps) = true)
    (hrun : (execOp a.eval o).run P w = .ok (.value v) w') (hk : K (a.put o.dst v) w') : wpOp P ops Q i K a w := by
  refine wpOp_step ho fun K' hK' => ?_
  rw [if_pos hw]
  unfold Oper.wp
  rw [hrun]
  exact hK' _ _ hk
theorem news_gload {P : Program} {ops : Array Oper} {Q : Exit → Act → World → Prop} {i : Nat} {o : Oper} {a : Act} {w : World} {v : Value} {K : Act → World → Prop} (ho : ops[i]? = some o) (hw : Region.wanted o (yielded ops a.tmps) = true) (ty : TypeId) (x : Operand) (hop : o.op = .load ty x)
    (b off : Nat) (hx : a.eval x = .pointer (some ⟨b, off, none⟩)) (hld : (loadVar ty ⟨b, off, none⟩).run P w = .ok v w) (hk : K (a.put o.dst v) w) : wpOp P ops Q i K a w :=
  news_gval ho hw (by unfold execOp; simp only [hop, hx, Instr.loadAt, Instr.sureAddr, Sem.run_bind, Sem.run_pure, Result.andThen_ok, hld]) hk
theorem made_gcall {P : Program} {ops : Array Oper} {Q : Exit → Act → World → Prop} {i : Nat} {o : Oper} {a : Act} {w : World} {K : Act → World → Prop} {R : Ending → World → Prop} (ho : ops[i]? = some o) (hw : Region.wanted o (yielded ops a.tmps) = true)
    (f : FuncId) (args : Array Value) (hrun : (execOp a.eval o).run P w = .ok (.enter f args) w) (hc : Calls P f args w R) (hk : ∀ e w', R e w' → ∃ v, e = .returned v ∧ K (a.put o.dst v) w') : wpOp P ops Q i K a w :=
  wpOp_step ho fun K' hK' => step_calls_g hw f args hrun hc fun e w' he => by
    obtain ⟨v, rfl, hv⟩ := hk e w' he
    exact ⟨v, rfl, hK' _ _ hv⟩
theorem build_pk1 (ρ : Operand → Value) (o : Oper) (x : Operand) (ho : o.op = .buildSlice 50 1 #[(0, x)]) (cs : List Value) (hcl : cs.length = 19) (hx : ρ x = .agg cs.toArray) (w : World) :
    (execOp ρ o).run Try.prog w = .ok (.value (.slice (some ⟨w.heap.size, 0, none⟩) 1 1)) (w.alloc (.cells cs.toArray 56 (0, 0))) := by
  match cs, hcl with
  | [c0, c1, c2, c3, c4, c5, c6, c7, c8, c9, c10, c11, c12, c13, c14, c15, c16, c17, c18], _ =>
    simp only [execOp, ho]
    go_simp
/-- One packet in a block of its own. -/
theorem sl_one {w : World} {b : Nat} {y : Pk} {cs : List Value} (hE : shPk.E w y cs) (hk : w.heap[b]? = some (.cells cs.toArray 56 (0, 0))) : SlAt shPk w (some ⟨b, 0, none⟩) 1 1 [y] :=
  ⟨rfl, Nat.le_refl _, by decide, by decide, fun h => (by cases h), fun i z hz => by
    cases i with
    | zero =>
      cases hz
      refine ⟨b, 0, cs, rfl, hE, fun j v hv => ?_⟩
      rw [blk_cell hk, ← hv]
      simp
    | succ i => cases hz⟩
/-- One of a slice. -/
theorem SlAt.at {α : Type} {S : Sh α} {w : World} {b o n c : Nat} {l : List α} (h : SlAt S w (some ⟨b, o, none⟩) n c l) {i : Nat} {y : α} (hy : l[i]? = some y) {c' : Nat} (hc : 1 ≤ c') (hc' : c' ≤ 9223372036854775807) : SlAt S w (some ⟨b, o + i * S.k, none⟩) 1 c' [y] :=
  ⟨rfl, hc, hc', by
    have h1 := h.bytes
    have h2 : 1 ≤ n := by have := (List.getElem?_eq_some_iff.1 hy).1; have := h.len; omega
    have := Nat.mul_le_mul_right S.bs h2
    omega, fun h => (by cases h), fun k z hz => by
    cases k with
    | zero =>
      cases hz
      obtain ⟨b', o', cs, ha, hE, hcc⟩ := h.cell i _ hy
      injection ha with ha
      injection ha with h1 h2 _
      subst h1 h2
      exact ⟨b, o + i * S.k, cs, rfl, hE, fun j v hv => by rw [Nat.zero_mul, Nat.add_zero]; exact hcc j v hv⟩
    | succ k => cases hz⟩
/-- The cells of a slice in old memory, one behind the other. -/
theorem flat_row {α : Type} {S : Sh α} {X : Nat → Prop} {w0 w : World} {b o : Nat} (hr : ∀ y cs, S.E w0 y cs → Rob X (fun w' => S.E w' y cs) w) : ∀ (L : List α) (i0 : Nat), (∀ i y, L[i]? = some y → ∃ cs, S.E w0 y cs ∧ ∀ j v, cs[j]? = some v → w0.cell? ⟨b, o + (i0 + i) * S.k + j, none⟩ = some v) →
    ∃ xs, rowOf S X w L xs ∧ ∀ j u, xs[j]? = some u → w0.cell? ⟨b, o + i0 * S.k + j, none⟩ = some u
  | [], _, _ => ⟨[], rfl, fun j u h => by cases h⟩
  | y :: r, i0, h => by
    obtain ⟨cs, hE, hc⟩ := h 0 y rfl
    obtain ⟨xs, hx, hxc⟩ := flat_row hr r (i0 + 1) (fun i z hz => by
      obtain ⟨cs, h1, h2⟩ := h (i + 1) z (by simpa using hz)
      exact ⟨cs, h1, fun j v hv => by rw [show i0 + 1 + i = i0 + (i + 1) by omega]; exact h2 j v hv⟩)
    have hl := S.len hE
    refine ⟨cs ++ xs, ⟨cs, xs, rfl, hl, hr y cs hE, hx⟩, fun j u hj => ?_⟩
    rcases Nat.lt_or_ge j cs.length with h1 | h1
    · rw [List.getElem?_append_left h1] at hj
      have := hc j u hj
      rw [Nat.add_zero] at this
      exact this
    · rw [List.getElem?_append_right h1, hl] at hj
      have := hxc _ u hj
      rw [show o + i0 * S.k + j = o + (i0 + 1) * S.k + (j - S.k) by rw [Nat.add_mul]; omega]
      exact this
theorem pks_flat {w wr : World} {a : Option Addr} {n c : Nat} {L : List Pk} (hb : Below w.heap.size w wr) (h : SlAt shPk w a n c L) : ∃ xs, rowOf shPk (fun k => w.heap.size ≤ k) wr L xs ∧ ∀ ad, a = some ad → ∀ j u, xs[j]? = some u → wr.cell? (ad.add j) = some u := by
  cases a with
  | none =>
    have h0 := h.nil rfl
    have : L = [] := List.eq_nil_of_length_eq_zero (by have := h.len; have := h.cap; omega)
    subst this
    exact ⟨[], rfl, fun ad h => by cases h⟩
  | some ad =>
    obtain ⟨b, o, sp⟩ := ad
    rcases L with _ | ⟨y0, r0⟩
    · exact ⟨[], rfl, fun ad h j u hj => by cases hj⟩
    · obtain ⟨b', o', cs0, ha, _⟩ := h.cell 0 y0 rfl
      injection ha with ha
      injection ha with h1 h2 h3
      subst h1 h2 h3
      obtain ⟨xs, hx, hc⟩ := flat_row (S := shPk) (X := fun k => w.heap.size ≤ k) (w0 := w) (w := wr) (b := b) (o := o) (fun y cs hE => rob_old (w := w) (fun w' hb' => shPk.old hE hb') (Keep.of_below hb) (fun k hk => hk)) (y0 :: r0) 0 (fun i y hy => by
        obtain ⟨b', o', cs, ha, hE, hcc⟩ := h.cell i y hy
        injection ha with ha
        injection ha with h1 h2 _
        subst h1 h2
        exact ⟨cs, hE, fun j v hv => by rw [Nat.zero_add]; exact hcc j v hv⟩)
      refine ⟨xs, hx, fun ad had j u hj => ?_⟩
      injection had with had
      subst had
      have := hc j u hj
      rw [Nat.zero_mul, Nat.add_zero] at this
      rw [Addr.add_lit]
      exact below_cell hb this

end Go.Proofs.Ytijeieamodjgbaa
