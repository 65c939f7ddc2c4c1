
/- A region that runs in one order, on an abstract frame: guards as Bools. No program in sight. -/
import Derived.Test.YtijeieamodjgbaaGreatMem
import Derived.Test.YtijeieamodjgbaaGreatQuiet
namespace Go.Proofs.YtijeieamodjgbaaGreat
set_option maxRecDepth 100000
open Go.RowKit
set_option linter.unusedVariables false
set_option linter.unusedSimpArgs false
structure FrOf (n : Nat) (a : Act) (t : Tmp) (v : Value) (a' : Act) : Prop where
  sz : a'.tmps.size = n
  df : a'.defers = a.defers
  own : a'.eval (.tmp t) = v
  other : ∀ s, s ≠ t → a'.eval (.tmp s) = a.eval (.tmp s)
theorem FrOf.o {n : Nat} {a a' : Act} {t : Tmp} {v x : Value} (f : FrOf n a t v a') (s : Tmp) (h : a.eval (.tmp s) = x) (hs : s ≠ t := by decide) : a'.eval (.tmp s) = x := (f.other s hs).trans h
theorem frOf {n : Nat} {a : Act} {t : Tmp} (hsz : a.tmps.size = n) (ht : t < n) (v : Value) : FrOf n a t v (a.put (some t) v) := by
  refine ⟨by simp [Act.put, hsz], rfl, ?_, fun s hs => ?_⟩
  · simp [Act.eval, Act.put, hsz, ht]
  · simp only [Act.eval, Act.put, Array.getD_eq_getD_getElem?]
    rw [Array.getElem?_setIfInBounds_ne (Ne.symm hs)]
def vif (p : Bool) (v : Value) : Value := cond p v undef
theorem fr_w {ops : Array Oper} {o : Oper} {k : Nat} {b p g : Bool} {t : Tmp} {a : Act} (hg : o.guard = some (k, b)) (hd : (ops[k]?).bind (·.dst) = some t) (hv : a.eval (.tmp t) = vif p (.bool g)) : Region.wanted o (yielded ops a.tmps) = (p && (g == b)) := by
  simp only [Act.eval, Array.getD_eq_getD_getElem?] at hv
  unfold Region.wanted yielded
  rw [hg]; simp only [hd, Option.bind_some]
  cases p with
  | true =>
    have ht : a.tmps[t]? = some (.bool g) := by
      cases h : a.tmps[t]? with
      | none => rw [h] at hv; cases hv
      | some v => rw [h] at hv; simpa [vif] using hv
    rw [ht]
    cases b <;> cases g <;> rfl
  | false =>
    have ht : a.tmps[t]? = none ∨ a.tmps[t]? = some undef := by
      cases h : a.tmps[t]? with
      | none => exact .inl rfl
      | some v => rw [h] at hv; exact .inr (by simpa [vif] using hv)
    rcases ht with ht | ht
    · rw [ht]; rfl
    · rw [ht]; rfl
theorem fr_w0 {ops : Array Oper} {o : Oper} {k : Nat} {b g : Bool} {t : Tmp} {a : Act} (hg : o.guard = some (k, b)) (hd : (ops[k]?).bind (·.dst) = some t) (hv : a.eval (.tmp t) = .bool g) : Region.wanted o (yielded ops a.tmps) = (true && (g == b)) := fr_w (p := true) hg hd hv
section
variable {P : Program} {ops : Array Oper} {rest : List Oper} {o : Oper} {a : Act} {w : World} {Q : Exit → Act → World → Prop} {n : Nat} {t : Tmp} {G : Bool}
theorem fr_g (hsz : a.tmps.size = n) (ht : t < n) (hd : o.dst = some t) (hw : Region.wanted o (yielded ops a.tmps) = G) {v : Value} (hrun : G = true → (execOp a.eval o).run P w = .ok (.value v) w) (h : ∀ a', FrOf n a t (vif G v) a' → wpList P ops Q rest a' w) : wpList P ops Q (o :: rest) a w :=
  wpList_step fun K hK => by
    cases G with
    | true =>
      rw [if_pos hw]
      unfold Oper.wp
      rw [hrun rfl]
      exact hK _ _ (h _ (by rw [hd]; exact frOf hsz ht v))
    | false =>
      rw [if_neg (by rw [hw]; decide)]
      exact hK _ _ (h _ (by rw [hd]; exact frOf hsz ht undef))
theorem fr_gc (hsz : a.tmps.size = n) (ht : t < n) (hd : o.dst = some t) (hw : Region.wanted o (yielded ops a.tmps) = G) (f : FuncId) (args : Array Value) {v : Value} (hrun : G = true → (execOp a.eval o).run P w = .ok (.enter f args) w) (hc : G = true → Calls P f args w fun e w' => e = .returned v ∧ Below w.heap.size w w')
    (h : ∀ a' w', Below w.heap.size w w' → FrOf n a t (vif G v) a' → wpList P ops Q rest a' w') : wpList P ops Q (o :: rest) a w := by
  cases G with
  | true =>
    refine wpList_step fun K hK => step_calls_g hw f args (hrun rfl) (hc rfl) fun e w' he => ?_
    obtain ⟨rfl, hb⟩ := he
    exact ⟨_, rfl, hK _ _ (h _ _ hb (by rw [hd]; exact frOf hsz ht v))⟩
  | false =>
    refine wpList_step fun K hK => ?_
    rw [if_neg (by rw [hw]; decide)]
    exact hK _ _ (h _ _ (Below.refl _ _) (by rw [hd]; exact frOf hsz ht undef))
end
theorem fr_region {P : Program} {id : Nat} {l : List Oper} {a : Act} {w : World} {Q : Exit → Act → World → Prop} (Inv : Act → World → Prop)
    (h1 : ∀ Q' : Exit → Act → World → Prop, (∀ a' w', Inv a' w' → Q' .normal a' w') → wpList P l.toArray Q' l a w) (h2 : ∀ a' w', Inv a' w' → Q .normal a' w') : (Code.region id l.toArray false).wp P Q a w :=
  wp_region_lit (h1 _ h2)
theorem fr_cut {P : Program} {c : Code} {a : Act} {w : World} {Q : Exit → Act → World → Prop} (Inv : Act → World → Prop)
    (h1 : ∀ Q' : Exit → Act → World → Prop, (∀ a' w', Inv a' w' → Q' .normal a' w') → c.wp P Q' a w) (h2 : ∀ a' w', Inv a' w' → Q .normal a' w') : c.wp P Q a w := h1 _ h2
theorem then_ret {K : Act → World → Prop} {Q : Exit → Act → World → Prop} {a : Act} {w : World} (h : Q .ret a w) : Exit.then K Q .ret a w := h
end Go.Proofs.YtijeieamodjgbaaGreat
