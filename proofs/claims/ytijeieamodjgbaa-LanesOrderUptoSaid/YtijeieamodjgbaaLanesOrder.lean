
/- LanesOrder: what is taken from the place 0 comes in the order in which it was sent; what is copied comes behind all: for every input within the bound the law returns true, and its arguments read as before. The bound is the given one of Upto; no other condition. (printed by mkLs.py) -/
import Derived.Test.YtijeieamodjgbaaLn
import Derived.Test.YtijeieamodjgbaaSp
import Derived.Test.YtijeieamodjgbaaView
namespace Go.Proofs.Ytijeieamodjgbaa
set_option maxRecDepth 100000
open Go.RowKit Go.Deep
set_option linter.unusedVariables false
set_option linter.unusedSimpArgs false
attribute [local go_sem] run_store_float

/-- A guard that holds. -/
theorem wanted_of {ops : Array Oper} {o : Oper} {k : Nat} {b : Bool} {t : Tmp} {a : Act} (hg : o.guard = some (k, b)) (hd : dstAt ops k = some t) (hv : a.eval (.tmp t) = .bool b) : Region.wanted o (yielded ops a.tmps) = true := by
  have ht : a.tmps[t]? = some (.bool b) := by
    simp only [Act.eval, Array.getD_eq_getD_getElem?] at hv
    cases h : a.tmps[t]? with
    | none => rw [h] at hv; cases hv
    | some v => rw [h] at hv; simpa using hv
  unfold Region.wanted yielded
  rw [hg]
  unfold dstAt at hd
  simp only [hd, Option.bind_some, ht]
  simp
theorem news_gval {P : Program} {ops : Array Oper} {Q : Exit → Act → World → Prop} {i : Nat} {o : Oper} {a : Act} {w w' : World} {v : Value} {K : Act → World → Prop} (ho : ops[i]? = some o) (hw : Region.wanted o (yielded ops a.tmps) = true)
    (hrun : (execOp a.eval o).run P w = .ok (.value v) w') (hk : K (a.put o.dst v) w') : wpOp P ops Q i K a w := by
  refine wpOp_step ho fun K' hK' => ?_
  rw [if_pos hw]
  unfold Oper.wp
  rw [hrun]
  exact hK' _ _ hk
theorem news_gload {P : Program} {ops : Array Oper} {Q : Exit → Act → World → Prop} {i : Nat} {o : Oper} {a : Act} {w : World} {v : Value} {K : Act → World → Prop} (ho : ops[i]? = some o) (hw : Region.wanted o (yielded ops a.tmps) = true) (ty : TypeId) (x : Operand) (hop : o.op = .load ty x)
    (b off : Nat) (hx : a.eval x = .pointer (some ⟨b, off, none⟩)) (hld : (loadVar ty ⟨b, off, none⟩).run P w = .ok v w) (hk : K (a.put o.dst v) w) : wpOp P ops Q i K a w :=
  news_gval ho hw (by unfold execOp; simp only [hop, hx, Instr.loadAt, Instr.sureAddr, Sem.run_bind, Sem.run_pure, Result.andThen_ok, hld]) hk
theorem made_gcall {P : Program} {ops : Array Oper} {Q : Exit → Act → World → Prop} {i : Nat} {o : Oper} {a : Act} {w : World} {K : Act → World → Prop} {R : Ending → World → Prop} (ho : ops[i]? = some o) (hw : Region.wanted o (yielded ops a.tmps) = true)
    (f : FuncId) (args : Array Value) (hrun : (execOp a.eval o).run P w = .ok (.enter f args) w) (hc : Calls P f args w R) (hk : ∀ e w', R e w' → ∃ v, e = .returned v ∧ K (a.put o.dst v) w') : wpOp P ops Q i K a w :=
  wpOp_step ho fun K' hK' => step_calls_g hw f args hrun hc fun e w' he => by
    obtain ⟨v, rfl, hv⟩ := hk e w' he
    exact ⟨v, rfl, hK' _ _ hv⟩
theorem build_pk1 (ρ : Operand → Value) (o : Oper) (x : Operand) (ho : o.op = .buildSlice 50 1 #[(0, x)]) (cs : List Value) (hcl : cs.length = 19) (hx : ρ x = .agg cs.toArray) (w : World) :
    (execOp ρ o).run Try.prog w = .ok (.value (.slice (some ⟨w.heap.size, 0, none⟩) 1 1)) (w.alloc (.cells cs.toArray 56 (0, 0))) := by
  match cs, hcl with
  | [c0, c1, c2, c3, c4, c5, c6, c7, c8, c9, c10, c11, c12, c13, c14, c15, c16, c17, c18], _ =>
    simp only [execOp, ho]
    go_simp
/-- One packet in a block of its own. -/
theorem sl_one {w : World} {b : Nat} {y : Pk} {cs : List Value} (hE : shPk.E w y cs) (hk : w.heap[b]? = some (.cells cs.toArray 56 (0, 0))) : SlAt shPk w (some ⟨b, 0, none⟩) 1 1 [y] :=
  ⟨rfl, Nat.le_refl _, by decide, by decide, fun h => (by cases h), fun i z hz => by
    cases i with
    | zero =>
      cases hz
      refine ⟨b, 0, cs, rfl, hE, fun j v hv => ?_⟩
      rw [blk_cell hk, ← hv]
      simp
    | succ i => cases hz⟩
/-- One of a slice. -/
theorem SlAt.at {α : Type} {S : Sh α} {w : World} {b o n c : Nat} {l : List α} (h : SlAt S w (some ⟨b, o, none⟩) n c l) {i : Nat} {y : α} (hy : l[i]? = some y) {c' : Nat} (hc : 1 ≤ c') (hc' : c' ≤ 9223372036854775807) : SlAt S w (some ⟨b, o + i * S.k, none⟩) 1 c' [y] :=
  ⟨rfl, hc, hc', by
    have h1 := h.bytes
    have h2 : 1 ≤ n := by have := (List.getElem?_eq_some_iff.1 hy).1; have := h.len; omega
    have := Nat.mul_le_mul_right S.bs h2
    omega, fun h => (by cases h), fun k z hz => by
    cases k with
    | zero =>
      cases hz
      obtain ⟨b', o', cs, ha, hE, hcc⟩ := h.cell i _ hy
      injection ha with ha
      injection ha with h1 h2 _
      subst h1 h2
      exact ⟨b, o + i * S.k, cs, rfl, hE, fun j v hv => by rw [Nat.zero_mul, Nat.add_zero]; exact hcc j v hv⟩
    | succ k => cases hz⟩
/-- The cells of a slice in old memory, one behind the other. -/
theorem flat_row {α : Type} {S : Sh α} {X : Nat → Prop} {w0 w : World} {b o : Nat} (hr : ∀ y cs, S.E w0 y cs → Rob X (fun w' => S.E w' y cs) w) : ∀ (L : List α) (i0 : Nat), (∀ i y, L[i]? = some y → ∃ cs, S.E w0 y cs ∧ ∀ j v, cs[j]? = some v → w0.cell? ⟨b, o + (i0 + i) * S.k + j, none⟩ = some v) →
    ∃ xs, rowOf S X w L xs ∧ ∀ j u, xs[j]? = some u → w0.cell? ⟨b, o + i0 * S.k + j, none⟩ = some u
  | [], _, _ => ⟨[], rfl, fun j u h => by cases h⟩
  | y :: r, i0, h => by
    obtain ⟨cs, hE, hc⟩ := h 0 y rfl
    obtain ⟨xs, hx, hxc⟩ := flat_row hr r (i0 + 1) (fun i z hz => by
      obtain ⟨cs, h1, h2⟩ := h (i + 1) z (by simpa using hz)
      exact ⟨cs, h1, fun j v hv => by rw [show i0 + 1 + i = i0 + (i + 1) by omega]; exact h2 j v hv⟩)
    have hl := S.len hE
    refine ⟨cs ++ xs, ⟨cs, xs, rfl, hl, hr y cs hE, hx⟩, fun j u hj => ?_⟩
    rcases Nat.lt_or_ge j cs.length with h1 | h1
    · rw [List.getElem?_append_left h1] at hj
      have := hc j u hj
      rw [Nat.add_zero] at this
      exact this
    · rw [List.getElem?_append_right h1, hl] at hj
      have := hxc _ u hj
      rw [show o + i0 * S.k + j = o + (i0 + 1) * S.k + (j - S.k) by rw [Nat.add_mul]; omega]
      exact this
theorem pks_flat {w wr : World} {a : Option Addr} {n c : Nat} {L : List Pk} (hb : Below w.heap.size w wr) (h : SlAt shPk w a n c L) : ∃ xs, rowOf shPk (fun k => w.heap.size ≤ k) wr L xs ∧ ∀ ad, a = some ad → ∀ j u, xs[j]? = some u → wr.cell? (ad.add j) = some u := by
  cases a with
  | none =>
    have h0 := h.nil rfl
    have : L = [] := List.eq_nil_of_length_eq_zero (by have := h.len; have := h.cap; omega)
    subst this
    exact ⟨[], rfl, fun ad h => by cases h⟩
  | some ad =>
    obtain ⟨b, o, sp⟩ := ad
    rcases L with _ | ⟨y0, r0⟩
    · exact ⟨[], rfl, fun ad h j u hj => by cases hj⟩
    · obtain ⟨b', o', cs0, ha, _⟩ := h.cell 0 y0 rfl
      injection ha with ha
      injection ha with h1 h2 h3
      subst h1 h2 h3
      obtain ⟨xs, hx, hc⟩ := flat_row (S := shPk) (X := fun k => w.heap.size ≤ k) (w0 := w) (w := wr) (b := b) (o := o) (fun y cs hE => rob_old (w := w) (fun w' hb' => shPk.old hE hb') (Keep.of_below hb) (fun k hk => hk)) (y0 :: r0) 0 (fun i y hy => by
        obtain ⟨b', o', cs, ha, hE, hcc⟩ := h.cell i y hy
        injection ha with ha
        injection ha with h1 h2 _
        subst h1 h2
        exact ⟨cs, hE, fun j v hv => by rw [Nat.zero_add]; exact hcc j v hv⟩)
      refine ⟨xs, hx, fun ad had j u hj => ?_⟩
      injection had with had
      subst had
      have := hc j u hj
      rw [Nat.zero_mul, Nat.add_zero] at this
      rw [Addr.add_lit]
      exact below_cell hb this

/-- A lane, and a row of packets beside it. -/
def OS (w : World) (p : Nat) (row : List Pk) (v : Value) (want : List Pk) (wr : World) : Prop :=
  ∃ M NB book xs, Ln w.heap.size M wr p [] row book NB ∧ Below w.heap.size w wr ∧ wr.ownsRow w.heap.size 56 19 v want.length xs ∧ (∀ k, v.ownBlock = some k → ¬ M k) ∧ rowOf shPk (fun k => w.heap.size ≤ k) wr want xs
section
variable {w wr w' : World} {p : Nat} {row want : List Pk} {v : Value}
theorem OS.below (h : OS w p row v want wr) : Below w.heap.size w wr := by
  obtain ⟨M, NB, book, xs, h1, h2, h3, h4, h5⟩ := h
  exact h2
theorem OS.old (h : OS w p row v want wr) (hb : Below wr.heap.size wr w') : OS w p row v want w' := by
  obtain ⟨M, NB, book, xs, h1, h2, h3, h4, h5⟩ := h
  exact ⟨M, NB, book, xs, h1.old hb, bthen h2 hb, owns_old h3 hb, h4, h5.step (Y := fun _ => False) (Keep.of_below hb) (fun _ _ h => h.elim) (fun _ _ h => h)⟩
theorem OS.step {M M' : Nat → Prop} {NB NB' : Nat} {book book' : List Sg} {row' : List Pk} {xs : List Value} (h1 : Ln w.heap.size M wr p [] row book NB) (h2 : Below w.heap.size w wr) (h3 : wr.ownsRow w.heap.size 56 19 v want.length xs) (h4 : ∀ k, v.ownBlock = some k → ¬ M k) (h5 : rowOf shPk (fun k => w.heap.size ≤ k) wr want xs)
    (hk : Keep M wr w') (hM : ∀ k, M' k → M k ∨ wr.heap.size ≤ k) (hL : Ln w.heap.size M' w' p [] row' book' NB') : OS w p row' v want w' :=
  ⟨M', NB', book', xs, hL, hk.below h2 h1.ge, owns_keep h3 hk h4, fun k hv hm => (hM k hm).elim (h4 k hv) (fun h => by have := (h3.lt k hv).2; omega), h5.step hk (fun k _ hm => h1.ge k hm) (fun _ _ h => h)⟩
theorem OS.take (h : OS w p row v want wr) {n : Int} (hn : i64 n) :
    Calls Try.prog 25 #[.pointer (some ⟨p, 0, none⟩), .int .i64 n] wr fun r w' => (∃ cs : List Value, r = .returned (.tuple #[.agg cs.toArray, .bool (decide (0 < row.length))]) ∧ cs.length = 19 ∧ cs.toArray.all (·.oneCell') = true ∧ Rob (fun k => w.heap.size ≤ k) (fun w' => shPk.E w' (takeV row n) cs) w') ∧ OS w p (takeR row n) v want w' := by
  obtain ⟨M, NB, book, xs, h1, h2, h3, h4, h5⟩ := h
  refine (lanetake_any w.heap.size M p [] row book NB n wr h1 hn h2.size).mono ?_
  rintro r w' ⟨hk, M', hM1, hM2, hr⟩
  cases hy : row[plc n row.length]? with
  | none =>
    rw [hy] at hr
    obtain ⟨h6, h7⟩ := hr
    have h0 : row = [] := by
      rcases Nat.eq_zero_or_pos row.length with h0 | h0
      · exact List.eq_nil_of_length_eq_zero h0
      · rw [List.getElem?_eq_getElem (plc_lt h0)] at hy; cases hy
    subst h0
    exact ⟨⟨zeroPk, h6, rfl, by simp [zeroPk, Value.oneCell'], fun w' _ => pkZ_E w'⟩, OS.step h1 h2 h3 h4 h5 hk hM2 h7⟩
  | some y =>
    rw [hy] at hr
    obtain ⟨⟨cs, h6, h8⟩, h7⟩ := hr
    have hl : decide (0 < row.length) = true := by
      have := (List.getElem?_eq_some_iff.1 hy).1
      simp; omega
    have hv : takeV row n = y := by unfold takeV; rw [hy]; rfl
    exact ⟨⟨cs, by rw [hl]; exact h6, shPk.len h8.self, all_oneCell_toArray (pk_one h8.self), by rw [hv]; exact h8⟩, OS.step h1 h2 h3 h4 h5 hk hM2 h7⟩
theorem OS.copy (h : OS w p row v want wr) {n : Int} (hn : i64 n) :
    Calls Try.prog 24 #[.pointer (some ⟨p, 0, none⟩), .int .i64 n] wr fun r w' => r = .returned (.bool (decide (0 < row.length) && decide (row.length < 4096))) ∧ OS w p (copyR row n) v want w' := by
  obtain ⟨M, NB, book, xs, h1, h2, h3, h4, h5⟩ := h
  refine (lanecopy_any w.heap.size M p [] row book NB n wr h1 hn h2.size).mono ?_
  rintro r w' ⟨hr, hk, M', hM1, hM2, hL⟩
  exact ⟨hr, OS.step h1 h2 h3 h4 h5 hk hM2 hL⟩
theorem OS.len (h : OS w p row v want wr) : Calls Try.prog 27 #[.pointer (some ⟨p, 0, none⟩)] wr fun r w' => r = .returned (.int .i64 row.length) ∧ wr = w' := by
  obtain ⟨M, NB, book, xs, h1, h2, h3, h4, h5⟩ := h
  exact lanelen_any w.heap.size M p [] row book NB wr h1
theorem OS.form (h : OS w p row v want wr) (hw : want.length ≤ 1000) : ∃ a c, v = .slice a want.length c ∧ SlAt shPk wr a want.length c want := by
  obtain ⟨M, NB, book, xs, h1, h2, h3, h4, h5⟩ := h
  obtain ⟨a, c, rfl⟩ := owns_form h3
  exact ⟨a, c, rfl, sl_of_row h3 h5 (by show want.length * 232 ≤ _; omega)⟩
/-- Another row, made of this one. -/
theorem OS.grow (h : OS w p row v want wr) {v' : Value} {xs' : List Value} {want' : List Pk}
    (hg : wr.grownBy w' v.ownBlock) (ho : w'.ownsRow w.heap.size 56 19 v' want'.length xs') (hor : v'.ownBlock = v.ownBlock ∨ v'.ownBlock = some wr.heap.size) (hr : rowOf shPk (fun k => w.heap.size ≤ k) wr want' xs') : OS w p row v' want' w' := by
  obtain ⟨M, NB, book, xs, h1, h2, h3, h4, h5⟩ := h
  have K : Keep (fun k => v.ownBlock = some k) wr w' := (Keep.refl _ wr).grown hg (fun k hk => .inr hk)
  have hW : ∀ k, v.ownBlock = some k → w.heap.size ≤ k := fun k hk => (h3.lt k hk).1
  refine ⟨M, NB, book, xs', h1.keep K (fun k hk => ⟨h4 k hk, hW k hk⟩), K.below h2 hW, ho, fun k hk hm => ?_, hr.step K (fun k _ hk => hW k hk) (fun _ _ h => h)⟩
  rcases hor with h | h
  · exact h4 k (by rw [← h]; exact hk) hm
  · rw [h] at hk
    injection hk with hk
    have := h1.lt k hm
    omega
theorem OS.of {bd : List Int} {book : List Sg} {N : Nat} (h : LS w p [] row book N wr) : OS w p row (.slice none 0 0) [] wr := by
  obtain ⟨M, NB, h1, h2, h3⟩ := h
  exact ⟨M, NB, book, [], h1, h3, World.ownsRow_nil _ _ _ _, fun k hk => (by cases hk), rfl⟩
end
theorem cut_at (cut : Int) (n : Nat) (h1 : 1 ≤ n) (h2 : n ≤ 65536) : ∃ k : Nat, k < n ∧ wrap64 ((IntKind.u64.wrap cut).tmod n) = (k : Int) := by
  have h0 : 0 ≤ IntKind.u64.wrap cut := by
    have h : IntKind.u64.wrap cut = cut % 18446744073709551616 := by simp [IntKind.wrap, IntKind.bits, IntKind.signed]
    rw [h]; omega
  have h3 : (IntKind.u64.wrap cut).tmod n = (IntKind.u64.wrap cut) % n := Int.tmod_eq_emod_of_nonneg h0
  have h4 := Int.emod_lt_of_pos (IntKind.u64.wrap cut) (show (0 : Int) < n by omega)
  have h5 := Int.emod_nonneg (IntKind.u64.wrap cut) (show (n : Int) ≠ 0 by omega)
  refine ⟨((IntKind.u64.wrap cut) % n).toNat, by omega, ?_⟩
  rw [h3]
  unfold wrap64
  omega
theorem plc_nat (k n : Nat) (h : k < n) : plc (k : Int) n = k := by
  unfold plc
  rw [Int.emod_eq_of_lt (by omega) (by omega)]
  simp
def ordT (q : Nat) (cs : List Value) (g o n c j : Nat) : Nat → World → Value → Prop
  | 0 => fun _ v => v = .bool true
  | 1 => fun _ v => v = .bool false
  | 2 => fun _ v => v = .bool false
  | 3 => fun w v => v = .agg cs.toArray
  | 4 => fun w v => ∃ h, v = .slice (some ⟨h, 0, none⟩) 1 1 ∧ w.heap[h]? = some (.cells cs.toArray 56 (0, 0))
  | 5 => fun _ v => v = .slice (some ⟨g, o, none⟩) n c
  | 6 => fun _ v => v = .int .i64 (j : Int)
  | 7 => fun _ v => v = .int .i64 (j : Int)
  | 8 => fun _ v => v = .int .i64 ((j : Int) + 1)
  | 9 => fun _ v => v = .slice (some ⟨g, o + j * 19, none⟩) 1 (c - j)
  | 10 => fun w v => v = .bool true
  | 11 => fun _ v => v = .bool false
  | 12 => fun _ v => v = .bool false
  | _ => fun _ _ => False
theorem ordT_stab {q : Nat} {cs : List Value} {g o n c j : Nat} : ∀ i w w' v, ordT q cs g o n c j i w v → Below w.heap.size w w' → ordT q cs g o n c j i w' v
  | 0, w, w', v, h, hb => h
  | 1, w, w', v, h, hb => h
  | 2, w, w', v, h, hb => h
  | 3, w, w', v, h, hb => h
  | 4, w, w', v, ⟨h, h1, h2⟩, hb => ⟨h, h1, blk_below h2 hb⟩
  | 5, w, w', v, h, hb => h
  | 6, w, w', v, h, hb => h
  | 7, w, w', v, h, hb => h
  | 8, w, w', v, h, hb => h
  | 9, w, w', v, h, hb => h
  | 10, w, w', v, h, hb => h
  | 11, w, w', v, h, hb => h
  | 12, w, w', v, h, hb => h
  | _ + 13, w, w', v, h, hb => h
end Go.Proofs.Ytijeieamodjgbaa

namespace Go.Proofs.Ytijeieamodjgbaa.lanesOrder
set_option maxRecDepth 100000
open Go.ChangeShapes Go.WideShapes Go.ChangeAt Go.RowKit Go.Deep
set_option linter.unusedVariables false
set_option linter.unusedSimpArgs false

set_option maxHeartbeats 4000000 in
theorem walk (w : World) (a : Option Addr) (n c : Nat) (packets : List Pk) (hs : SlAt shPk w a n c packets) (k : Int) (hk : i64 k) (HK : shPk.slice.sz packets ≤ 1048576) :
    Calls Try.prog 8 #[.slice a n c, .int .i64 k] w fun e w' => e = .returned (.bool true) ∧ Below w.heap.size w w' := by
  obtain ⟨ii, hii, hz0, hz1, hz2⟩ := info_parts info_pk
  have hlen := hs.len
  have hmax := Nat.le_trans hs.cap hs.max
  have HS := Lib.hid hs
  have HT := Lib.hid (show ∀ y ∈ packets, (termsP y.m).length * 24 ≤ 140737488355328 from fun y hy => by have := mem_sz packets y hy; have := pk_sz y; omega)
  have HN := Lib.hid (show 0 + sendN packets < 4611686018427387904 by have := sendN_sz packets; omega)
  clear hs HK
  by_cases h200 : 200 < n
  · have hd : decide ((200 : Int) < (n : Int)) = true := by simp; omega
    go_enter Try.func8, Try.ntmps8
    go_wp2_with fail
    refine (lives20_any w).mono ?_
    rintro r w1 ⟨rfl, b1⟩
    have B1 := Lib.hid b1
    clear b1
    go_wp2_with fail
    refine (lives20_any w1).mono ?_
    rintro r w2 ⟨rfl, b2⟩
    have B2 := Lib.hid (bthen B1.out b2)
    clear b2
    go_wp2_with fail
    go_ret
    exact ⟨rfl, B2.out⟩
  · have hd : decide ((200 : Int) < (n : Int)) = false := by simp; omega
    go_enter Try.func8, Try.ntmps8
    go_wp2_with fail
    refine (lives20_any w).mono ?_
    rintro r w1 ⟨rfl, b1⟩
    have CN := Lib.hid (ls_new (bad := []) (sl_nil (S := Sh.int) (w := w)) b1)
    clear b1
    go_wp2_with fail
    refine CN.out.mono ?_
    rintro r w2 ⟨p, rfl, hL⟩
    have CS := Lib.hid (hL.send HS.out HT.out HN.out)
    clear hL CN HT HN
    go_wp2_with fail
    refine CS.out.mono ?_
    rintro r w3 ⟨rfl, hL⟩
    have hsr : sendR [] packets = packets := by unfold sendR; rw [List.nil_append, List.take_of_length_le (by simp; omega)]
    rw [hsr] at hL
    have O3 := Lib.hid (OS.of (bd := []) hL)
    have hB3 := hL.below
    obtain ⟨xs, hxr, hxn⟩ := pks_flat hB3 HS.out
    have k1 : 0 + n ≤ maxLen := by unfold maxLen; omega
    have k2 : (0 + n) * 232 ≤ 140737488355328 := by omega
    have q1 : xs.length = n * 19 := by rw [hxr.len, hlen]; rfl
    have hnil : a = none → n = 0 ∧ c = 0 := fun h => ⟨by have := HS.out.nil h; have := HS.out.cap; omega, HS.out.nil h⟩
    have hone : ∀ u ∈ xs, u.oneCell' = true := hxr.all (fun y cs h => pk_one h)
    have hW3 := hB3.size
    clear CS hL hsr
    go_wp2_with (first | (at_builtin; refine wpList_append_any_at _ rfl (.const (.slice none 0 0)) (.tmp 25) 50 rfl w.heap.size 56 ii (.agg zeroPk.toArray) 19 232 Try.underlying50 hii hz0 hz1 hz2 rfl (by decide) (.slice none 0 0) 0 [] rfl (World.ownsRow_nil _ _ _ _) a n c xs rfl q1 hnil hxn hone k1 k2 hW3 ?_) | fail)
    intro v4 w4 ho4 hg4 hor4
    have O4 := Lib.hid (O3.out.grow (want' := packets) hg4 (by rw [hlen]; simpa using ho4) hor4 hxr)
    obtain ⟨a4, c4, rfl⟩ := owns_form ho4
    clear ho4 hg4 hor4 O3 hxr hxn hone q1 hnil k1 k2 hB3 hW3
    go_upto_if 29 with (fail)
    go_cut [6, 7] (fun v6 v7 wc => Hid (∃ want : List Pk, want.length ≤ 201 ∧ OS w p want v6 want wc))
    case first =>
      by_cases hn0 : n = 0
      · subst hn0
        go_wp2_with fail
        go_meet
        case rel => exact Lib.hid ⟨packets, by omega, O4.out⟩
      · have hn1 : decide ((0 : Int) < (n : Int)) = true := by simp; omega
        have hn2 : decide (0 < n) = true := by simp; omega
        obtain ⟨kk, hkk, hcut⟩ := cut_at k n (by omega) (by omega)
        have hunw : IntKind.u64.wrap (n : Int) = (n : Int) := by
          have h : IntKind.u64.wrap (n : Int) = (n : Int) % 18446744073709551616 := by simp [IntKind.wrap, IntKind.bits, IntKind.signed]
          rw [h]; omega
        have hnz : ((n : Int) == 0) = false := by simp; omega
        have hnz2 : ¬ (n : Int) = 0 := by omega
        have CC := Lib.hid (O4.out.copy (n := (kk : Int)) ⟨by omega, by omega⟩)
        have hcb : (decide (0 < packets.length) && decide (packets.length < 4096)) = true := by simp; omega
        rw [hcb] at CC
        obtain ⟨y, hy⟩ : ∃ y, packets[kk]? = some y := ⟨_, List.getElem?_eq_getElem (by omega)⟩
        have hcr : copyR packets (kk : Int) = packets ++ [y] := by
          unfold copyR
          rw [if_pos (by omega), plc_nat kk _ (by omega), hy]
          rfl
        rw [hcr] at CC
        go_wp2_with fail
        refine CC.out.mono ?_
        rintro r w5 ⟨rfl, hO⟩
        have O5 := Lib.hid hO
        clear CC O4 hcr hcb
        obtain ⟨b, o, cs, rfl, hE, hcc⟩ := HS.out.cell kk y hy
        obtain ⟨M, NB, book, ys, hl1, hl2, hl3, hl4, hl5⟩ := hO
        have hcl : cs.length = 19 := shPk.len hE
        have hone := pk_one hE
        have hB5 := O5.out.below
        have hrange : w5.rangeAt b (o + kk * 19) cs := fun j u hj => below_cell hB5 (hcc j u hj)
        have hinfo : (Try.prog.info? 56).map (·.size) = some cs.length := by rw [hcl]; kernel_rfl
        have hi0 : (0 : Int) ≤ (kk : Int) := by omega
        have hi1 : (kk : Int) < (n : Int) := by omega
        have HE := Lib.hid (show Rob (fun k => w.heap.size ≤ k) (fun w' => shPk.E w' y cs) w5 from rob_old (w := w) (fun w' hb' => shPk.old hE hb') (Keep.of_below hB5) (fun k hk => hk))
        have k1 : n + 1 ≤ maxLen := by unfold maxLen; omega
        have k2 : (n + 1) * 232 ≤ 140737488355328 := by omega
        rw [hlen] at hl3
        have H5 := Lib.hid hl3; have HR5 := Lib.hid hl5
        clear hl1 hl2 hl3 hl4 hl5 hE hcc
        go_upto_region 10 with (fail)
        refine wp_region_lit ?_
        refine wpList_val (w' := w5) rfl (v := .slice a4 n c4) (by simp only [execOp]; go_simp) ?_
        simp only [Act.put, List.setIfInBounds_toArray, List.set_cons_succ, List.set_cons_zero]
        refine wpList_val (w' := w5) rfl (v := .slice (some ⟨b, o, none⟩) n c) (by simp only [execOp]; go_simp) ?_
        simp only [Act.put, List.setIfInBounds_toArray, List.set_cons_succ, List.set_cons_zero]
        refine wpList_val (w' := w5) rfl (v := .int .i64 (kk : Int)) (by simp only [execOp]; go_simp) ?_
        simp only [Act.put, List.setIfInBounds_toArray, List.set_cons_succ, List.set_cons_zero]
        refine wpList_val (w' := w5) rfl (v := .pointer (some ⟨b, o + kk * 19, none⟩)) (by simp only [execOp]; go_simp) ?_
        simp only [Act.put, List.setIfInBounds_toArray, List.set_cons_succ, List.set_cons_zero]
        refine wpList_load_mid rfl 56 (.tmp 44) rfl b (o + kk * 19) rfl cs _ hrange Try.underlying56 rfl hinfo ?_
        simp only [Act.put, List.setIfInBounds_toArray, List.set_cons_succ, List.set_cons_zero]
        obtain ⟨w6, hw6⟩ : ∃ u, u = w5.alloc (.cells cs.toArray 56 (0, 0)) := ⟨_, rfl⟩
        have b6 : Below w5.heap.size w5 w6 := by rw [hw6]; exact below_alloc _ _
        have k6 : w6.heap[w5.heap.size]? = some (.cells cs.toArray 56 (0, 0)) := by rw [hw6]; exact blk_alloc _ _
        refine wpList_val (w' := w6) rfl (v := .slice (some ⟨w5.heap.size, 0, none⟩) 1 1) (by rw [hw6]; exact build_pk1 _ _ (.tmp 45) rfl cs hcl rfl w5) ?_
        simp only [Act.put, List.setIfInBounds_toArray, List.set_cons_succ, List.set_cons_zero]
        have O6 := Lib.hid (O5.out.old b6)
        have hW6 : w.heap.size ≤ w6.heap.size := O6.out.below.size
        refine wpList_append_any_at w6 rfl (.tmp 41) (.tmp 46) 50 rfl w.heap.size 56 ii (.agg zeroPk.toArray) 19 232 Try.underlying50 hii hz0 hz1 hz2 rfl (by decide) (.slice a4 n c4) n ys rfl (owns_old H5.out b6) (some ⟨w5.heap.size, 0, none⟩) 1 1 cs rfl (by rw [hcl]) (fun h => by cases h) (fun ad had j u hj => by
          injection had with had
          subst had
          rw [Addr.add_lit, blk_cell k6, Nat.zero_add, ← hj]
          simp) hone k1 k2 hW6 ?_
        intro v7 w7 ho7 hg7 hor7
        have O7 := Lib.hid (O6.out.grow (want' := packets ++ [y]) hg7 (by rw [List.length_append, hlen]; exact ho7) hor7 ((HR5.out.step (Y := fun _ => False) (Keep.of_below b6) (fun _ _ h => h.elim) (fun _ _ h => h)).snoc hcl (HE.out.step (Y := fun _ => False) (Keep.of_below b6) (fun _ _ h => h.elim) (fun _ _ h => h))))
        clear ho7 hg7 hor7 O6 HR5 HE b6 k6 hw6 H5 O5 hrange hone
        simp only [Act.put, List.setIfInBounds_toArray, List.set_cons_succ, List.set_cons_zero]
        go_wp2_with fail
        go_meet
        case rel => exact Lib.hid ⟨packets ++ [y], by rw [List.length_append]; simp; omega, O7.out⟩
    case rest =>
      obtain ⟨want, hwl, hO⟩ := hcut.out
      clear hcut
      obtain ⟨aw, cw, rfl, hsw⟩ := hO.form (by omega)
      have O0 := Lib.hid (show OS w p (want.drop 0) (.slice aw want.length cw) want wc from by rw [List.drop_zero]; exact hO)
      have hcw := hsw.max
      have hcw2 := hsw.cap
      clear hO hsw O4
      go_wp2_with fail
      go_loopw [8] (fun i wr => ∃ j : Nat, j ≤ want.length ∧ i = .int .i64 j ∧ Hid (OS w p (want.drop j) (.slice aw want.length cw) want wr)) (fun i _ => want.length - (intOf i).toNat)
      case atStart => exact ⟨0, by omega, rfl, O0⟩
      case round =>
        clear O0
        obtain ⟨j, hj, rfl, HO⟩ := hrel
        by_cases hlt : j < want.length
        · obtain ⟨y, hy⟩ : ∃ y, want[j]? = some y := ⟨_, List.getElem?_eq_getElem hlt⟩
          have hdl : decide (0 < (want.drop j).length) = true := by rw [List.length_drop]; simp; omega
          have hpl : plc 0 (want.drop j).length = 0 := by unfold plc; simp
          have htv : takeV (want.drop j) 0 = y := by unfold takeV; rw [hpl, List.getElem?_drop, Nat.add_zero, hy]; rfl
          have htr : takeR (want.drop j) 0 = want.drop (j + 1) := by
            unfold takeR
            rw [hpl, List.drop_eq_getElem_cons hlt]; rfl
          have CT0 := HO.out.take (n := 0) ⟨by decide, by decide⟩
          rw [hdl, htv, htr] at CT0
          have CT := Lib.hid CT0
          clear CT0 htv htr hpl hdl
          go_wp2_with fail
          refine CT.out.mono ?_
          rintro r w5 ⟨⟨cs, rfl, hcl, hone, hE⟩, hO⟩
          have O5 := Lib.hid hO
          have HE := Lib.hid hE
          clear CT hO hE HO
          obtain ⟨CS, hCS⟩ : ∃ CS, CS = cs.toArray := ⟨_, rfl⟩
          rw [← hCS]
          rename_i hK
          refine hK _ _ ?_
          clear hK
          refine wpList_val (w' := w5) rfl (v := .tuple #[.agg CS, .bool true]) (by simp only [execOp]; go_simp) ?_
          simp only [Act.put, List.setIfInBounds_toArray, List.set_cons_succ, List.set_cons_zero]
          refine wpList_val (w' := w5) rfl (v := .agg CS) (by simp only [execOp]; go_simp) ?_
          refine wpList_val (w' := w5) rfl (v := .bool true) (by simp only [execOp]; go_simp) ?_
          simp only [Act.put, List.setIfInBounds_toArray, List.set_cons_succ, List.set_cons_zero]
          refine wpList_boxpk rfl rfl (.tmp 9) (.tmp 57) rfl rfl cs hcl hone rfl (by rw [← hCS]; rfl) fun w7 b7 k7 _ => ?_
          simp only [Act.put, List.setIfInBounds_toArray, List.set_cons_succ, List.set_cons_zero]
          have O7 := Lib.hid (O5.out.old b7)
          have HE7 := Lib.hid (HE.out.step (X' := fun k => w.heap.size ≤ k) (Y := fun _ => False) (Keep.of_below b7) (fun _ _ h => h.elim) (fun _ _ h => h))
          obtain ⟨aw', cw', hav, hsw⟩ := O7.out.form (by omega)
          injection hav with h1 _ h3
          subst h1 h3
          obtain ⟨g, o, _, rfl, _⟩ := hsw.cell j y hy
          have hinf : (Try.prog.info? 56).map (·.size) = some cs.toArray.size := by rw [List.size_toArray, hcl]; kernel_rfl
          have HLD := Lib.hid (fun (wa : World) (hb : Below w7.heap.size w7 wa) => run_loadVar_row (P := Try.prog) wa w5.heap.size 56 56 cs.toArray (0, 0) _ (blk_below k7 hb) Try.underlying56 rfl hinf)
          have CSP := Lib.hid (show ∀ (wa : World) (gb : Nat), Below w7.heap.size w7 wa → wa.heap[gb]? = some (.cells cs.toArray 56 (0, 0)) → Calls Try.prog 26 #[.slice (some ⟨gb, 0, none⟩) 1 1, .slice (some ⟨g, o + j * 19, none⟩) 1 (cw - j)] wa fun e w'' => e = .returned (.bool true) ∧ Below wa.heap.size wa w'' from fun wa gb hb hk => by
            have h := samepks_any (some ⟨gb, 0, none⟩) 1 1 [y] (some ⟨g, o + j * 19, none⟩) 1 (cw - j) [y] wa (sl_one (HE7.out wa (Keep.of_below hb)) hk) ((hsw.old hb).at hy (by omega) (by omega))
            rw [decide_eq_true rfl] at h
            exact h)
          have hjw : IntKind.i64.wrap ((j : Int) + 1) = (j : Int) + 1 := IntWalk.i64_in _ (by omega)
          have hj0 : (0 : Int) ≤ (j : Int) := by omega
          have hj1 : (j : Int) + 1 ≤ (cw : Int) := by omega
          have hj2 : (0 : Int) ≤ (j : Int) + 1 := by omega
          have hj3 : (j : Int) ≤ (j : Int) + 1 := by omega
          have hc0 : ¬ cw = j := by omega
          clear O5 HE b7 k7 hCS hsw hone
          go_upto_region 15 with (fail)
          refine wp_region_made 13 (ordT w5.heap.size cs g o want.length cw j) (fun _ _ => none) rfl (by kernel_rfl) (by kernel_rfl) ordT_stab (fun _ _ _ _ _ h => by cases h) (fun i oo hi ho => ?_) (fun vs w9 hb7 hs hne => ?_)
          · intro ac wa hba hE hF K hK
            have b7 := below_undrew hba
            have hno : ∀ k, (none : Option Nat) = some k → wa.heap.size ≤ k := fun _ h => by cases h
            have hld := HLD.out wa b7
            have hi' : i = 0 ∨ i = 1 ∨ i = 2 ∨ i = 3 ∨ i = 4 ∨ i = 5 ∨ i = 6 ∨ i = 7 ∨ i = 8 ∨ i = 9 ∨ i = 10 ∨ i = 11 ∨ i = 12 := by omega
            rcases hi' with rfl | rfl | rfl | rfl | rfl | rfl | rfl | rfl | rfl | rfl | rfl | rfl | rfl
            · obtain rfl := Option.some.inj ho
              have h1 : ac.eval (.tmp 10) = .bool true := hE 10 (by decide)
              exact news_val rfl rfl (by generalize ac.eval = ρ at h1; simp only [execOp]; go_simp) (hK _ _ (Below.refl _ _) rfl hno)
            · obtain rfl := Option.some.inj ho
              have h1 : ac.eval (.tmp 59) = .bool true := hF ⟨0, .data⟩ (by simp) rfl 59 rfl
              exact news_val rfl rfl (by generalize ac.eval = ρ at h1; simp only [execOp]; go_simp) (hK _ _ (Below.refl _ _) rfl hno)
            · obtain rfl := Option.some.inj ho
              have h1 : ac.eval (.tmp 60) = .bool false := hF ⟨1, .data⟩ (by simp) rfl 60 rfl
              exact news_val rfl rfl (by generalize ac.eval = ρ at h1; simp only [execOp]; go_simp) (hK _ _ (Below.refl _ _) rfl hno)
            · obtain rfl := Option.some.inj ho
              have hg : ac.eval (.tmp 61) = .bool false := hF ⟨2, .guard⟩ (by simp) rfl 61 rfl
              have h1 : ac.eval (.tmp 9) = .pointer (some ⟨w5.heap.size, 0, none⟩) := hE 9 (by decide)
              exact news_gload rfl (wanted_of rfl rfl hg) 56 (.tmp 9) rfl w5.heap.size 0 h1 hld (hK _ _ (Below.refl _ _) rfl hno)
            · obtain rfl := Option.some.inj ho
              have hg : ac.eval (.tmp 61) = .bool false := hF ⟨2, .guard⟩ (by simp) rfl 61 rfl
              obtain h1 : (ac.eval (.tmp 62)) = .agg cs.toArray := hF ⟨3, .data⟩ (by simp) rfl 62 rfl
              exact news_gval rfl (wanted_of rfl rfl hg) (build_pk1 _ _ (.tmp 62) rfl cs hcl h1 wa) (hK _ _ (below_alloc _ _) ⟨wa.heap.size, rfl, blk_alloc _ _⟩ hno)
            · obtain rfl := Option.some.inj ho
              have hg : ac.eval (.tmp 61) = .bool false := hF ⟨2, .guard⟩ (by simp) rfl 61 rfl
              have h1 : ac.eval (.tmp 6) = .slice (some ⟨g, o, none⟩) want.length cw := hE 6 (by decide)
              exact news_gval rfl (wanted_of rfl rfl hg) (by generalize ac.eval = ρ at h1; simp only [execOp]; go_simp) (hK _ _ (Below.refl _ _) rfl hno)
            · obtain rfl := Option.some.inj ho
              have hg : ac.eval (.tmp 61) = .bool false := hF ⟨2, .guard⟩ (by simp) rfl 61 rfl
              have h1 : ac.eval (.tmp 8) = .int .i64 (j : Int) := hE 8 (by decide)
              exact news_gval rfl (wanted_of rfl rfl hg) (by generalize ac.eval = ρ at h1; simp only [execOp]; go_simp) (hK _ _ (Below.refl _ _) rfl hno)
            · obtain rfl := Option.some.inj ho
              have hg : ac.eval (.tmp 61) = .bool false := hF ⟨2, .guard⟩ (by simp) rfl 61 rfl
              have h1 : ac.eval (.tmp 8) = .int .i64 (j : Int) := hE 8 (by decide)
              exact news_gval rfl (wanted_of rfl rfl hg) (by generalize ac.eval = ρ at h1; simp only [execOp]; go_simp) (hK _ _ (Below.refl _ _) rfl hno)
            · obtain rfl := Option.some.inj ho
              have hg : ac.eval (.tmp 61) = .bool false := hF ⟨2, .guard⟩ (by simp) rfl 61 rfl
              have h1 : ac.eval (.tmp 66) = .int .i64 (j : Int) := hF ⟨7, .data⟩ (by simp) rfl 66 rfl
              have h2 : ac.eval (.const (.int .i64 1)) = .int .i64 1 := rfl
              exact news_gval rfl (wanted_of rfl rfl hg) (by generalize ac.eval = ρ at h1 h2; simp only [execOp]; go_simp) (hK _ _ (Below.refl _ _) rfl hno)
            · obtain rfl := Option.some.inj ho
              have hg : ac.eval (.tmp 61) = .bool false := hF ⟨2, .guard⟩ (by simp) rfl 61 rfl
              have h1 : ac.eval (.tmp 64) = .slice (some ⟨g, o, none⟩) want.length cw := hF ⟨5, .data⟩ (by simp) rfl 64 rfl
              have h2 : ac.eval (.tmp 65) = .int .i64 (j : Int) := hF ⟨6, .data⟩ (by simp) rfl 65 rfl
              have h3 : ac.eval (.tmp 67) = .int .i64 ((j : Int) + 1) := hF ⟨8, .data⟩ (by simp) rfl 67 rfl
              exact news_gval rfl (wanted_of rfl rfl hg) (by generalize ac.eval = ρ at h1 h2 h3; simp only [execOp]; go_simp) (hK _ _ (Below.refl _ _) rfl hno)
            · obtain rfl := Option.some.inj ho
              have hg : ac.eval (.tmp 61) = .bool false := hF ⟨2, .guard⟩ (by simp) rfl 61 rfl
              obtain ⟨gb, h1, hbb⟩ : ∃ h, (ac.eval (.tmp 63)) = .slice (some ⟨h, 0, none⟩) 1 1 ∧ wa.heap[h]? = some (.cells cs.toArray 56 (0, 0)) := hF ⟨4, .data⟩ (by simp) rfl 63 rfl
              have h2 : ac.eval (.tmp 68) = .slice (some ⟨g, o + j * 19, none⟩) 1 (cw - j) := hF ⟨9, .data⟩ (by simp) rfl 68 rfl
              have hf : ac.eval (.func 26) = .func (.func 26) #[] #[] := rfl
              refine made_gcall rfl (wanted_of rfl rfl hg) 26 #[.slice (some ⟨gb, 0, none⟩) 1 1, .slice (some ⟨g, o + j * 19, none⟩) 1 (cw - j)] (by generalize ac.eval = ρ at h1 h2 hf; simp only [execOp]; go_simp) (CSP.out wa gb b7 hbb) ?_
              rintro r w8 ⟨rfl, b8⟩
              exact ⟨_, rfl, hK _ _ b8 rfl hno⟩
            · obtain rfl := Option.some.inj ho
              have hg : ac.eval (.tmp 61) = .bool false := hF ⟨2, .guard⟩ (by simp) rfl 61 rfl
              obtain h1 : (ac.eval (.tmp 69)) = .bool true := hF ⟨10, .data⟩ (by simp) rfl 69 rfl
              exact news_gval rfl (wanted_of rfl rfl hg) (by generalize ac.eval = ρ at h1; simp only [execOp]; go_simp) (hK _ _ (Below.refl _ _) rfl hno)
            · obtain rfl := Option.some.inj ho
              have h1 : ac.eval (.tmp 61) = .bool false := hF ⟨2, .data⟩ (by simp) rfl 61 rfl
              have h2 : ac.eval (.tmp 70) = .bool false := hF ⟨11, .data⟩ (by simp) rfl 70 rfl
              have h3 : ac.eval (.const (.bool true)) = .bool true := rfl
              exact news_val rfl rfl (by generalize ac.eval = ρ at h1 h2 h3; simp only [execOp]; go_simp) (hK _ _ (Below.refl _ _) rfl hno)
          · have e0 : vs 0 = _ := hs 0 (by omega)
            have e1 : vs 1 = _ := hs 1 (by omega)
            have e2 : vs 2 = _ := hs 2 (by omega)
            obtain e3 : (vs 3) = .agg cs.toArray := hs 3 (by omega)
            obtain ⟨gb, e4, hbb⟩ : ∃ h, (vs 4) = .slice (some ⟨h, 0, none⟩) 1 1 ∧ w9.heap[h]? = some (.cells cs.toArray 56 (0, 0)) := hs 4 (by omega)
            have e5 : vs 5 = _ := hs 5 (by omega)
            have e6 : vs 6 = _ := hs 6 (by omega)
            have e7 : vs 7 = _ := hs 7 (by omega)
            have e8 : vs 8 = _ := hs 8 (by omega)
            have e9 : vs 9 = _ := hs 9 (by omega)
            obtain e10 : (vs 10) = .bool true := hs 10 (by omega)
            have e11 : vs 11 = _ := hs 11 (by omega)
            have e12 : vs 12 = _ := hs 12 (by omega)
            show wpList _ _ _ _ (((((((((((((Act.put _ (some 59) (vs 0)).put (some 60) (vs 1)).put (some 61) (vs 2)).put (some 62) (vs 3)).put (some 63) (vs 4)).put (some 64) (vs 5)).put (some 65) (vs 6)).put (some 66) (vs 7)).put (some 67) (vs 8)).put (some 68) (vs 9)).put (some 69) (vs 10)).put (some 70) (vs 11)).put (some 71) (vs 12)) _
            rw [e0, e1, e2, e3, e4, e5, e6, e7, e8, e9, e10, e11, e12]
            clear e0 e1 e2 e3 e4 e5 e6 e7 e8 e9 e10 e11 e12 hs hne vs
            have O9 := Lib.hid (O7.out.old hb7)
            clear hb7 CSP HLD O7 HE7
            simp only [List.drop_succ_cons, List.drop_zero, List.drop_nil, Act.put, List.setIfInBounds_toArray, List.set_cons_succ, List.set_cons_zero]
            go_wp2_with fail
            go_roundw
            case rel => exact ⟨j + 1, by omega, by go_num, O9⟩
            case measure => simp [intOf]; omega
        · obtain rfl : j = want.length := by omega
          have hdr : want.drop want.length = [] := List.drop_of_length_le (Nat.le_refl _)
          rw [hdr] at HO
          have CT := Lib.hid (HO.out.take (n := 0) ⟨by decide, by decide⟩)
          clear HO
          go_wp2_with fail
          refine CT.out.mono ?_
          rintro r w5 ⟨⟨cs, rfl, hcl, hone, -⟩, hO⟩
          have O5 := Lib.hid hO
          clear CT hO
          obtain ⟨CS, hCS⟩ : ∃ CS, CS = cs.toArray := ⟨_, rfl⟩
          rw [← hCS]
          rename_i hK
          refine hK _ _ ?_
          clear hK
          refine wpList_val (w' := w5) rfl (v := .tuple #[.agg CS, .bool false]) (by simp only [execOp]; go_simp) ?_
          simp only [Act.put, List.setIfInBounds_toArray, List.set_cons_succ, List.set_cons_zero]
          refine wpList_val (w' := w5) rfl (v := .agg CS) (by simp only [execOp]; go_simp) ?_
          refine wpList_val (w' := w5) rfl (v := .bool false) (by simp only [execOp]; go_simp) ?_
          simp only [Act.put, List.setIfInBounds_toArray, List.set_cons_succ, List.set_cons_zero]
          refine wpList_boxpk rfl rfl (.tmp 11) (.tmp 75) rfl rfl cs hcl hone rfl (by rw [← hCS]; rfl) fun w7 b7 _ _ => ?_
          simp only [Act.put, List.setIfInBounds_toArray, List.set_cons_succ, List.set_cons_zero]
          have O7 := Lib.hid (O5.out.old b7)
          have CL := Lib.hid O7.out.len
          clear b7 O5 hCS hone
          go_wp2_with fail
          refine CL.out.mono ?_
          rintro r w8 ⟨rfl, rfl⟩
          have B7 := Lib.hid O7.out.below
          go_wp2_with fail
          go_ret
          exact ⟨rfl, B7.out⟩

set_option maxRecDepth 100000 in
theorem lifted (os : Os) (started : os.Started) (H : Type) (enc : TypeId × Value → H) (F : Stop.Interp) :
    ReturnsInHanded {} Try.checked os 8 .any ((Rows.OpenSpec.upto Rows.lanesOrderSpec).pre6 enc Try.prog Try.f8 Rows.lanesOrderUptoRow.domain false) (((Rows.OpenSpec.upto Rows.lanesOrderSpec).at F).post enc Try.prog Try.f8 false true false false) := by
  refine returnsInHanded_of_cond (C := Try.checked) (s := Rows.OpenSpec.upto Rows.lanesOrderSpec) (k := Rows.uptoSmall) rfl own started (by kernel_rfl) Try.func8
    (OpenSpec.witness (enc := enc) (C := Try.checked) (s := Rows.OpenSpec.upto Rows.lanesOrderSpec) (k := Rows.uptoSmall) rfl false ⟨#[], #[.slice none 0 0, .int .i64 0], []⟩ 8 (by kernel_rfl) (by kernel_rfl) (by kernel_rfl)
      (x := ([.nil, .lit (.int .i64 0)], [], [])) (by kernel_rfl) rfl (by kernel_rfl)) ?_
  intro W base args ds gs before hval0 hW _ hk _
  have hval : ∀ (j : Nat) t v, Try.f8.params[j]? = some t → args[j]? = some v → Value.okWide Try.prog W .any base t v := hval0
  have hW' := hW
  obtain ⟨p, q, hA0, hV, rfl, hfz, hnd⟩ := hW
  have hA : DataW.TrodAll enc Try.prog W 0 (fun _ => true) true Try.f8.params.toList args.toList ds p := hA0
  rw [Try.params8] at hA hval
  have hA2 := hA
  obtain ⟨v0, vs0, d0, ds0, p0, q0, hargs, rfl, rfl, h0, r0⟩ := trodAll_cons hA
  obtain ⟨v1, vs1, d1, ds1, p1, q1, rfl, rfl, rfl, h1, r1⟩ := trodAll_cons r0
  obtain ⟨rfl, rfl, rfl⟩ := trodAll_nil r1
  obtain rfl : args = #[v0, v1] := by cases args; simp_all
  obtain ⟨rfl, rfl⟩ := trodVars_none hV
  clear hargs
  have hk' : Rows.uptoSmall H [d0, d1] = true := by simpa using hk
  have k0 := hval 0 50 v0 rfl rfl
  obtain ⟨fu0, m0⟩ := h0
  have F0 : Fit Try.prog 50 d0 := fit_upto hk' (by simp) _
  obtain ⟨l0, ⟨a0, n0, c0, e0, f0⟩, g0⟩ := vwPks.2.2 m0 F0
  have e0' := slice_of Try.underlying50 k0 e0
  subst e0'
  have k1 := hval 1 3 v1 rfl rfl
  obtain ⟨fu1, m1⟩ := h1
  obtain ⟨a1, e1, f1⟩ := view_int Try.underlying3 m1
  have e1' := int_of Try.underlying3 k1 e1
  subst e1'
  have G0 : shPk.slice.sz l0 ≤ Rows.uptoBulk d0 := g0
  have HK : shPk.slice.sz l0 ≤ 1048576 := by have h : Rows.uptoBulkAll [d0, d1] ≤ 1048576 := (by simpa [Rows.uptoSmall] using hk'); simp only [Rows.uptoBulkAll] at h; omega
  refine (walk W a0 n0 c0 l0 f0 a1 f1 HK).mono fun e W' ⟨he, bel⟩ => ?_
  subst he
  exact ⟨_, rfl, _, _, _, [], _, [], hW', trodAll_mk1 (shut_bool Try.underlying4 _), trodAll_again laidOut bel (by kernel_rfl) hA2, rfl, bel.frame _, fun h => by cases h⟩

theorem over : Rows.lanesOrderUptoRow.holds Try.pinned (Rows.OpenSpec.upto Rows.lanesOrderSpec) :=
  OpenClaim.holds_of_cond 8 Try.f8 rfl rfl rfl rfl rfl rfl rfl ⟨rfl, rfl, rfl, rfl, rfl⟩ rfl rfl rfl rfl rfl (by kernel_rfl) Try.func8 (by kernel_rfl)
    (of_decide_eq_true (by kernel_rfl)) (by unfold Func.isWrapper; first | (rw [if_pos (by decide +kernel)]; kernel_rfl) | (rw [if_neg (by decide +kernel)]; exact ⟨rfl, rfl⟩))
    (fun os started H enc _ F => lifted os started H enc F)

theorem proved : Rows.LanesOrderUptoSaid := over
#print axioms proved
end Go.Proofs.Ytijeieamodjgbaa.lanesOrder
