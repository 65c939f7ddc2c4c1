
/- The client's map of what came, and the client in memory. -/
import Derived.Test.YtijeieamodjgbabMp
import Derived.Test.YtijeieamodjgbabTk
import Derived.Test.YtijeieamodjgbabWm
import Derived.Test.YtijeieamodjgbabCoW

namespace Go.Proofs.Ytijeieamodjgbab
set_option maxRecDepth 100000
open Go.RowKit Go.Maps
set_option linter.unusedVariables false
set_option linter.unusedSimpArgs false

theorem ckRow : (128 : TypeId) < Try.prog.types.size := of_decide_eq_true (by kernel_rfl)
theorem ckWide : (match Try.prog.underlying 128 with | some (.array _ _) | some (.struct _) => true | _ => false) = true := by rw [Try.underlying128]
theorem ckLaw : Go.WideMaps.KeyLaw Try.prog 128 := deep_law_laid laidOut9 (m := 2) (by omega) ckRow (by kernel_rfl) ckWide
theorem ckK : Keyed Try.prog 128 := Keyed.of_law ckLaw
theorem ckKeyType : Try.prog.keyType 128 = true := by kernel_rfl
theorem ckCells : Try.prog.cellsOf 128 = 2 := by kernel_rfl
def ckV (k : Int × Int) : Value := .agg #[.int .i64 k.1, .int .i64 k.2]
def ckL (k : Int × Int) : Lit := .string (keyBytes [.int .i64 k.1, .int .i64 k.2])
def ckOk (k : Int × Int) : Prop := i64 k.1 ∧ i64 k.2
theorem keyOf_ints {P : Program} {k ti : TypeId} (hk : P.underlying k = some (.array 2 ti)) (hi : P.underlying ti = some (.int .i64))
    (hkt : P.keyType k = true) (hc : P.cellsOf k = 2) (hc1 : P.cellsOf ti = 1) (hsz : ∃ m, P.types.size = m + 1) (x y : Int) (hx : (Lit.int .i64 x).wf = true) (hy : (Lit.int .i64 y).wf = true) :
    keyOf P k (.agg #[.int .i64 x, .int .i64 y]) = some (.string (keyBytes [.int .i64 x, .int .i64 y])) := by
  obtain ⟨m, hm⟩ := hsz
  have hf : (Value.agg #[.int .i64 x, .int .i64 y]).formed P k = true := by simp [Value.formed, hk, hc]
  simp [keyOf, hk, hkt, hf, hm, Program.keyLits, hi, hc, hc1, hx, hy, Value.cells, List.range_succ]
theorem ckKey {k : Int × Int} (h : ckOk k) : keyOf Try.prog 128 (ckV k) = some (ckL k) :=
  keyOf_ints Try.underlying128 Try.underlying3 ckKeyType ckCells intCells typesSize k.1 k.2 (Go.WalkArith.wf_i64 h.1) (Go.WalkArith.wf_i64 h.2)
theorem ckL_inj {k k' : Int × Int} (h : ckOk k) (h' : ckOk k') (he : ckL k = ckL k') : k = k' := by
  have h1 := ckKey h
  have h2 := ckKey h'
  rw [← he] at h2
  have h3 := ckK.inj h1 h2
  obtain ⟨x, y⟩ := k
  obtain ⟨x', y'⟩ := k'
  simpa [ckV] using h3
def rawC : Value → Option (DataW Value × List MemPlace) := fun v => some (.held v, [])
theorem rawC_block {w w' : World} {k : TypeId} {b n : Nat} {D : DataW Value} (h : w.ownsMap Try.prog k rawC b n D) (hb : w'.heap[b]? = w.heap[b]?) : w'.ownsMap Try.prog k rawC b n D := by
  obtain ⟨es, clock, h1, r⟩ := h
  exact ⟨es, clock, by rw [hb]; exact h1, r⟩
theorem zeroCame (w : World) : (zeroValue 130).run Try.prog w = .ok (.agg #[.string ⟨#[]⟩]) w := by kernel_rfl
abbrev Came := List ((Int × Int) × ByteArray)
def cGet (C : Came) (k : Int × Int) : ByteArray := match C.find? (fun c => decide (c.1 = k)) with | some c => c.2 | none => ⟨#[]⟩
def cHas (C : Came) (k : Int × Int) : Bool := (C.find? (fun c => decide (c.1 = k))).isSome
/-- The map reads as what came. -/
structure CMp (C : Came) (D : DataW Value) : Prop where
  size : Maps.size D = C.length
  ok : ∀ c ∈ C, ckOk c.1
  has : ∀ k, ckOk k → Maps.has D (ckL k) = cHas C k
  get : ∀ k, ckOk k → cHas C k = true → ∀ z, D.atKey (ckL k) z = .held (.agg #[.string (cGet C k)])
theorem CMp.empty : CMp [] (.map []) := ⟨rfl, fun _ h => (by cases h), fun k hk => rfl, fun k hk h => (by cases h)⟩
theorem look_came {w : World} {m n : Nat} {D : DataW Value} {C : Came} (ho : w.ownsMap Try.prog 128 rawC m n D) (hv : CMp C D) {k : Int × Int} (hk : ckOk k) :
    (Instr.lookup 77 (.map (some m)) (.agg #[.int .i64 k.1, .int .i64 k.2]) true).run Try.prog w = .ok (.tuple #[.agg #[.string (cGet C k)], .bool (cHas C k)]) w := by
  obtain ⟨v, ps, hrun, hR⟩ := ho.look_ok ckK Try.underlying77 (zeroCame w) (zd := .held (.agg #[.string ⟨#[]⟩])) (zp := []) rfl (ckKey hk)
  rw [hv.has k hk] at hrun
  simp only [rawC, Option.some.injEq, Prod.mk.injEq] at hR
  cases hh : cHas C k with
  | false =>
    have h0 := hv.has k hk
    rw [hh] at h0
    rw [atKey_of_not_has h0] at hR
    injection hR.1 with h1
    rw [h1, hh] at hrun
    have hg : cGet C k = ⟨#[]⟩ := by
      unfold cHas at hh
      unfold cGet
      cases hf : C.find? (fun c => decide (c.1 = k)) with
      | none => rfl
      | some c => rw [hf] at hh; cases hh
    rw [hg]
    exact hrun
  | true =>
    rw [hv.get k hk hh] at hR
    injection hR.1 with h1
    rw [h1, hh] at hrun
    exact hrun
theorem cHas_snoc (C : Came) (k k' : Int × Int) (t : ByteArray) : cHas (C ++ [(k, t)]) k' = (cHas C k' || decide (k = k')) := by
  unfold cHas
  rw [List.find?_append]
  cases C.find? (fun c => decide (c.1 = k')) with
  | some c => rfl
  | none =>
    by_cases h : k = k'
    · subst h; simp
    · simp [h]
theorem cGet_snoc_old {C : Came} {k k' : Int × Int} {t : ByteArray} (h : cHas C k' = true) : cGet (C ++ [(k, t)]) k' = cGet C k' := by
  unfold cHas at h
  unfold cGet
  rw [List.find?_append]
  cases hf : C.find? (fun c => decide (c.1 = k')) with
  | some c => rfl
  | none => rw [hf] at h; cases h
theorem cGet_snoc_new {C : Came} {k : Int × Int} {t : ByteArray} (h : cHas C k = false) : cGet (C ++ [(k, t)]) k = t := by
  unfold cHas at h
  unfold cGet
  rw [List.find?_append]
  cases hf : C.find? (fun c => decide (c.1 = k)) with
  | some c => rw [hf] at h; cases h
  | none => simp
theorem CMp.put {C : Came} {D : DataW Value} (h : CMp C D) (T : Tidy D) {k : Int × Int} (hk : ckOk k) (hno : cHas C k = false) (t : ByteArray) : CMp (C ++ [(k, t)]) (D.put (ckL k) (.held (.agg #[.string t]))) := by
  have hkx : WideAt.IsKeyLit (ckL k) := ckK.key (ckKey hk)
  refine ⟨?_, fun c hc => ?_, fun k' hk' => ?_, fun k' hk' hh z => ?_⟩
  · rw [size_put T, h.has k hk, hno, h.size]; simp
  · rw [List.mem_append, List.mem_singleton] at hc
    rcases hc with hc | rfl
    · exact h.ok c hc
    · exact hk
  · rw [cHas_snoc]
    by_cases he : k = k'
    · subst he
      rw [has_put_same T.isMap hkx]; simp
    · rw [has_put_other (fun e => he (ckL_inj hk hk' e.symm)), h.has k' hk']
      simp [he]
  · by_cases he : k = k'
    · subst he
      rw [atKey_put_same T.isMap hkx, cGet_snoc_new hno]
    · rw [cHas_snoc] at hh
      have hh' : cHas C k' = true := by simpa [he] using hh
      rw [atKey_put_other (fun e => he (ckL_inj hk hk' e.symm)), cGet_snoc_old hh']
      exact h.get k' hk' hh' z
end Go.Proofs.Ytijeieamodjgbab
