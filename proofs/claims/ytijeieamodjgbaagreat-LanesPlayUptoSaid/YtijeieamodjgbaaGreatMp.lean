
/- Maps from ints and from signatures to counts: what they read as. -/
import Derived.Test.YtijeieamodjgbaaGreatVw
import Derived.Test.YtijeieamodjgbaaGreatKp
import Derived.Maps.OwnSet
import Derived.Maps.OwnOps
import Derived.DeepKeys4
import Derived.WideKeyEntry
import Derived.Laws.StructEq
namespace Go.Proofs.YtijeieamodjgbaaGreat
set_option maxRecDepth 100000
open Go.RowKit Go.Maps
set_option linter.unusedVariables false
set_option linter.unusedSimpArgs false
instance sgMem (s : Sg) (l : List Sg) : Decidable (s ∈ l) := decidable_of_iff (l.any (fun y => decide (y = s)) = true) (by simp)
set_option maxHeartbeats 2000000 in
theorem sigRow : (84 : TypeId) < Tryz.prog.types.size := of_decide_eq_true (by kernel_rfl)
theorem sigWide : (match Tryz.prog.underlying 84 with | some (.array _ _) | some (.struct _) => true | _ => false) = true := by rw [Tryz.underlying84]
theorem laidOut9 : laidOutB Tryz.prog = true := by kernel_rfl
theorem sigLaw : Go.WideMaps.KeyLaw Tryz.prog 84 := deep_law_laid laidOut9 (m := 2) (by omega) sigRow (by kernel_rfl) sigWide
theorem sigK : Keyed Tryz.prog 84 := Keyed.of_law sigLaw
def sgV (s : Sg) : Value := .agg #[.int .i64 s.1, .string s.2]
def sgL (s : Sg) : Lit := .string (keyBytes [.int .i64 s.1, .string s.2.data.toList])
def sgOk (s : Sg) : Prop := i64 s.1 ∧ s.2.size ≤ 1125899906842624
theorem typesSize : ∃ m, Tryz.prog.types.size = m + 1 := ⟨Tryz.prog.types.size - 1, by kernel_rfl⟩
theorem sigKeyType : Tryz.prog.keyType 84 = true := by kernel_rfl
theorem sigCells : Tryz.prog.cellsOf 84 = 2 := by kernel_rfl
theorem intCells : Tryz.prog.cellsOf 3 = 1 := by kernel_rfl
theorem strCells : Tryz.prog.cellsOf 9 = 1 := by kernel_rfl
theorem keyOf_two {P : Program} {k ti ts : TypeId} {f1 f2 : Field} (hk : P.underlying k = some (.struct #[f1, f2])) (h1 : f1.type = ti ∧ f1.offset = 0 ∧ f1.name ≠ "_") (h2 : f2.type = ts ∧ f2.offset = 1 ∧ f2.name ≠ "_") (hi : P.underlying ti = some (.int .i64)) (hs : P.underlying ts = some .string)
    (hkt : P.keyType k = true) (hc : P.cellsOf k = 2) (hc1 : P.cellsOf ti = 1) (hc2 : P.cellsOf ts = 1) (hsz : ∃ m, P.types.size = m + 1) (x : Int) (t : ByteArray) (hx : (Lit.int .i64 x).wf = true) (ht : t.size ≤ maxLen) :
    keyOf P k (.agg #[.int .i64 x, .string t]) = some (.string (keyBytes [.int .i64 x, .string t.data.toList])) := by
  obtain ⟨m, hm⟩ := hsz
  have hf : (Value.agg #[.int .i64 x, .string t]).formed P k = true := by simp [Value.formed, hk, hc]
  simp [keyOf, hk, hkt, hf, hm, Program.keyLits, h1, h2, hi, hs, hc, hc1, hc2, hx, ht, Value.cells]
theorem sgKey (s : Sg) (h : sgOk s) : keyOf Tryz.prog 84 (sgV s) = some (sgL s) := by
  obtain ⟨x, t⟩ := s
  exact keyOf_two Tryz.underlying84 ⟨rfl, rfl, by decide⟩ ⟨rfl, rfl, by decide⟩ Tryz.underlying3 Tryz.underlying9 sigKeyType sigCells intCells strCells typesSize x t (Go.WalkArith.wf_i64 h.1) (Nat.le_trans h.2 (by unfold maxLen; omega))
theorem sgL_inj {s s' : Sg} (h : sgOk s) (h' : sgOk s') (he : sgL s = sgL s') : s = s' := by
  have h1 := sgKey s h; have h2 := sgKey s' h'
  rw [← he] at h2
  have h3 := sigK.inj h1 h2; obtain ⟨x, t⟩ := s; obtain ⟨x', t'⟩ := s'
  simpa [sgV] using h3
theorem zeroInt (w : World) : (zeroValue 3).run Tryz.prog w = .ok (.int .i64 0) w := by kernel_rfl
noncomputable abbrev intE : Value → Option (DataW Unit × List MemPlace) := plainElem Tryz.prog 3
abbrev li (n : Int) : DataW Unit := .lit (.int .i64 n)
theorem ok_world {α : Type} {x y : α} {w w' : World} (h : (Result.ok x w : Result α) = .ok y w') : w = w' := by injection h
section
open Go.WideElems Go.MapKept Go.ChangeMaps
variable {P : Program} {w : World} {t k e : TypeId} {b n : Nat} {D : DataW Unit}
theorem owns_block {w w' : World} (h : w.ownsMap P k (plainElem P e) b n D) (hb : w'.heap[b]? = w.heap[b]?) : w'.ownsMap P k (plainElem P e) b n D := by
  obtain ⟨es, clock, h1, r⟩ := h
  exact ⟨es, clock, by rw [hb]; exact h1, r⟩
theorem entry_int (h : w.ownsMap P k (plainElem P e) b n D) (K : Go.WideMaps.KeyLaw P k) (ht : P.underlying t = some (.map k e)) (he : P.underlying e = some (.int .i64)) (hz : ∀ u : World, (zeroValue e).run P u = .ok (.int .i64 0) u) (hn : n < maxLen)
    {key : Value} {kl : Lit} (hkey : keyOf P k key = some kl) :
    ∃ c v st w1, (Instr.lookup t (.map (some b)) key false).run P w = .ok (.int .i64 c) w ∧ D.atKey kl (.lit (.int .i64 0)) = .lit (.int .i64 c) ∧ (Lit.int .i64 c).wf = true ∧
      (Instr.mapEntry t (.map (some b)) key).run P w = .ok (.tuple #[v, goInt st]) w1 ∧ w.grownBy w1 (some b) ∧ (Instr.lookup t (.map (some b)) key false).run P w1 = .ok (.int .i64 c) w1 ∧
      ∀ a, (Lit.int .i64 a).wf = true → ∃ w2, (Instr.entryStore t (.map (some b)) (goInt st) (.int .i64 a)).run P w1 = .ok () w2 ∧ w2.ownsMap P k (plainElem P e) b (n + 1) (D.put kl (.lit (.int .i64 a))) ∧ w.grownBy w2 (some b) := by
  have Kd := Keyed.of_law K; obtain ⟨c, hl, hat, hwc⟩ := h.lookup_int Kd ht he (hz w) hkey; have h0 := h; obtain ⟨es, clock, hb, F, hs, hD⟩ := h; obtain ⟨v0, st, es1, clock1, hE, hcase, hst⟩ := entry_then_store K ht hz hb F hkey; have hsb : (setBlock w b (.map es1 clock1)).heap[b]? = some (.map es1 clock1) := heap_setBlock_same hb _
  have hgr : ∀ o, w.grownBy (setBlock w b o) (some b) := fun o => ⟨rfl, rfl, rfl, by simp [setBlock], fun i _ hi => heap_setBlock_other hb _ (fun e => hi (by rw [e]))⟩
  have hlk : (Instr.lookup t (.map (some b)) key false).run P (setBlock w b (.map es1 clock1)) = .ok (.int .i64 c) (setBlock w b (.map es1 clock1)) := by
    rcases K.find w hkey es.toList F.keys with ⟨h1, h2⟩ | ⟨j, e0, h1, h2, h3⟩
    · have hrun : (Instr.mapEntry t (.map (some b)) key).run P w = .ok (.tuple #[.int .i64 0, goInt clock]) (setBlock w b (.map (es.push ⟨key, .int .i64 0, clock⟩) (clock + 1))) := by
        simp [Instr.mapEntry, run_underlying ht, MapKept.run_getObj_map hb, K.check w false hkey, h1, hz, MapKept.run_setObj_map _ hb, Result.andThen, setBlock]
      have hup : (Instr.mapUpdate t (.map (some b)) key (.int .i64 0)).run P w = .ok () (setBlock w b (.map (es.push ⟨key, .int .i64 0, clock⟩) (clock + 1))) := by
        simp [Instr.mapUpdate, run_underlying ht, MapKept.run_getObj_map hb, K.check w false hkey, h1, MapKept.run_setObj_map _ hb, Result.andThen, setBlock]
      rw [hE] at hrun
      have hw := ok_world hrun; obtain ⟨w', hup', how, _⟩ := h0.update Kd ht hn hkey (plainElem_int he (a := 0) (by decide))
      rw [hup] at hup'
      have hw' := ok_world hup'; subst hw'
      rw [← hw] at how
      obtain ⟨c', hl', hat', _⟩ := how.lookup_int Kd ht he (hz _) hkey
      rw [atKey_put_same h0.isMap (Kd.key hkey)] at hat'
      have hc' : c' = 0 := by simpa using hat'.symm
      have hc : c = 0 := by
        rcases Maps.fit_look false Kd ht (hz w) hb F hkey with ⟨hr, _, hat2⟩ | ⟨e1, y, he1, hk1, _⟩
        · rw [hl] at hr
          simpa using hr
        · exact absurd hk1 (h2 e1 (by simpa using he1))
      rw [hc, ← hc']
      exact hl'
    · have hj : es[j]? = some e0 := by simpa using h2
      have hsame : es.modify j (fun e => { e with key := key }) = es := by
        apply Array.ext'
        rw [Array.toList_modify, modify_eq_set _ _ _ _ h2]
        have : ({ e0 with key := key } : MapEntry) = e0 := by rw [← h3]
        rw [this]
        exact set_self _ _ _ h2
      have hrun : (Instr.mapEntry t (.map (some b)) key).run P w = .ok (.tuple #[e0.val, goInt e0.born]) (setBlock w b (.map es clock)) := by
        simp [Instr.mapEntry, run_underlying ht, MapKept.run_getObj_map hb, K.check w false hkey, h1, hj, h3, K.stays w hkey, hsame, MapKept.run_setObj_map _ hb, Result.andThen, setBlock]
      rw [hE] at hrun
      have hw := ok_world hrun; have how : (setBlock w b (.map es1 clock1)).ownsMap P k (plainElem P e) b n D := owns_block h0 (by rw [hw, heap_setBlock_same hb _, hb]); obtain ⟨c', hl', hat', _⟩ := how.lookup_int Kd ht he (hz _) hkey
      rw [hat] at hat'
      have hc' : c = c' := by simpa using hat'
      rw [hc']; exact hl'
  refine ⟨c, v0, st, _, hl, hat, hwc, hE, hgr _, hlk, fun a ha => ?_⟩
  obtain ⟨es', clock', hs1, hs2⟩ := hst _ (.int .i64 a) hsb; obtain ⟨w', hup, how, _⟩ := h0.update Kd ht hn hkey (plainElem_int he ha)
  rw [hs2] at hup
  have hw := ok_world hup; subst hw
  refine ⟨_, hs1, owns_block how ?_, (hgr _).trans ⟨rfl, rfl, rfl, by simp [setBlock], fun i _ hi => heap_setBlock_other hsb _ (fun e => hi (by rw [e]))⟩⟩
  rw [heap_setBlock_same hsb, heap_setBlock_same hb]
end
end Go.Proofs.YtijeieamodjgbaaGreat
