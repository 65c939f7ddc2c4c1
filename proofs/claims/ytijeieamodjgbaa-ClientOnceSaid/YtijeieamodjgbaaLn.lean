
/- Lanes: a lane that isn't there; a packet of who isn't bad; lives of witanlaw20; readings. -/
import Derived.Test.YtijeieamodjgbaaLd
import Derived.Great.Walk
import Derived.Test.YtijeieamodjgbaaNews3
import Derived.Test.YtijeieamodjgbaaWw
import Derived.Test.YtijeieamodjgbaaWt

namespace Go.Proofs.Ytijeieamodjgbaa
set_option maxRecDepth 100000
open Go.RowKit Go.Deep
attribute [local irreducible] wpQuiet
set_option linter.unusedVariables false
set_option linter.unusedSimpArgs false
attribute [local go_sem] run_store_float

theorem zeroPk_row : zeroPk.toArray = #[.int .i64 0, .int .i64 0, .int .i64 0, .int .i64 0, .int .i64 0, .int .i64 0, .int .i64 0, .int .i64 0, .int .i64 0, .string ⟨#[]⟩, .float .f64 0, .int .i64 0, .int .i64 0, .float .f64 0, .string ⟨#[]⟩, .slice none 0 0, .slice none 0 0, .slice none 0 0, .slice none 0 0] := rfl
theorem alloc_pk (ρ : Operand → Value) (o : Oper) (ho : o.op = .alloc 56) (w : World) : (execOp ρ o).run Try.prog w = .ok (.value (.pointer (some ⟨w.heap.size, 0, none⟩))) (w.alloc (.cells zeroPk.toArray 56 (0, 0))) := by
  rw [zeroPk_row]
  simp only [execOp, ho]
  go_simp
theorem wpList_boxpk {ops : Array Oper} {rest : List Oper} {o1 o2 : Oper} {a : Act} {w : World} {Q : Exit → Act → World → Prop} (hg1 : o1.guard = none) (hg2 : o2.guard = none) (x y : Operand) (ho1 : o1.op = .alloc 56) (ho2 : o2.op = .store 56 x y)
    (cs : List Value) (hl : cs.length = 19) (h1 : cs.toArray.all (·.oneCell') = true)
    (hx : (a.put o1.dst (.pointer (some ⟨w.heap.size, 0, none⟩))).eval x = .pointer (some ⟨w.heap.size, 0, none⟩)) (hy : (a.put o1.dst (.pointer (some ⟨w.heap.size, 0, none⟩))).eval y = .agg cs.toArray)
    (h : ∀ w', Below w.heap.size w w' → w'.heap[w.heap.size]? = some (.cells cs.toArray 56 (0, 0)) → w'.heap.size = w.heap.size + 1 → wpList Try.prog ops Q rest ((a.put o1.dst (.pointer (some ⟨w.heap.size, 0, none⟩))).put o2.dst undef) w') :
    wpList Try.prog ops Q (o1 :: o2 :: rest) a w := by
  refine wpList_val (w' := w.alloc (.cells zeroPk.toArray 56 (0, 0))) hg1 (alloc_pk a.eval o1 ho1 w) ?_
  have b1 : Below w.heap.size w (w.alloc (.cells zeroPk.toArray 56 (0, 0))) := below_alloc _ _
  have hz1 : (w.alloc (.cells zeroPk.toArray 56 (0, 0))).heap.size = w.heap.size + 1 := by simp
  have k1 : (w.alloc (.cells zeroPk.toArray 56 (0, 0))).heap[w.heap.size]? = some (.cells zeroPk.toArray 56 (0, 0)) := blk_alloc _ _
  generalize w.alloc (.cells zeroPk.toArray 56 (0, 0)) = w1 at b1 hz1 k1 ⊢
  have hz19 : zeroPk.length = 19 := rfl
  have hinfo : (Try.prog.info? 56).map (·.size) = some 19 := by kernel_rfl
  refine wpList_store_mid hg2 56 x y ho2 w.heap.size 0 cs.toArray hx hy (fun j hj => ⟨?_, ?_⟩) (by rw [List.size_toArray, hl]; exact hinfo) h1 ?_
  · have : j < 19 := by simpa [hl] using hj
    rw [blk_cell k1, Option.isSome_iff_exists, Nat.zero_add]
    exact ⟨_, Array.getElem?_eq_getElem (by simpa [hz19] using this)⟩
  · exact blk_frozen k1 _
  · exact h _ (sets_below (Nat.le_refl _) _ b1) (by have := blk_sets cs w1 [] zeroPk k1 (by rw [hz19, hl]); simpa using this) (by rw [sets_size, hz1])
theorem pair_E {α β : Type} {A : Sh α} {B : Sh β} {w : World} {x : α} {y : β} {c0 c1 : List Value} (h0 : A.E w x c0) (h1 : B.E w y c1) : (A.pair B).E w (x, y) (c0 ++ c1) := ⟨_, _, rfl, h0, h1⟩
theorem sl_E {α : Type} {S : Sh α} {w : World} : S.slice.E w [] [.slice none 0 0] := ⟨none, 0, 0, rfl, rfl, Nat.le_refl _, by decide, by rw [Nat.zero_mul]; decide, fun _ => rfl, fun i y hy => by simp at hy⟩
end Go.Proofs.Ytijeieamodjgbaa

/- Lanes: steps of witanlaw20; Drop, Copy, Inject of a lane that is there. (printed by mkLo.py) -/
namespace Go.Proofs.Ytijeieamodjgbaa
set_option maxRecDepth 100000
open Go.RowKit Go.Deep
attribute [local irreducible] wpQuiet
set_option linter.unusedVariables false
set_option linter.unusedSimpArgs false
attribute [local go_sem] run_store_float

def pkZ : Pk := ⟨0, 0, ⟨0, 0, 0, 0, ⟨0, 0, 0, ⟨#[]⟩, 0, 0⟩, 0, 0, ⟨#[]⟩, [], [], [], []⟩⟩
theorem pkZ_E (w : World) : shPk.E w pkZ zeroPk := by
  have I : ∀ x, i64 x → Sh.int.E w x [.int .i64 x] := fun x h => ⟨rfl, h⟩
  have z : i64 0 := ⟨by decide, by decide⟩
  have Q : shReq.E w ⟨0, 0, 0, ⟨#[]⟩, 0, 0⟩ [.int .i64 0, .int .i64 0, .int .i64 0, .string ⟨#[]⟩, .float .f64 0, .int .i64 0] := pair_E (I 0 z) (pair_E (I 0 z) (pair_E (I 0 z) (pair_E (c0 := [.string ⟨#[]⟩]) ⟨rfl, by decide⟩ (pair_E (c0 := [.float .f64 0]) ⟨rfl, by decide⟩ (I 0 z)))))
  have R : shRes.E w (0, 0) [.int .i64 0, .float .f64 0] := pair_E (I 0 z) ⟨rfl, by decide⟩
  have T : Sh.str.E w ⟨#[]⟩ [.string ⟨#[]⟩] := ⟨rfl, by decide⟩
  have m0 : shMsg.E w pkZ.m (mgCs pkZ.m none 0 0 none 0 0 none 0 0 none 0 0) := pair_E (I 0 z) (pair_E (I 0 z) (pair_E (I 0 z) (pair_E (I 0 z) (pair_E Q (pair_E R (pair_E T (pair_E sl_E (pair_E sl_E (pair_E sl_E sl_E)))))))))
  exact pair_E (I 0 z) (pair_E (I 0 z) m0)
/-- The row without the packet n. -/
def takeR (row : List Pk) (n : Int) : List Pk := row.eraseIdx (plc n row.length)
def LnPost (W : Nat) (M : Nat → Prop) (p : Nat) (bad : List Int) (row : List Pk) (book : List Sg) (NB : Nat) (v : Value) (w : World) (r : Ending) (w' : World) : Prop :=
  r = .returned v ∧ Keep M w w' ∧ ∃ M' : Nat → Prop, (∀ k, M k → M' k) ∧ (∀ k, M' k → M k ∨ w.heap.size ≤ k) ∧ Ln W M' w' p bad row book NB
set_option maxHeartbeats 1000000 in
theorem lanedrop_any (W : Nat) (M : Nat → Prop) (p : Nat) (bad : List Int) (row : List Pk) (book : List Sg) (NB : Nat) (n : Int) (w : World) (h : Ln W M w p bad row book NB) (hn : i64 n) (hW : W ≤ w.heap.size) :
    Calls Try.prog 31 #[.pointer (some ⟨p, 0, none⟩), .int .i64 n] w (LnPost W M p bad (takeR row n) book NB (.bool (decide (0 < row.length))) w) := by
  have CT := Lib.hid (lanetake_any W M p bad row book NB n w h hn hW)
  have HTN := Lib.hid (show row[plc n row.length]? = none → row = [] from fun h => by
    rcases Nat.eq_zero_or_pos row.length with h0 | h0
    · exact List.eq_nil_of_length_eq_zero h0
    · rw [List.getElem?_eq_getElem (plc_lt h0)] at h; cases h)
  clear h
  go_enter Try.func31, Try.ntmps31
  go_wp2_with fail
  refine CT.out.mono ?_
  rintro r w1 ⟨hk1, M', hM1, hM2, hr⟩
  obtain ⟨cs, hcl, hone, rfl, hL⟩ : ∃ cs : List Value, cs.length = 19 ∧ cs.toArray.all (·.oneCell') = true ∧ r = .returned (.tuple #[.agg cs.toArray, .bool (decide (0 < row.length))]) ∧ Ln W M' w1 p bad (takeR row n) book NB := by
    cases hy : row[plc n row.length]? with
    | none =>
      rw [hy] at hr
      obtain ⟨h1, h2⟩ := hr
      obtain rfl := HTN.out hy
      exact ⟨zeroPk, rfl, by simp [zeroPk, Value.oneCell'], h1, h2⟩
    | some y =>
      rw [hy] at hr
      obtain ⟨⟨cs, h1, h3⟩, h2⟩ := hr
      have hl : decide (0 < row.length) = true := by
        have := (List.getElem?_eq_some_iff.1 hy).1
        simp; omega
      exact ⟨cs, shPk.len h3.self, all_oneCell_toArray (pk_one h3.self), by rw [hl]; exact h1, h2⟩
  have HLN := Lib.hid hL
  generalize decide (0 < row.length) = D at *
  rename_i hK
  refine hK _ _ ?_
  clear hK hL hr CT HTN
  obtain ⟨CS, hCS⟩ : ∃ CS, CS = cs.toArray := ⟨_, rfl⟩
  rw [← hCS]
  refine wpList_val (w' := w1) rfl (v := .tuple #[.agg CS, .bool D]) (by simp only [execOp]; go_simp) ?_
  simp only [Act.put, List.setIfInBounds_toArray, List.set_cons_succ, List.set_cons_zero]
  refine wpList_val (w' := w1) rfl (v := .agg CS) (by simp only [execOp]; go_simp) ?_
  refine wpList_val (w' := w1) rfl (v := .bool D) (by simp only [execOp]; go_simp) ?_
  simp only [Act.put, List.setIfInBounds_toArray, List.set_cons_succ, List.set_cons_zero]
  refine wpList_boxpk rfl rfl (.tmp 5) (.tmp 11) rfl rfl cs hcl hone rfl (by rw [← hCS]; rfl) fun w2 b2 _ _ => ?_
  simp only [Act.put, List.setIfInBounds_toArray, List.set_cons_succ, List.set_cons_zero]
  have HF := Lib.hid (show LnPost W M p bad (takeR row n) book NB (.bool D) w (.returned (.bool D)) w2 from ⟨rfl, hk1.trans (X' := fun _ => False) (Keep.of_below b2) (fun _ _ h => h.elim), M', hM1, hM2, HLN.out.old b2⟩)
  clear b2 hk1 hM1 hM2 HLN
  go_wp2_with fail
  go_ret
  exact HF.out

end Go.Proofs.Ytijeieamodjgbaa

/- Lanes: a lane all of whose memory is younger than the arguments: what each call leaves. -/
namespace Go.Proofs.Ytijeieamodjgbaa
set_option maxRecDepth 100000
open Go.RowKit Go.Deep
set_option linter.unusedVariables false
set_option linter.unusedSimpArgs false

/-- The lane at p, behind what was there when the law began. -/
def LS (w : World) (p : Nat) (bad : List Int) (row : List Pk) (book : List Sg) (N : Nat) (wr : World) : Prop := ∃ M NB, Ln w.heap.size M wr p bad row book NB ∧ NB ≤ N ∧ Below w.heap.size w wr
section
variable {w wr : World} {p : Nat} {bad : List Int} {row : List Pk} {book : List Sg} {N : Nat}
theorem LS.below (h : LS w p bad row book N wr) : Below w.heap.size w wr := by
  obtain ⟨M, NB, h1, h2, h3⟩ := h
  exact h3
theorem LS.cap (h : LS w p bad row book N wr) : row.length ≤ 4096 := by
  obtain ⟨M, NB, h1, h2, h3⟩ := h
  exact h1.cap
theorem LS.old {w' : World} (h : LS w p bad row book N wr) (hb : Below wr.heap.size wr w') : LS w p bad row book N w' := by
  obtain ⟨M, NB, h1, h2, h3⟩ := h
  exact ⟨M, NB, h1.old hb, h2, bthen h3 hb⟩
theorem LS.mono {N' : Nat} (h : LS w p bad row book N wr) (hN : N ≤ N') : LS w p bad row book N' wr := by
  obtain ⟨M, NB, h1, h2, h3⟩ := h
  exact ⟨M, NB, h1, by omega, h3⟩
theorem LS.post {M : Nat → Prop} {NB N' : Nat} {bad' : List Int} {row' : List Pk} {book' : List Sg} {v : Value} {r : Ending} {w' : World} (hb : Below w.heap.size w wr) (hg : ∀ k, M k → w.heap.size ≤ k) (hN : NB ≤ N') (h : LnPost w.heap.size M p bad' row' book' NB v wr r w') : r = .returned v ∧ LS w p bad' row' book' N' w' := by
  obtain ⟨h1, h2, M', h3, h4, h5⟩ := h
  exact ⟨h1, M', NB, h5, hN, h2.below hb hg⟩
theorem LS.drop (h : LS w p bad row book N wr) {n : Int} (hn : i64 n) :
    Calls Try.prog 31 #[.pointer (some ⟨p, 0, none⟩), .int .i64 n] wr fun r w' => r = .returned (.bool (decide (0 < row.length))) ∧ LS w p bad (takeR row n) book N w' := by
  obtain ⟨M, NB, h1, h2, h3⟩ := h
  exact (lanedrop_any w.heap.size M p bad row book NB n wr h1 hn h3.size).mono fun r w' h => LS.post h3 h1.ge h2 h
def takeV (row : List Pk) (n : Int) : Pk := row[plc n row.length]?.getD pkZ
theorem LS.take (h : LS w p bad row book N wr) {n : Int} (hn : i64 n) :
    Calls Try.prog 25 #[.pointer (some ⟨p, 0, none⟩), .int .i64 n] wr fun r w' => (∃ cs : List Value, r = .returned (.tuple #[.agg cs.toArray, .bool (decide (0 < row.length))]) ∧ cs.length = 19 ∧ cs.toArray.all (·.oneCell') = true ∧ Rob (fun k => w.heap.size ≤ k) (fun w' => shPk.E w' (takeV row n) cs) w') ∧ LS w p bad (takeR row n) book N w' := by
  obtain ⟨M, NB, h1, h2, h3⟩ := h
  refine (lanetake_any w.heap.size M p bad row book NB n wr h1 hn h3.size).mono ?_
  rintro r w' ⟨hk, M', hM1, hM2, hr⟩
  cases hy : row[plc n row.length]? with
  | none =>
    rw [hy] at hr
    obtain ⟨h4, h5⟩ := hr
    have h0 : row = [] := by
      rcases Nat.eq_zero_or_pos row.length with h0 | h0
      · exact List.eq_nil_of_length_eq_zero h0
      · rw [List.getElem?_eq_getElem (plc_lt h0)] at hy; cases hy
    subst h0
    exact ⟨⟨zeroPk, h4, rfl, by simp [zeroPk, Value.oneCell'], fun w' _ => pkZ_E w'⟩, M', NB, h5, h2, hk.below h3 h1.ge⟩
  | some y =>
    rw [hy] at hr
    obtain ⟨⟨cs, h4, h6⟩, h5⟩ := hr
    have hl : decide (0 < row.length) = true := by
      have := (List.getElem?_eq_some_iff.1 hy).1
      simp; omega
    have hv : takeV row n = y := by unfold takeV; rw [hy]; rfl
    exact ⟨⟨cs, by rw [hl]; exact h4, shPk.len h6.self, all_oneCell_toArray (pk_one h6.self), by rw [hv]; exact h6⟩, M', NB, h5, h2, hk.below h3 h1.ge⟩
theorem LS.len (h : LS w p bad row book N wr) : Calls Try.prog 27 #[.pointer (some ⟨p, 0, none⟩)] wr fun r w' => r = .returned (.int .i64 row.length) ∧ wr = w' := by
  obtain ⟨M, NB, h1, h2, h3⟩ := h
  exact lanelen_any w.heap.size M p bad row book NB wr h1
end

end Go.Proofs.Ytijeieamodjgbaa
