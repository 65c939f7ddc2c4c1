
/- Lanes: a lane all of whose memory is younger than the arguments: what each call leaves. -/
import Derived.Test.YtijeieamodjgbaaLo
namespace Go.Proofs.Ytijeieamodjgbaa
set_option maxRecDepth 100000
open Go.RowKit Go.Deep
set_option linter.unusedVariables false
set_option linter.unusedSimpArgs false

/-- The lane at p, behind what was there when the law began. -/
def LS (w : World) (p : Nat) (bad : List Int) (row : List Pk) (book : List Sg) (N : Nat) (wr : World) : Prop := ∃ M NB, Ln w.heap.size M wr p bad row book NB ∧ NB ≤ N ∧ Below w.heap.size w wr
section
variable {w wr : World} {p : Nat} {bad : List Int} {row : List Pk} {book : List Sg} {N : Nat}
theorem LS.below (h : LS w p bad row book N wr) : Below w.heap.size w wr := by
  obtain ⟨M, NB, h1, h2, h3⟩ := h
  exact h3
theorem LS.cap (h : LS w p bad row book N wr) : row.length ≤ 4096 := by
  obtain ⟨M, NB, h1, h2, h3⟩ := h
  exact h1.cap
theorem LS.old {w' : World} (h : LS w p bad row book N wr) (hb : Below wr.heap.size wr w') : LS w p bad row book N w' := by
  obtain ⟨M, NB, h1, h2, h3⟩ := h
  exact ⟨M, NB, h1.old hb, h2, bthen h3 hb⟩
theorem LS.mono {N' : Nat} (h : LS w p bad row book N wr) (hN : N ≤ N') : LS w p bad row book N' wr := by
  obtain ⟨M, NB, h1, h2, h3⟩ := h
  exact ⟨M, NB, h1, by omega, h3⟩
theorem LS.post {M : Nat → Prop} {NB N' : Nat} {bad' : List Int} {row' : List Pk} {book' : List Sg} {v : Value} {r : Ending} {w' : World} (hb : Below w.heap.size w wr) (hg : ∀ k, M k → w.heap.size ≤ k) (hN : NB ≤ N') (h : LnPost w.heap.size M p bad' row' book' NB v wr r w') : r = .returned v ∧ LS w p bad' row' book' N' w' := by
  obtain ⟨h1, h2, M', h3, h4, h5⟩ := h
  exact ⟨h1, M', NB, h5, hN, h2.below hb hg⟩
theorem pks_in {M : Nat → Prop} {a : Option Addr} {n c : Nat} {L : List Pk} (hb : Below w.heap.size w wr) (hg : ∀ k, M k → w.heap.size ≤ k) (h : SlAt shPk w a n c L) : PksIn w.heap.size M wr a n c L :=
  ⟨h.len, Nat.le_trans h.cap h.max, fun i y hy => by
    obtain ⟨b, o, cs, ha, hE, hc⟩ := h.cell i y hy
    have hl := shPk.len hE
    have h0 : ∃ v, cs[0]? = some v := ⟨_, List.getElem?_eq_getElem (by rw [hl]; decide)⟩
    obtain ⟨v, hv⟩ := h0
    have hlt := World.block_lt (hc 0 v hv)
    exact ⟨b, o, cs, ha, fun hm => by have := hg b hm; omega, rob_old (w := w) (fun w' hb' => shPk.old hE hb') (Keep.of_below hb) (fun k hk => hk), fun j u hj => below_cell hb (hc j u hj)⟩⟩
theorem LS.send (h : LS w p bad row book N wr) {a : Option Addr} {n c : Nat} {L : List Pk} (hs : SlAt shPk w a n c L) (hT : ∀ y ∈ L, (termsP y.m).length * 24 ≤ 140737488355328) (hN : N + sendN L < 4611686018427387904) :
    Calls Try.prog 23 #[.pointer (some ⟨p, 0, none⟩), .slice a n c] wr fun r w' => r = .returned (.tuple #[]) ∧ LS w p bad (sendR row L) (sendB book L) (N + sendN L) w' := by
  obtain ⟨M, NB, h1, h2, h3⟩ := h
  refine (lanesend_any w.heap.size M p bad row book NB a n c L wr h1 h3.size (pks_in h3 h1.ge hs) hT (by omega)).mono ?_
  rintro r w' ⟨h4, h5, M', h6, h7, h8⟩
  exact ⟨h4, M', _, h8, by omega, h5.below h3 h1.ge⟩
theorem LS.drop (h : LS w p bad row book N wr) {n : Int} (hn : i64 n) :
    Calls Try.prog 31 #[.pointer (some ⟨p, 0, none⟩), .int .i64 n] wr fun r w' => r = .returned (.bool (decide (0 < row.length))) ∧ LS w p bad (takeR row n) book N w' := by
  obtain ⟨M, NB, h1, h2, h3⟩ := h
  exact (lanedrop_any w.heap.size M p bad row book NB n wr h1 hn h3.size).mono fun r w' h => LS.post h3 h1.ge h2 h
theorem LS.copy (h : LS w p bad row book N wr) {n : Int} (hn : i64 n) :
    Calls Try.prog 24 #[.pointer (some ⟨p, 0, none⟩), .int .i64 n] wr fun r w' => r = .returned (.bool (decide (0 < row.length) && decide (row.length < 4096))) ∧ LS w p bad (copyR row n) book N w' := by
  obtain ⟨M, NB, h1, h2, h3⟩ := h
  exact (lanecopy_any w.heap.size M p bad row book NB n wr h1 hn h3.size).mono fun r w' h => LS.post h3 h1.ge h2 h
theorem LS.inject (h : LS w p bad row book N wr) {y : Pk} {cs : List Value} (hE : shPk.E w y cs) (hT : (termsP y.m).length * 24 ≤ 140737488355328) (hN : N < 4611686018427387904) :
    Calls Try.prog 29 #[.pointer (some ⟨p, 0, none⟩), .agg cs.toArray] wr fun r w' => r = .returned (.int .i64 (injE bad row book y)) ∧ LS w p bad (injR bad row book y) book N w' := by
  obtain ⟨M, NB, h1, h2, h3⟩ := h
  exact (laneinject_any w.heap.size M p bad row book NB y cs wr h1 h3.size (rob_old (w := w) (fun w' hb' => shPk.old hE hb') (Keep.of_below h3) (fun k hk => hk)) hT (by omega)).mono fun r w' h => LS.post h3 h1.ge h2 h
def takeV (row : List Pk) (n : Int) : Pk := row[plc n row.length]?.getD pkZ
theorem LS.take (h : LS w p bad row book N wr) {n : Int} (hn : i64 n) :
    Calls Try.prog 25 #[.pointer (some ⟨p, 0, none⟩), .int .i64 n] wr fun r w' => (∃ cs : List Value, r = .returned (.tuple #[.agg cs.toArray, .bool (decide (0 < row.length))]) ∧ cs.length = 19 ∧ cs.toArray.all (·.oneCell') = true ∧ Rob (fun k => w.heap.size ≤ k) (fun w' => shPk.E w' (takeV row n) cs) w') ∧ LS w p bad (takeR row n) book N w' := by
  obtain ⟨M, NB, h1, h2, h3⟩ := h
  refine (lanetake_any w.heap.size M p bad row book NB n wr h1 hn h3.size).mono ?_
  rintro r w' ⟨hk, M', hM1, hM2, hr⟩
  cases hy : row[plc n row.length]? with
  | none =>
    rw [hy] at hr
    obtain ⟨h4, h5⟩ := hr
    have h0 : row = [] := by
      rcases Nat.eq_zero_or_pos row.length with h0 | h0
      · exact List.eq_nil_of_length_eq_zero h0
      · rw [List.getElem?_eq_getElem (plc_lt h0)] at hy; cases hy
    subst h0
    exact ⟨⟨zeroPk, h4, rfl, by simp [zeroPk, Value.oneCell'], fun w' _ => pkZ_E w'⟩, M', NB, h5, h2, hk.below h3 h1.ge⟩
  | some y =>
    rw [hy] at hr
    obtain ⟨⟨cs, h4, h6⟩, h5⟩ := hr
    have hl : decide (0 < row.length) = true := by
      have := (List.getElem?_eq_some_iff.1 hy).1
      simp; omega
    have hv : takeV row n = y := by unfold takeV; rw [hy]; rfl
    exact ⟨⟨cs, by rw [hl]; exact h4, shPk.len h6.self, all_oneCell_toArray (pk_one h6.self), by rw [hv]; exact h6⟩, M', NB, h5, h2, hk.below h3 h1.ge⟩
theorem LS.len (h : LS w p bad row book N wr) : Calls Try.prog 27 #[.pointer (some ⟨p, 0, none⟩)] wr fun r w' => r = .returned (.int .i64 row.length) ∧ wr = w' := by
  obtain ⟨M, NB, h1, h2, h3⟩ := h
  exact lanelen_any w.heap.size M p bad row book NB wr h1
theorem ls_new {a : Option Addr} {n c : Nat} (hs : SlAt Sh.int w a n c bad) (hb : Below w.heap.size w wr) : Calls Try.prog 22 #[.slice a n c] wr fun r w' => ∃ p, r = .returned (.pointer (some ⟨p, 0, none⟩)) ∧ LS w p bad [] [] 0 w' := by
  refine (lanenew_any w.heap.size a n c bad wr hb.size (hs.old hb)).mono ?_
  rintro r w' ⟨h1, M, p, rfl, h2, h3⟩
  exact ⟨p, rfl, M, 0, h3, Nat.le_refl _, bthen hb h1⟩
end

/-- The rows' lengths. -/
theorem takeR_len (row : List Pk) (n : Int) : (takeR row n).length = row.length - 1 := by
  unfold takeR
  rw [List.length_eraseIdx]
  rcases Nat.eq_zero_or_pos row.length with h | h
  · rw [h]; split <;> rfl
  · rw [if_pos (plc_lt h)]
theorem sendR_len (row L : List Pk) (h : row.length ≤ 4096) : (sendR row L).length = min (row.length + L.length) 4096 := by
  unfold sendR; rw [List.length_append, List.length_take]; omega
theorem copyR_len (row : List Pk) (n : Int) : (copyR row n).length = if 0 < row.length ∧ row.length < 4096 then row.length + 1 else row.length := by
  unfold copyR
  rcases Nat.eq_zero_or_pos row.length with h | h
  · obtain rfl : row = [] := List.eq_nil_of_length_eq_zero h
    simp
  · split
    · rw [List.getElem?_eq_getElem (plc_lt h), if_pos ⟨h, by assumption⟩]; simp
    · rw [if_neg (by omega)]
theorem injR_len (bad : List Int) (row : List Pk) (book : List Sg) (y : Pk) : (injR bad row book y).length = if injE bad row book y = 0 then row.length + 1 else row.length := by
  unfold injR
  split <;> simp
theorem pk_sz (y : Pk) : (termsP y.m).length ≤ shPk.sz y := by
  have := terms_sz y.m
  have h : shPk.sz y = 1 + (1 + shMsg.sz y.m) := rfl
  omega
theorem sendN_sz (L : List Pk) : sendN L + 1 ≤ shPk.slice.sz L := by
  have h : shPk.slice.sz L = (L.map shPk.sz).sum + 1 := rfl
  have h2 : sendN L ≤ (L.map shPk.sz).sum := by
    unfold sendN
    clear h
    induction L with
    | nil => simp
    | cons y r ih => have := pk_sz y; simp only [List.map_cons, List.sum_cons]; omega
  omega
theorem mem_sz (L : List Pk) (y : Pk) (hy : y ∈ L) : shPk.sz y ≤ shPk.slice.sz L := by
  have h : shPk.slice.sz L = (L.map shPk.sz).sum + 1 := rfl
  have h2 : shPk.sz y ≤ (L.map shPk.sz).sum := by
    clear h
    induction L with
    | nil => cases hy
    | cons z r ih =>
      rw [List.map_cons, List.sum_cons]
      rcases List.mem_cons.1 hy with rfl | h
      · omega
      · have := ih h; omega
  omega
/-- The bulk of the steps up to k. -/
def stepsZ (l : List Stp) (k : Nat) : Nat := ((l.take k).map shStep.sz).sum
theorem stepsZ_snoc {l : List Stp} {k : Nat} {y : Stp} (h : l[k]? = some y) : stepsZ l (k + 1) = stepsZ l k + shStep.sz y := by
  unfold stepsZ
  rw [List.take_add_one, h]; simp
theorem stepsZ_le (l : List Stp) (k : Nat) : stepsZ l k + 1 ≤ shStep.slice.sz l := by
  have h : shStep.slice.sz l = (l.map shStep.sz).sum + 1 := rfl
  have h2 : stepsZ l k ≤ (l.map shStep.sz).sum := by
    unfold stepsZ
    rw [← List.take_append_drop k l, List.map_append, List.sum_append]
    simp
  omega
theorem step_sz (y : Stp) : sendN y.l ≤ shStep.sz y ∧ (∀ z ∈ y.l, (termsP z.m).length ≤ shStep.sz y) ∧ (termsP (firstP y.l).m).length ≤ shStep.sz y := by
  have h : shStep.sz y = 1 + (1 + shPk.slice.sz y.l) := rfl
  have h1 := sendN_sz y.l
  refine ⟨by omega, fun z hz => ?_, ?_⟩
  · have := mem_sz y.l z hz; have := pk_sz z; omega
  · cases hl : y.l with
    | nil => simp [firstP, pkZ, termsP]
    | cons z r =>
      have := mem_sz y.l z (by rw [hl]; simp)
      have := pk_sz z
      show (termsP z.m).length ≤ _
      omega
end Go.Proofs.Ytijeieamodjgbaa
