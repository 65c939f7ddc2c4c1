
/- Readings of arguments, made up of parts: ints, strings, bools, slices, structs; what each is in plain terms. No program in sight but the size of what is read. -/
import Derived.Test.YtijeieamodjgbaaGreatView
import Derived.Deep.Slices
import Derived.Deep.Fields
import Derived.ChangeSame
import Derived.Test.YtijeieamodjgbaaGreatQuiet

namespace Go.Proofs.YtijeieamodjgbaaGreat
set_option maxRecDepth 100000
open Go.ChangeShapes Go.WideShapes Go.ChangeAt Go.RowKit Go.Deep

/-- How a plain thing lies in cells. -/
structure Sh (α : Type) where
  k : Nat
  bs : Nat
  E : World → α → List Value → Prop
  sz : α → Nat
  len : ∀ {w y cs}, E w y cs → cs.length = k
  old : ∀ {w w' y cs}, E w y cs → Below w.heap.size w w' → E w' y cs

/-- A slice's parts. -/
structure SlAt {α : Type} (S : Sh α) (w : World) (a : Option Addr) (n c : Nat) (l : List α) : Prop where
  len : l.length = n
  cap : n ≤ c
  max : c ≤ 9223372036854775807
  bytes : n * S.bs ≤ 140737488355328
  nil : a = none → c = 0
  cell : ∀ i y, l[i]? = some y → ∃ b o cs, a = some ⟨b, o, none⟩ ∧ S.E w y cs ∧ ∀ j v, cs[j]? = some v → w.cell? ⟨b, o + i * S.k + j, none⟩ = some v
theorem SlAt.old {α : Type} {S : Sh α} {w w' : World} {a : Option Addr} {n c : Nat} {l : List α} (h : SlAt S w a n c l) (hb : Below w.heap.size w w') : SlAt S w' a n c l :=
  ⟨h.len, h.cap, h.max, h.bytes, h.nil, fun i y hy => by
    obtain ⟨b, o, cs, ha, hE, hc⟩ := h.cell i y hy
    exact ⟨b, o, cs, ha, S.old hE hb, fun j v hv => by rw [hb.cell (World.block_lt (hc j v hv))]; exact hc j v hv⟩⟩

def Sh.int : Sh Int where
  k := 1
  bs := 8
  E := fun _ x cs => cs = [.int .i64 x] ∧ i64 x
  sz := fun _ => 1
  len := fun ⟨h, _⟩ => by rw [h]; rfl
  old := fun h _ => h
def Sh.u64 : Sh Int where
  k := 1
  bs := 8
  E := fun _ x cs => cs = [.int .u64 x] ∧ 0 ≤ x ∧ x ≤ 18446744073709551615
  sz := fun _ => 1
  len := fun ⟨h, _⟩ => by rw [h]; rfl
  old := fun h _ => h
def Sh.bool : Sh Bool where
  k := 1
  bs := 1
  E := fun _ x cs => cs = [.bool x]
  sz := fun _ => 1
  len := fun h => by rw [h]; rfl
  old := fun h _ => h
def Sh.str : Sh ByteArray where
  k := 1
  bs := 16
  E := fun _ x cs => cs = [.string x] ∧ x.size ≤ 140737488351232
  sz := fun x => x.size + 1
  len := fun ⟨h, _⟩ => by rw [h]; rfl
  old := fun h _ => h
/-- A string that may be made of others. -/
def Sh.long : Sh ByteArray where
  k := 1
  bs := 16
  E := fun _ x cs => cs = [.string x] ∧ x.size ≤ 1125899906842624
  sz := fun x => x.size + 1
  len := fun ⟨h, _⟩ => by rw [h]; rfl
  old := fun h _ => h
def Sh.slice {α : Type} (S : Sh α) : Sh (List α) where
  k := 1
  bs := 24
  E := fun w l cs => ∃ a n c, cs = [.slice a n c] ∧ SlAt S w a n c l
  sz := fun l => (l.map S.sz).sum + 1
  len := fun ⟨_, _, _, h, _⟩ => by rw [h]; rfl
  old := fun ⟨a, n, c, h, hs⟩ hb => ⟨a, n, c, h, hs.old hb⟩
/-- The cells of one, then those of the other. -/
def Sh.pair {α β : Type} (A : Sh α) (B : Sh β) : Sh (α × β) where
  k := A.k + B.k
  bs := A.bs + B.bs
  E := fun w y cs => ∃ c0 c1, cs = c0 ++ c1 ∧ A.E w y.1 c0 ∧ B.E w y.2 c1
  sz := fun y => A.sz y.1 + B.sz y.2
  len := fun ⟨c0, c1, h, h0, h1⟩ => by rw [h, List.length_append, A.len h0, B.len h1]
  old := fun ⟨c0, c1, h, h0, h1⟩ hb => ⟨c0, c1, h, A.old h0 hb, B.old h1 hb⟩
def Sh.bytes {α : Type} (S : Sh α) (n : Nat) : Sh α := { S with bs := n }

/-- What is asked of a reading: each weight is within reach, or all of it is of small bulk. -/
def Fit {H : Type} (P : Program) (t : TypeId) (d : DataW H) : Prop := (∀ m ∈ d.weights P t, m ≤ 140737488351232) ∨ Rows.uptoBulk d ≤ 1048576
def FitEach {H : Type} (P : Program) (ts : List TypeId) (l : List (DataW H)) : Prop := (∀ m ∈ DataW.weightsEach P ts l, m ≤ 140737488351232) ∨ Rows.uptoBulkAll l ≤ 1048576
theorem weightsAll_mem {H : Type} {P : Program} {e : TypeId} : ∀ {l : List (DataW H)} {d : DataW H}, d ∈ l → ∀ n ∈ d.weights P e, n ∈ DataW.weightsAll P e l
  | x :: l, d, h, n, hn => by
    simp only [DataW.weightsAll, List.mem_append]
    rcases List.mem_cons.1 h with rfl | h
    · exact Or.inl hn
    · exact Or.inr (weightsAll_mem h n hn)
theorem bulk_one {H : Type} (d : DataW H) : 1 ≤ Rows.uptoBulk d := by
  cases d with
  | lit l => cases l <;> simp [Rows.uptoBulk]
  | nil => simp [Rows.uptoBulk]
  | ptr d => simp [Rows.uptoBulk]
  | slice elems spare => simp [Rows.uptoBulk]
  | agg parts => simp [Rows.uptoBulk]
  | iface t d => simp [Rows.uptoBulk]
  | map entries => simp [Rows.uptoBulk]
  | held h => simp [Rows.uptoBulk]
theorem bulk_len {H : Type} (l : List (DataW H)) : l.length ≤ Rows.uptoBulkAll l := by
  induction l with
  | nil => simp [Rows.uptoBulkAll]
  | cons x r ih => have := bulk_one x; simp only [Rows.uptoBulkAll, List.length_cons]; omega
theorem bulk_mem {H : Type} {d : DataW H} {l : List (DataW H)} (h : d ∈ l) : Rows.uptoBulk d ≤ Rows.uptoBulkAll l := by
  induction l with
  | nil => cases h
  | cons x r ih =>
    simp only [Rows.uptoBulkAll]
    cases List.mem_cons.1 h with
    | inl e => subst e; omega
    | inr e => have := ih e; omega
section
variable {H : Type} {P : Program} {t e : TypeId}
theorem Fit.elem {elems spare : List (DataW H)} {d : DataW H} (h : Fit P t (.slice elems spare)) (ht : P.underlying t = some (.slice e)) (hd : d ∈ elems) : Fit P e d := by
  rcases h with h | h
  · exact .inl fun m hm => h m (by
      simp only [DataW.weights, ht, List.mem_cons, List.mem_append]
      exact .inr (.inl (weightsAll_mem hd m hm)))
  · exact .inr (by have := bulk_mem hd; simp only [Rows.uptoBulk] at h; omega)
theorem Fit.cap {elems spare : List (DataW H)} (h : Fit P t (.slice elems spare)) (ht : P.underlying t = some (.slice e)) (hb : P.bytesOf e ≤ 65536) : (elems.length + spare.length) * P.bytesOf e ≤ 140737488351232 := by
  rcases h with h | h
  · exact h _ (by simp [DataW.weights, ht])
  · have h1 := bulk_len elems
    have h2 := bulk_len spare
    simp only [Rows.uptoBulk] at h
    have h3 : (elems.length + spare.length) * P.bytesOf e ≤ 1048576 * 65536 := Nat.mul_le_mul (by omega) hb
    omega
theorem Fit.str {bytes : List UInt8} (h : Fit (H := H) P t (.lit (.string bytes))) : bytes.length ≤ 140737488351232 := by
  rcases h with h | h
  · exact h _ (by simp [DataW.weights])
  · simp only [Rows.uptoBulk] at h; omega
theorem Fit.fields {fs : Array Field} {parts : List (DataW H)} (h : Fit P t (.agg parts)) (ht : P.underlying t = some (.struct fs)) : FitEach P (fs.toList.map (·.type)) parts := by
  rcases h with h | h
  · exact .inl fun m hm => h m (by simpa [DataW.weights, ht] using hm)
  · exact .inr (by simp only [Rows.uptoBulk] at h; omega)
theorem FitEach.head {ts : List TypeId} {d : DataW H} {r : List (DataW H)} (h : FitEach P (t :: ts) (d :: r)) : Fit P t d := by
  rcases h with h | h
  · exact .inl fun m hm => h m (by simp only [DataW.weightsEach, List.mem_append]; exact .inl hm)
  · exact .inr (by simp only [Rows.uptoBulkAll] at h; omega)
theorem FitEach.tail {ts : List TypeId} {d : DataW H} {r : List (DataW H)} (h : FitEach P (t :: ts) (d :: r)) : FitEach P ts r := by
  rcases h with h | h
  · exact .inl fun m hm => h m (by simp only [DataW.weightsEach, List.mem_append]; exact .inr hm)
  · exact .inr (by simp only [Rows.uptoBulkAll] at h; omega)
end

/-- Whatever reads at type t is such a thing, and no greater than what was read. -/
def Vw (P : Program) (t : TypeId) {α : Type} (S : Sh α) : Prop :=
  P.cellsOf t = S.k ∧ P.bytesOf t = S.bs ∧ ∀ {H : Type} {enc : TypeId × Value → H} {w : World} {fuel : Nat} {cs : List Value} {x : DataW H × List MemPlace},
    DataW.trod enc P w 0 (fun _ => true) true fuel t cs = some x → Fit P t x.1 → ∃ y, S.E w y cs ∧ S.sz y ≤ Rows.uptoBulk x.1

section
variable {P : Program} {t e : TypeId}
theorem vw_str (ht : P.underlying t = some .string) (hc : P.cellsOf t = 1) (hb : P.bytesOf t = 16) : Vw P t Sh.str :=
  ⟨hc, hb, fun h hw => by
    obtain ⟨s, hs, rfl, _⟩ := DataW.trod_string ht h
    have h1 := hw.str
    exact ⟨s, ⟨hs, by simpa using h1⟩, by simp [Sh.str, Rows.uptoBulk]⟩⟩
end
end Go.Proofs.YtijeieamodjgbaaGreat

/- Signatures, configurations, links: what they are in memory. -/
namespace Go.Proofs.YtijeieamodjgbaaGreat
set_option maxRecDepth 100000
open Go.RowKit
set_option linter.unusedVariables false

/-- A signature: who signed which text. -/
abbrev Sg := Int × ByteArray
abbrev Cf := Int × List Int
abbrev Lk := Cf × List Sg
def shSig : Sh Sg := (Sh.int.pair Sh.long).bytes 24
def shConf : Sh Cf := (Sh.int.pair Sh.int.slice).bytes 32
def shLink : Sh Lk := (shConf.pair shSig.slice).bytes 56
theorem vwStr : Vw Tryz.prog 9 Sh.str := vw_str Tryz.underlying9 (by kernel_rfl) (by kernel_rfl)
/-- A slice of ints, in both words. -/
theorem ints_of_sl {w : World} {a : Option Addr} {n c : Nat} {l : List Int} (h : SlAt Sh.int w a n c l) : IntsAt w a n l := by
  refine ⟨h.len, Nat.le_trans h.cap h.max, fun i hi => ?_, fun x hx => ?_⟩
  · obtain ⟨y, hy⟩ : ∃ y, l[i]? = some y := ⟨_, List.getElem?_eq_getElem (by rw [h.len]; exact hi)⟩
    obtain ⟨b, o, cs, ha, ⟨rfl, _⟩, hc⟩ := h.cell i y hy
    refine ⟨b, o, ha, ?_⟩
    have h1 := hc 0 _ rfl
    have : Sh.int.k = 1 := rfl
    rw [this, Nat.mul_one, Nat.add_zero] at h1
    rw [h1]; simp [List.getD, hy]
  · obtain ⟨i, hi, rfl⟩ := List.getElem_of_mem hx
    obtain ⟨b, o, cs, ha, ⟨_, h2⟩, hc⟩ := h.cell i _ (List.getElem?_eq_getElem hi)
    exact h2
theorem sl_of_ints {w : World} {a : Option Addr} {n c : Nat} {l : List Int} (h : IntsAt w a n l) (hc : n ≤ c) (hm : c ≤ 9223372036854775807) (hb : n * 8 ≤ 140737488355328) (hn : a = none → c = 0) : SlAt Sh.int w a n c l := by
  refine ⟨h.len, hc, hm, hb, hn, fun i y hy => ?_⟩
  have hi : i < n := by rw [← h.len]; exact (List.getElem?_eq_some_iff.1 hy).1
  obtain ⟨b, o, ha, h1⟩ := h.cell i hi
  refine ⟨b, o, _, ha, ⟨rfl, h.fit y (List.mem_of_getElem? hy)⟩, fun j v hv => ?_⟩
  have hj : j = 0 := by
    rcases Nat.eq_zero_or_pos j with h | h
    · exact h
    · rw [List.getElem?_eq_none (by simp; omega)] at hv; cases hv
  subst hj
  have : Sh.int.k = 1 := rfl
  rw [this, Nat.mul_one, Nat.add_zero, h1]
  simp at hv
  rw [← hv]; simp [List.getD, hy]
/-- One signature of a slice: its two cells. -/
theorem sig_cells {w : World} {a : Option Addr} {n c : Nat} {l : List Sg} (h : SlAt shSig w a n c l) {i : Nat} (hi : i < n) :
    ∃ b o x t, a = some ⟨b, o, none⟩ ∧ l[i]? = some (x, t) ∧ w.cell? ⟨b, o + i * 2, none⟩ = some (.int .i64 x) ∧ w.cell? ⟨b, o + i * 2 + 1, none⟩ = some (.string t) ∧ i64 x ∧ t.size ≤ 1125899906842624 := by
  obtain ⟨y, hy⟩ : ∃ y, l[i]? = some y := ⟨_, List.getElem?_eq_getElem (by rw [h.len]; exact hi)⟩
  obtain ⟨b, o, cs, ha, hE, hc⟩ := h.cell i y hy
  obtain ⟨x, t⟩ := y
  obtain ⟨_, _, rfl, ⟨rfl, h1⟩, rfl, h2⟩ := hE
  exact ⟨b, o, x, t, ha, hy, hc 0 _ rfl, hc 1 _ rfl, h1, h2⟩
/-- As the walk compares two strings. -/
theorem str_neq {a b : ByteArray} (h : ¬ a = b) : (a.toList == b.toList) = false := by
  rw [ByteArray.toList_eq, ByteArray.toList_eq]
  cases hc : (a.data.toList == b.data.toList) with
  | false => rfl
  | true => exact absurd (ByteArray.ext (Array.toList_inj.1 (by simpa using hc))) h
theorem link_open {w : World} {y : Lk} {cs : List Value} (h : shLink.E w y cs) : ∃ e l s a n c sa sn sc, y = ((e, l), s) ∧ cs = [.int .i64 e, .slice a n c, .slice sa sn sc] ∧ i64 e ∧ SlAt Sh.int w a n c l ∧ SlAt shSig w sa sn sc s := by
  obtain ⟨⟨e, l⟩, s⟩ := y
  obtain ⟨x1, x2, rfl, ⟨y1, y2, rfl, ⟨rfl, he⟩, a, n, c, rfl, hs⟩, sa, sn, sc, rfl, hss⟩ := h
  exact ⟨e, l, s, a, n, c, sa, sn, sc, rfl, rfl, he, hs, hss⟩
end Go.Proofs.YtijeieamodjgbaaGreat
