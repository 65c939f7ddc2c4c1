
/- Readings of arguments, made up of parts: ints, strings, bools, slices, structs; what each is in plain terms. No program in sight but the size of what is read. -/
import Derived.Test.YtijeieamodjgbabView
import Derived.Deep.Slices
import Derived.Deep.Fields
import Derived.ChangeSame
import Derived.Test.YtijeieamodjgbabQuiet

namespace Go.Proofs.Ytijeieamodjgbab
set_option maxRecDepth 100000
open Go.ChangeShapes Go.WideShapes Go.ChangeAt Go.RowKit Go.Deep

/-- How a plain thing lies in cells. -/
structure Sh (α : Type) where
  k : Nat
  bs : Nat
  E : World → α → List Value → Prop
  sz : α → Nat
  len : ∀ {w y cs}, E w y cs → cs.length = k
  old : ∀ {w w' y cs}, E w y cs → Below w.heap.size w w' → E w' y cs

/-- A slice's parts. -/
structure SlAt {α : Type} (S : Sh α) (w : World) (a : Option Addr) (n c : Nat) (l : List α) : Prop where
  len : l.length = n
  cap : n ≤ c
  max : c ≤ 9223372036854775807
  bytes : n * S.bs ≤ 140737488355328
  nil : a = none → c = 0
  cell : ∀ i y, l[i]? = some y → ∃ b o cs, a = some ⟨b, o, none⟩ ∧ S.E w y cs ∧ ∀ j v, cs[j]? = some v → w.cell? ⟨b, o + i * S.k + j, none⟩ = some v
theorem SlAt.old {α : Type} {S : Sh α} {w w' : World} {a : Option Addr} {n c : Nat} {l : List α} (h : SlAt S w a n c l) (hb : Below w.heap.size w w') : SlAt S w' a n c l :=
  ⟨h.len, h.cap, h.max, h.bytes, h.nil, fun i y hy => by
    obtain ⟨b, o, cs, ha, hE, hc⟩ := h.cell i y hy
    exact ⟨b, o, cs, ha, S.old hE hb, fun j v hv => by rw [hb.cell (World.block_lt (hc j v hv))]; exact hc j v hv⟩⟩

def Sh.int : Sh Int where
  k := 1
  bs := 8
  E := fun _ x cs => cs = [.int .i64 x] ∧ i64 x
  sz := fun _ => 1
  len := fun ⟨h, _⟩ => by rw [h]; rfl
  old := fun h _ => h
def Sh.u64 : Sh Int where
  k := 1
  bs := 8
  E := fun _ x cs => cs = [.int .u64 x] ∧ 0 ≤ x ∧ x ≤ 18446744073709551615
  sz := fun _ => 1
  len := fun ⟨h, _⟩ => by rw [h]; rfl
  old := fun h _ => h
def Sh.bool : Sh Bool where
  k := 1
  bs := 1
  E := fun _ x cs => cs = [.bool x]
  sz := fun _ => 1
  len := fun h => by rw [h]; rfl
  old := fun h _ => h
def Sh.str : Sh ByteArray where
  k := 1
  bs := 16
  E := fun _ x cs => cs = [.string x] ∧ x.size ≤ 140737488351232
  sz := fun x => x.size + 1
  len := fun ⟨h, _⟩ => by rw [h]; rfl
  old := fun h _ => h
/-- A string that may be made of others. -/
def Sh.long : Sh ByteArray where
  k := 1
  bs := 16
  E := fun _ x cs => cs = [.string x] ∧ x.size ≤ 1125899906842624
  sz := fun x => x.size + 1
  len := fun ⟨h, _⟩ => by rw [h]; rfl
  old := fun h _ => h
def Sh.slice {α : Type} (S : Sh α) : Sh (List α) where
  k := 1
  bs := 24
  E := fun w l cs => ∃ a n c, cs = [.slice a n c] ∧ SlAt S w a n c l
  sz := fun l => (l.map S.sz).sum + 1
  len := fun ⟨_, _, _, h, _⟩ => by rw [h]; rfl
  old := fun ⟨a, n, c, h, hs⟩ hb => ⟨a, n, c, h, hs.old hb⟩
/-- The cells of one, then those of the other. -/
def Sh.pair {α β : Type} (A : Sh α) (B : Sh β) : Sh (α × β) where
  k := A.k + B.k
  bs := A.bs + B.bs
  E := fun w y cs => ∃ c0 c1, cs = c0 ++ c1 ∧ A.E w y.1 c0 ∧ B.E w y.2 c1
  sz := fun y => A.sz y.1 + B.sz y.2
  len := fun ⟨c0, c1, h, h0, h1⟩ => by rw [h, List.length_append, A.len h0, B.len h1]
  old := fun ⟨c0, c1, h, h0, h1⟩ hb => ⟨c0, c1, h, A.old h0 hb, B.old h1 hb⟩
def Sh.bytes {α : Type} (S : Sh α) (n : Nat) : Sh α := { S with bs := n }

/-- What is asked of a reading: each weight is within reach, or all of it is of small bulk. -/
def Fit {H : Type} (P : Program) (t : TypeId) (d : DataW H) : Prop := (∀ m ∈ d.weights P t, m ≤ 140737488351232) ∨ Rows.uptoBulk d ≤ 1048576
def FitEach {H : Type} (P : Program) (ts : List TypeId) (l : List (DataW H)) : Prop := (∀ m ∈ DataW.weightsEach P ts l, m ≤ 140737488351232) ∨ Rows.uptoBulkAll l ≤ 1048576
theorem weightsAll_mem {H : Type} {P : Program} {e : TypeId} : ∀ {l : List (DataW H)} {d : DataW H}, d ∈ l → ∀ n ∈ d.weights P e, n ∈ DataW.weightsAll P e l
  | x :: l, d, h, n, hn => by
    simp only [DataW.weightsAll, List.mem_append]
    rcases List.mem_cons.1 h with rfl | h
    · exact Or.inl hn
    · exact Or.inr (weightsAll_mem h n hn)
theorem bulk_one {H : Type} (d : DataW H) : 1 ≤ Rows.uptoBulk d := by
  cases d with
  | lit l => cases l <;> simp [Rows.uptoBulk]
  | nil => simp [Rows.uptoBulk]
  | ptr d => simp [Rows.uptoBulk]
  | slice elems spare => simp [Rows.uptoBulk]
  | agg parts => simp [Rows.uptoBulk]
  | iface t d => simp [Rows.uptoBulk]
  | map entries => simp [Rows.uptoBulk]
  | held h => simp [Rows.uptoBulk]
theorem bulk_len {H : Type} (l : List (DataW H)) : l.length ≤ Rows.uptoBulkAll l := by
  induction l with
  | nil => simp [Rows.uptoBulkAll]
  | cons x r ih => have := bulk_one x; simp only [Rows.uptoBulkAll, List.length_cons]; omega
theorem bulk_mem {H : Type} {d : DataW H} {l : List (DataW H)} (h : d ∈ l) : Rows.uptoBulk d ≤ Rows.uptoBulkAll l := by
  induction l with
  | nil => cases h
  | cons x r ih =>
    simp only [Rows.uptoBulkAll]
    cases List.mem_cons.1 h with
    | inl e => subst e; omega
    | inr e => have := ih e; omega
section
variable {H : Type} {P : Program} {t e : TypeId}
theorem Fit.elem {elems spare : List (DataW H)} {d : DataW H} (h : Fit P t (.slice elems spare)) (ht : P.underlying t = some (.slice e)) (hd : d ∈ elems) : Fit P e d := by
  rcases h with h | h
  · exact .inl fun m hm => h m (by
      simp only [DataW.weights, ht, List.mem_cons, List.mem_append]
      exact .inr (.inl (weightsAll_mem hd m hm)))
  · exact .inr (by have := bulk_mem hd; simp only [Rows.uptoBulk] at h; omega)
theorem Fit.cap {elems spare : List (DataW H)} (h : Fit P t (.slice elems spare)) (ht : P.underlying t = some (.slice e)) (hb : P.bytesOf e ≤ 65536) : (elems.length + spare.length) * P.bytesOf e ≤ 140737488351232 := by
  rcases h with h | h
  · exact h _ (by simp [DataW.weights, ht])
  · have h1 := bulk_len elems
    have h2 := bulk_len spare
    simp only [Rows.uptoBulk] at h
    have h3 : (elems.length + spare.length) * P.bytesOf e ≤ 1048576 * 65536 := Nat.mul_le_mul (by omega) hb
    omega
theorem Fit.str {bytes : List UInt8} (h : Fit (H := H) P t (.lit (.string bytes))) : bytes.length ≤ 140737488351232 := by
  rcases h with h | h
  · exact h _ (by simp [DataW.weights])
  · simp only [Rows.uptoBulk] at h; omega
theorem Fit.fields {fs : Array Field} {parts : List (DataW H)} (h : Fit P t (.agg parts)) (ht : P.underlying t = some (.struct fs)) : FitEach P (fs.toList.map (·.type)) parts := by
  rcases h with h | h
  · exact .inl fun m hm => h m (by simpa [DataW.weights, ht] using hm)
  · exact .inr (by simp only [Rows.uptoBulk] at h; omega)
theorem FitEach.head {ts : List TypeId} {d : DataW H} {r : List (DataW H)} (h : FitEach P (t :: ts) (d :: r)) : Fit P t d := by
  rcases h with h | h
  · exact .inl fun m hm => h m (by simp only [DataW.weightsEach, List.mem_append]; exact .inl hm)
  · exact .inr (by simp only [Rows.uptoBulkAll] at h; omega)
theorem FitEach.tail {ts : List TypeId} {d : DataW H} {r : List (DataW H)} (h : FitEach P (t :: ts) (d :: r)) : FitEach P ts r := by
  rcases h with h | h
  · exact .inl fun m hm => h m (by simp only [DataW.weightsEach, List.mem_append]; exact .inr hm)
  · exact .inr (by simp only [Rows.uptoBulkAll] at h; omega)
end

/-- Whatever reads at type t is such a thing, and no greater than what was read. -/
def Vw (P : Program) (t : TypeId) {α : Type} (S : Sh α) : Prop :=
  P.cellsOf t = S.k ∧ P.bytesOf t = S.bs ∧ ∀ {H : Type} {enc : TypeId × Value → H} {w : World} {fuel : Nat} {cs : List Value} {x : DataW H × List MemPlace},
    DataW.trod enc P w 0 (fun _ => true) true fuel t cs = some x → Fit P t x.1 → ∃ y, S.E w y cs ∧ S.sz y ≤ Rows.uptoBulk x.1

section
variable {P : Program} {t e : TypeId}
theorem vw_int (ht : P.underlying t = some (.int .i64)) (hc : P.cellsOf t = 1) (hb : P.bytesOf t = 8) : Vw P t Sh.int :=
  ⟨hc, hb, fun h _ => by
    obtain ⟨n, hcs, rfl, hw⟩ := DataW.trod_int ht h
    exact ⟨n, ⟨hcs, wf_i64 hw⟩, Nat.le_refl _⟩⟩
theorem vw_u64 (ht : P.underlying t = some (.int .u64)) (hc : P.cellsOf t = 1) (hb : P.bytesOf t = 8) : Vw P t Sh.u64 :=
  ⟨hc, hb, fun h _ => by
    obtain ⟨n, hcs, rfl, hw⟩ := DataW.trod_int ht h
    exact ⟨n, ⟨hcs, wf_u64 hw⟩, Nat.le_refl _⟩⟩
theorem vw_str (ht : P.underlying t = some .string) (hc : P.cellsOf t = 1) (hb : P.bytesOf t = 16) : Vw P t Sh.str :=
  ⟨hc, hb, fun h hw => by
    obtain ⟨s, hs, rfl, _⟩ := DataW.trod_string ht h
    have h1 := hw.str
    exact ⟨s, ⟨hs, by simpa using h1⟩, by simp [Sh.str, Rows.uptoBulk]⟩⟩
theorem vw_long (ht : P.underlying t = some .string) (hc : P.cellsOf t = 1) (hb : P.bytesOf t = 16) : Vw P t Sh.long :=
  ⟨hc, hb, fun h hw => by
    obtain ⟨s, hs, rfl, _⟩ := DataW.trod_string ht h
    have h1 := hw.str
    exact ⟨s, ⟨hs, Nat.le_trans (by simpa using h1) (by decide)⟩, by simp [Sh.long, Rows.uptoBulk]⟩⟩

theorem bulkAll_map {H : Type} : ∀ (D : Nat → DataW H) (n k : Nat), (∀ i, i < n → 0 ≤ k) → Rows.uptoBulkAll ((List.range' k n).map D) = ((List.range' k n).map fun i => Rows.uptoBulk (D i)).sum
  | D, 0, k, _ => rfl
  | D, n + 1, k, h => by
    rw [List.range'_succ, List.map_cons, List.map_cons, Rows.uptoBulkAll, List.sum_cons, bulkAll_map D n (k + 1) (fun _ _ => Nat.zero_le _)]
/-- A choice for each index. -/
theorem choose_list {α : Type} (R : Nat → α → Prop) : ∀ (n : Nat), (∀ i, i < n → ∃ y, R i y) → ∃ l : List α, l.length = n ∧ ∀ i y, l[i]? = some y → R i y
  | 0, _ => ⟨[], rfl, fun i y h => by cases h⟩
  | n + 1, h => by
    obtain ⟨l, hl, hR⟩ := choose_list R n (fun i hi => h i (by omega))
    obtain ⟨y, hy⟩ := h n (by omega)
    refine ⟨l ++ [y], by simp [hl], fun i z hz => ?_⟩
    rcases Nat.lt_or_ge i n with hi | hi
    · rw [List.getElem?_append_left (by omega)] at hz; exact hR i z hz
    · rw [List.getElem?_append_right (by omega), hl] at hz
      have : i - n = 0 := by
        rcases Nat.eq_zero_or_pos (i - n) with h0 | h0
        · exact h0
        · rw [List.getElem?_eq_none (by simp; omega)] at hz; cases hz
      rw [this] at hz
      obtain rfl : i = n := by omega
      simp at hz; subst hz; exact hy
theorem sum_le_sum {α : Type} (f : α → Nat) (g : Nat → Nat) : ∀ (l : List α) (k : Nat), (∀ i y, l[i]? = some y → f y ≤ g (k + i)) → (l.map f).sum ≤ ((List.range' k l.length).map g).sum
  | [], _, _ => by simp
  | y :: l, k, h => by
    rw [List.length_cons, List.range'_succ, List.map_cons, List.map_cons, List.sum_cons, List.sum_cons]
    have h1 := h 0 y rfl
    have h2 := sum_le_sum f g l (k + 1) (fun i z hz => by have := h (i + 1) z (by simpa using hz); rw [show k + 1 + i = k + (i + 1) by omega]; exact this)
    simp at h1
    omega

theorem vw_slice {α : Type} {S : Sh α} (ht : P.underlying t = some (.slice e)) (hc : P.cellsOf t = 1) (hb : P.bytesOf t = 24) (V : Vw P e S) (hk : 0 < S.k) (hbs : S.bs ≤ 65536) : Vw P t S.slice :=
  ⟨hc, hb, fun {H enc w fuel cs x} h hw => by
    rcases open_slice ht h with ⟨rfl, rfl⟩ | ⟨a, n, c0, c, k, D, Pl, rfl, _, hnc, hcm, hm, rfl, hi⟩
    · exact ⟨[], ⟨none, 0, 0, rfl, rfl, Nat.le_refl _, by omega, by omega, fun _ => rfl, fun i y hy => by cases hy⟩, by simp [Sh.slice, Rows.uptoBulk]⟩
    · simp at hm
      subst hm
      have hcb : c * S.bs ≤ 140737488351232 := by
        have := hw.cap ht (by rw [V.2.1]; exact hbs)
        rw [V.2.1, List.length_map, List.length_map, List.length_range, List.length_range] at this
        rw [show n + (c - n) = c by omega] at this
        exact this
      have hE : ∀ i, i < n → ∃ y, (∃ cs', w.cells? 0 (a.add (i * P.cellsOf e)) (P.cellsOf e) = some cs' ∧ S.E w y cs') ∧ S.sz y ≤ Rows.uptoBulk (D i) := fun i hin => by
        obtain ⟨cs', hcs, htr⟩ := hi i (by omega)
        obtain ⟨y, hy, hs⟩ := V.2.2 htr (hw.elem ht (List.mem_map.2 ⟨i, List.mem_range.2 hin, rfl⟩))
        exact ⟨y, ⟨cs', hcs, hy⟩, hs⟩
      obtain ⟨l, hl, hR⟩ := choose_list _ n hE
      have hnn : n * S.bs ≤ c * S.bs := Nat.mul_le_mul_right _ hnc
      have hmax : maxLen = 9223372036854775807 := rfl
      refine ⟨l, ⟨some a, n, c, rfl, hl, hnc, by omega, by omega, fun hn => (by cases hn), fun i y hy => ?_⟩, ?_⟩
      · obtain ⟨⟨cs', hcs, hEy⟩, _⟩ := hR i y hy
        obtain ⟨_, hlen, hat⟩ := World.cells?_some hcs
        have hk0 := S.len hEy
        obtain ⟨y0, hy0⟩ : ∃ y0, l[0]? = some y0 := ⟨_, List.getElem?_eq_getElem (by have := (List.getElem?_eq_some_iff.1 hy).1; omega)⟩
        obtain ⟨⟨cs0, hcs0, hE0⟩, _⟩ := hR 0 y0 hy0
        obtain ⟨_, hlen0, hat0⟩ := World.cells?_some hcs0
        have hk1 := S.len hE0
        have hc0 := hat0 0 (by rw [V.1]; omega)
        obtain ⟨v0, hv0⟩ : ∃ v0, cs0[0]? = some v0 := ⟨_, List.getElem?_eq_getElem (by omega)⟩
        rw [hv0, add_add] at hc0
        obtain ⟨b, o, spot⟩ := a
        have hspot : spot = none := by simpa [Addr.add] using World.cell?_spot hc0
        subst hspot
        refine ⟨b, o, cs', rfl, hEy, fun j v hv => ?_⟩
        have hj : j < cs'.length := (List.getElem?_eq_some_iff.1 hv).1
        have := hat j (by omega)
        rw [hv, add_add, Addr.add_lit, V.1] at this
        rw [show o + i * S.k + j = o + (i * S.k + j) by omega]; exact this
      · have h1 := sum_le_sum S.sz (fun i => Rows.uptoBulk (D i)) l 0 (fun i y hy => by simpa using (hR i y hy).2)
        have h2 : Rows.uptoBulkAll ((List.range n).map D) = ((List.range' 0 l.length).map fun i => Rows.uptoBulk (D i)).sum := by
          rw [hl, List.range_eq_range', bulkAll_map D n 0 (fun _ _ => Nat.zero_le _)]
        simp only [Sh.slice, Rows.uptoBulk, h2]
        omega⟩

/-- The fields from 'off' on. -/
def FsV (P : Program) (off : Nat) (fs : List Field) {α : Type} (S : Sh α) : Prop :=
  ∀ {H : Type} {enc : TypeId × Value → H} {w : World} {n : Nat} {cs : List Value} {xs : List (DataW H × List MemPlace)}, xs.length = fs.length →
    (∀ (i : Nat) (f : Field), fs[i]? = some f → DataW.trod enc P w 0 (fun _ => true) true n f.type ((cs.drop f.offset).take (P.cellsOf f.type)) = xs[i]?) →
    FitEach P (fs.map (·.type)) (xs.map (·.1)) → cs.length = off + S.k → ∃ y, S.E w y (cs.drop off) ∧ S.sz y ≤ Rows.uptoBulkAll (xs.map (·.1))
theorem fsv_one {f : Field} {α : Type} {S : Sh α} (V : Vw P f.type S) : FsV P f.offset [f] S := fun {H enc w n cs xs} hl hf hw hlen => by
  match xs, hl with
  | [x], _ =>
    have h := hf 0 f rfl
    rw [V.1, List.take_of_length_le (by simp; omega)] at h
    obtain ⟨y, hy, hs⟩ := V.2.2 (x := x) h hw.head
    exact ⟨y, hy, by simp only [List.map_cons, List.map_nil, Rows.uptoBulkAll]; omega⟩
theorem fsv_cons {f : Field} {fs : List Field} {off : Nat} {α β : Type} {A : Sh α} {B : Sh β} (V : Vw P f.type A) (F : FsV P off fs B) (ho : off = f.offset + A.k) : FsV P f.offset (f :: fs) (A.pair B) := fun {H enc w n cs xs} hl hf hw hlen => by
  match xs, hl with
  | x :: xs, hl =>
    subst ho
    have hk : (A.pair B).k = A.k + B.k := rfl
    rw [hk] at hlen
    have h := hf 0 f rfl
    rw [V.1] at h
    obtain ⟨y, hy, hs⟩ := V.2.2 (x := x) h hw.head
    obtain ⟨z, hz, ht⟩ := F (cs := cs) (xs := xs) (by simpa using hl) (fun i g hg => by simpa using hf (i + 1) g (by simpa using hg)) hw.tail (by omega)
    refine ⟨(y, z), ⟨_, _, ?_, hy, hz⟩, ?_⟩
    · rw [show cs.drop (f.offset + A.k) = (cs.drop f.offset).drop A.k by rw [List.drop_drop]]
      exact (List.take_append_drop _ _).symm
    · simp only [List.map_cons, Rows.uptoBulkAll, Sh.pair]; omega
theorem vw_struct {fs : Array Field} {α : Type} {S : Sh α} {b : Nat} (ht : P.underlying t = some (.struct fs)) (F : FsV P 0 fs.toList S) (hc : P.cellsOf t = S.k) (hb : P.bytesOf t = b) : Vw P t (S.bytes b) :=
  ⟨hc, hb, fun {H enc w fuel cs x} h hw => by
    obtain ⟨xs, n, rfl, rfl, hl, hxl, hf⟩ := DataW.trod_struct ht h
    obtain ⟨y, hy, hs⟩ := F (cs := cs) (xs := xs) (by simpa using hxl) (fun i f hif => hf i f (by simpa using hif)) (hw.fields ht) (by omega)
    exact ⟨y, (show S.E w y cs by simpa using hy), by show S.sz y ≤ _; simp only [Rows.uptoBulk]; omega⟩⟩
end
end Go.Proofs.Ytijeieamodjgbab

/- Signatures, configurations, links: what they are in memory. -/
namespace Go.Proofs.Ytijeieamodjgbab
set_option maxRecDepth 100000
open Go.RowKit
set_option linter.unusedVariables false

/-- A signature: who signed which text. -/
abbrev Sg := Int × ByteArray
abbrev Cf := Int × List Int
abbrev Lk := Cf × List Sg
def shSig : Sh Sg := (Sh.int.pair Sh.long).bytes 24
def shConf : Sh Cf := (Sh.int.pair Sh.int.slice).bytes 32
def shLink : Sh Lk := (shConf.pair shSig.slice).bytes 56
theorem vwInt : Vw Try.prog 3 Sh.int := vw_int Try.underlying3 (by kernel_rfl) (by kernel_rfl)
theorem vwStr : Vw Try.prog 9 Sh.str := vw_str Try.underlying9 (by kernel_rfl) (by kernel_rfl)
theorem vwLong : Vw Try.prog 9 Sh.long := vw_long Try.underlying9 (by kernel_rfl) (by kernel_rfl)
theorem vwInts : Vw Try.prog 22 Sh.int.slice := vw_slice Try.underlying22 (by kernel_rfl) (by kernel_rfl) vwInt (by decide) (by decide)
theorem vwSig : Vw Try.prog 108 shSig := vw_struct Try.underlying108 (fsv_cons vwInt (fsv_one vwLong) rfl) (by kernel_rfl) (by kernel_rfl)
theorem vwSigs : Vw Try.prog 46 shSig.slice := vw_slice Try.underlying46 (by kernel_rfl) (by kernel_rfl) vwSig (by decide) (by decide)
theorem vwConf : Vw Try.prog 24 shConf := vw_struct Try.underlying24 (fsv_cons vwInt (fsv_one vwInts) rfl) (by kernel_rfl) (by kernel_rfl)
theorem vwLink : Vw Try.prog 61 shLink := vw_struct Try.underlying61 (fsv_cons vwConf (fsv_one vwSigs) rfl) (by kernel_rfl) (by kernel_rfl)
theorem vwLinks : Vw Try.prog 48 shLink.slice := vw_slice Try.underlying48 (by kernel_rfl) (by kernel_rfl) vwLink (by decide) (by decide)

/-- A slice of ints, in both words. -/
theorem ints_of_sl {w : World} {a : Option Addr} {n c : Nat} {l : List Int} (h : SlAt Sh.int w a n c l) : IntsAt w a n l := by
  refine ⟨h.len, Nat.le_trans h.cap h.max, fun i hi => ?_, fun x hx => ?_⟩
  · obtain ⟨y, hy⟩ : ∃ y, l[i]? = some y := ⟨_, List.getElem?_eq_getElem (by rw [h.len]; exact hi)⟩
    obtain ⟨b, o, cs, ha, ⟨rfl, _⟩, hc⟩ := h.cell i y hy
    refine ⟨b, o, ha, ?_⟩
    have h1 := hc 0 _ rfl
    have : Sh.int.k = 1 := rfl
    rw [this, Nat.mul_one, Nat.add_zero] at h1
    rw [h1]; simp [List.getD, hy]
  · obtain ⟨i, hi, rfl⟩ := List.getElem_of_mem hx
    obtain ⟨b, o, cs, ha, ⟨_, h2⟩, hc⟩ := h.cell i _ (List.getElem?_eq_getElem hi)
    exact h2
theorem sl_of_ints {w : World} {a : Option Addr} {n c : Nat} {l : List Int} (h : IntsAt w a n l) (hc : n ≤ c) (hm : c ≤ 9223372036854775807) (hb : n * 8 ≤ 140737488355328) (hn : a = none → c = 0) : SlAt Sh.int w a n c l := by
  refine ⟨h.len, hc, hm, hb, hn, fun i y hy => ?_⟩
  have hi : i < n := by rw [← h.len]; exact (List.getElem?_eq_some_iff.1 hy).1
  obtain ⟨b, o, ha, h1⟩ := h.cell i hi
  refine ⟨b, o, _, ha, ⟨rfl, h.fit y (List.mem_of_getElem? hy)⟩, fun j v hv => ?_⟩
  have hj : j = 0 := by
    rcases Nat.eq_zero_or_pos j with h | h
    · exact h
    · rw [List.getElem?_eq_none (by simp; omega)] at hv; cases hv
  subst hj
  have : Sh.int.k = 1 := rfl
  rw [this, Nat.mul_one, Nat.add_zero, h1]
  simp at hv
  rw [← hv]; simp [List.getD, hy]
/-- One signature of a slice: its two cells. -/
theorem sig_cells {w : World} {a : Option Addr} {n c : Nat} {l : List Sg} (h : SlAt shSig w a n c l) {i : Nat} (hi : i < n) :
    ∃ b o x t, a = some ⟨b, o, none⟩ ∧ l[i]? = some (x, t) ∧ w.cell? ⟨b, o + i * 2, none⟩ = some (.int .i64 x) ∧ w.cell? ⟨b, o + i * 2 + 1, none⟩ = some (.string t) ∧ i64 x ∧ t.size ≤ 1125899906842624 := by
  obtain ⟨y, hy⟩ : ∃ y, l[i]? = some y := ⟨_, List.getElem?_eq_getElem (by rw [h.len]; exact hi)⟩
  obtain ⟨b, o, cs, ha, hE, hc⟩ := h.cell i y hy
  obtain ⟨x, t⟩ := y
  obtain ⟨_, _, rfl, ⟨rfl, h1⟩, rfl, h2⟩ := hE
  exact ⟨b, o, x, t, ha, hy, hc 0 _ rfl, hc 1 _ rfl, h1, h2⟩
/-- As the walk compares two strings. -/
theorem str_neq {a b : ByteArray} (h : ¬ a = b) : (a.toList == b.toList) = false := by
  rw [ByteArray.toList_eq, ByteArray.toList_eq]
  cases hc : (a.data.toList == b.data.toList) with
  | false => rfl
  | true => exact absurd (ByteArray.ext (Array.toList_inj.1 (by simpa using hc))) h
theorem conf_open {w : World} {y : Cf} {cs : List Value} (h : shConf.E w y cs) : ∃ e l a n c, y = (e, l) ∧ cs = [.int .i64 e, .slice a n c] ∧ i64 e ∧ SlAt Sh.int w a n c l := by
  obtain ⟨e, l⟩ := y
  obtain ⟨x1, x2, rfl, ⟨rfl, he⟩, a, n, c, rfl, hs⟩ := h
  exact ⟨e, l, a, n, c, rfl, rfl, he, hs⟩
theorem link_open {w : World} {y : Lk} {cs : List Value} (h : shLink.E w y cs) : ∃ e l s a n c sa sn sc, y = ((e, l), s) ∧ cs = [.int .i64 e, .slice a n c, .slice sa sn sc] ∧ i64 e ∧ SlAt Sh.int w a n c l ∧ SlAt shSig w sa sn sc s := by
  obtain ⟨⟨e, l⟩, s⟩ := y
  obtain ⟨x1, x2, rfl, ⟨y1, y2, rfl, ⟨rfl, he⟩, a, n, c, rfl, hs⟩, sa, sn, sc, rfl, hss⟩ := h
  exact ⟨e, l, s, a, n, c, sa, sn, sc, rfl, rfl, he, hs, hss⟩
end Go.Proofs.Ytijeieamodjgbab
