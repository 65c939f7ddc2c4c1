
/- Walk of Scan. -/
import Derived.Test.YtijeieamodjgbaaGreatVal
import Derived.Test.YtijeieamodjgbaaGreatQuiet
import Derived.Deep.AppendLies
import Derived.Deep.RegionLaw

namespace Go.Proofs.YtijeieamodjgbaaGreat
set_option maxRecDepth 100000
open Go.RowKit
set_option linter.unusedVariables false

theorem info_val : (Tryz.prog.info? 182).map (fun i => (i.zero, i.size, i.bytes)) = some (some (.agg #[.int .i64 0, .int .u64 0, .string ⟨#[]⟩]), 3, 32) := by kernel_rfl

def vsV (l : List V) : List Value := l.flatMap fun v => [.int .i64 v.n, .int .u64 v.b, .string ⟨v.t.toArray⟩]
def lettersB (l : List UInt8) : Bool := l.all fun b => letterB b.toNat
def scV : List UInt8 → R → List V
  | [], _ => []
  | c :: r, s => vVal s c.toNat :: scV r (vNext s c.toNat)
def scN : List UInt8 → R → R
  | [], s => s
  | c :: r, s => scN r (vNext s c.toNat)
def scE (shape text : List UInt8) : Int := if lettersB shape = true then endE (scN shape ⟨text, false⟩) else 1
def scL (shape text : List UInt8) : List V := if scE shape text = 0 then scV shape ⟨text, false⟩ else []
/-- What Scan answers. -/
def ScanPost (w : World) (shape text : List UInt8) (e : Ending) (w' : World) : Prop :=
  ∃ v, e = .returned (.tuple #[v, .int .i64 (scE shape text)]) ∧ w'.ownsRow w.heap.size 182 3 v (scL shape text).length (vsV (scL shape text)) ∧ Below w.heap.size w w'
theorem scanPost_nil {w w' : World} {shape text : List UInt8} {k : Int} (hk : scE shape text = k) (h0 : ¬ k = 0) (hb : Below w.heap.size w w') : ScanPost w shape text (.returned (.tuple #[.slice none 0 0, .int .i64 k])) w' := by
  refine ⟨_, by rw [hk], ?_, hb⟩
  rw [scL, hk, if_neg h0]
  exact World.ownsRow_nil _ _ _ _

/-- What lies where when the letters are looked at. -/
structure SAt (shape : ByteArray) (w0 w2 : World) : Prop where
  below : Below w0.heap.size w0 w2
  out : w2.heap[w0.heap.size]? = some (.cells #[.slice none 0 0] 178 (0, 0))
  err : w2.heap[w0.heap.size + 1]? = some (.cells #[.int .i64 0] 36 (0, 0))
  size : w2.heap.size = w0.heap.size + 3
  bytes : ∀ j b, shape.data.toList[j]? = some b → w2.cell? ⟨w0.heap.size + 2, j, none⟩ = some (.int .u8 (b.toNat : Int))
theorem sAt_start (shape : ByteArray) (w : World) (cap : Nat) (t : TypeId) (fr : Nat × Nat) : SAt shape w (World.drew ((((w.alloc (.cells #[.slice none 0 0] 178)).alloc (.cells #[.int .i64 0] 36)).alloc (.cells (bytesRow shape cap) t fr)))) := by
  have hb1 := below_alloc w (.cells #[.slice none 0 0] 178)
  have hb2 := balloc hb1 (.cells #[.int .i64 0] 36)
  have hb3 := balloc hb2 (.cells (bytesRow shape cap) t fr)
  have o1 := blk_alloc w (.cells #[.slice none 0 0] 178)
  have o2 := blk_below o1 (below_alloc _ (.cells #[.int .i64 0] 36))
  have o3 := blk_below o2 (below_alloc _ (.cells (bytesRow shape cap) t fr))
  have e2 := blk_alloc (w.alloc (.cells #[.slice none 0 0] 178)) (.cells #[.int .i64 0] 36)
  have e3 := blk_below e2 (below_alloc _ (.cells (bytesRow shape cap) t fr))
  refine ⟨below_drewN hb3 1, o3, ?_, by simp, fun j b hj => ?_⟩
  · rw [← show (w.alloc (.cells #[.slice none 0 0] 178)).heap.size = w.heap.size + 1 by simp]; exact e3
  · have := bytes_row_cell ((w.alloc (.cells #[.slice none 0 0] 178)).alloc (.cells #[.int .i64 0] 36)) shape cap t fr (w.heap.size + 2) (by simp) j b hj
    exact this

theorem letters_snoc {l : List UInt8} {j : Nat} {b : UInt8} (h : lettersB (l.take j) = true) (hb : l[j]? = some b) (h2 : letterB b.toNat = true) : lettersB (l.take (j + 1)) = true := by
  rw [List.take_add_one, hb, lettersB, List.all_append]
  rw [lettersB] at h
  simp [h, h2]
theorem letters_bad {l : List UInt8} {j : Nat} {b : UInt8} (hb : l[j]? = some b) (h2 : ¬ letterB b.toNat = true) : lettersB l = false := by
  rw [lettersB, List.all_eq_false]
  exact ⟨b, List.mem_of_getElem? hb, h2⟩

theorem two_set {w : World} {h0 h1 : Nat} {u1 u2 v1 v2 : Value} {t1 t2 : TypeId} (a : w.heap[h0]? = some (.cells #[u1] t1 (0, 0))) (b : w.heap[h1]? = some (.cells #[u2] t2 (0, 0))) (hne : ¬ h0 = h1) :
    ((w.setCell ⟨h0, 0, none⟩ v1).setCell ⟨h1, 0, none⟩ v2).cell? ⟨h0, 0, none⟩ = some v1 ∧ ((w.setCell ⟨h0, 0, none⟩ v1).setCell ⟨h1, 0, none⟩ v2).cell? ⟨h1, 0, none⟩ = some v2 := by
  have a1 := blk_set a 0 v1
  have b1 := blk_set_other b h0 0 v1 (by omega)
  have a2 := blk_set_other a1 h1 0 v2 hne
  have b2 := blk_set b1 0 v2
  exact ⟨by rw [blk_cell a2]; rfl, by rw [blk_cell b2]; rfl⟩
theorem scV_snoc : ∀ (l : List UInt8) (c : UInt8) (s : R), scV (l ++ [c]) s = scV l s ++ [vVal (scN l s) c.toNat]
  | [], c, s => rfl
  | d :: r, c, s => by rw [List.cons_append, scV, scV_snoc r c]; rfl
theorem scN_snoc : ∀ (l : List UInt8) (c : UInt8) (s : R), scN (l ++ [c]) s = vNext (scN l s) c.toNat
  | [], c, s => rfl
  | d :: r, c, s => by rw [List.cons_append, scN, scN_snoc r c]; rfl
theorem scV_len : ∀ (l : List UInt8) (s : R), (scV l s).length = l.length
  | [], s => rfl
  | d :: r, s => by rw [scV, List.length_cons, scV_len r, List.length_cons]
theorem scN_append : ∀ (l r : List UInt8) (s : R), scN (l ++ r) s = scN r (scN l s)
  | [], r, s => rfl
  | d :: l, r, s => by rw [List.cons_append, scN, scN_append l r]; rfl
theorem vNext_bad {s : R} (h : s.bad = true) (x : Int) : (vNext s x).bad = true := by
  have hr : ∀ k, (rNext s k).bad = true := fun k => by rw [rNext_bad (.inl h)]
  unfold vNext
  split
  · exact hr 1
  split
  · exact hr 2
  split
  · exact hr 4
  split
  · exact hr 8
  split
  · rw [tNext_bad (.inl (hr 2))]
  · exact h
theorem scN_bad : ∀ (l : List UInt8) (s : R), s.bad = true → (scN l s).bad = true
  | [], s, h => h
  | d :: r, s, h => scN_bad r _ (vNext_bad h _)
theorem value_any (c : Nat) (hc : letterB c = true) (p : Nat) (text : ByteArray) (s : R) (w : World) (h : PRd w p text s) :
    Calls Tryz.prog 149 #[.pointer (some ⟨p, 0, none⟩), .int .u8 c] w (VPost w p text s c) := by
  have : c = 98 ∨ c = 119 ∨ c = 108 ∨ c = 113 ∨ c = 116 := by simp [letterB] at hc; omega
  rcases this with rfl | rfl | rfl | rfl | rfl
  · exact value_b p text s w h
  · exact value_w p text s w h
  · exact value_l p text s w h
  · exact value_q p text s w h
  · exact value_t p text s w h

/-- What lies where while values are read: the result's cell (h0), the error's (h0 + 1), the reader (p), the shape's bytes (q), the values' row. -/
structure SBox (shape text : ByteArray) (w0 : World) (p q : Nat) (wr : World) (s : R) (v : Value) (vs : List V) : Prop where
  below : Below w0.heap.size w0 wr
  hp : w0.heap.size + 1 < p
  pq : p < q
  lq : q < wr.heap.size
  out : wr.heap[w0.heap.size]? = some (.cells #[v] 178 (0, 0))
  err : wr.heap[w0.heap.size + 1]? = some (.cells #[.int .i64 0] 36 (0, 0))
  rd : PRd wr p text s
  bytes : ∀ j b, shape.data.toList[j]? = some b → wr.cell? ⟨q, j, none⟩ = some (.int .u8 (b.toNat : Int))
  own : wr.ownsRow (q + 1) 182 3 v vs.length (vsV vs)

theorem owns_slice3 {w : World} {B e k n : Nat} {v : Value} {xs : List Value} (h : w.ownsRow B e k v n xs) : ∃ a c, v = .slice a n c := by
  rcases h.2 with ⟨rfl, rfl⟩ | ⟨g, cap, cur, rfl, _⟩
  · exact ⟨_, _, rfl⟩
  · exact ⟨_, _, rfl⟩
theorem vsV_len1 (v : V) : (vsV [v]).length = 1 * 3 := rfl
theorem vsV_one (l : List V) : ∀ u ∈ vsV l, u.oneCell' = true := by
  intro u hu
  rw [vsV, List.mem_flatMap] at hu
  obtain ⟨v, _, hu⟩ := hu
  simp at hu
  rcases hu with rfl | rfl | rfl <;> rfl
theorem owns_below3 {w w' : World} {B e n k : Nat} {v : Value} {xs : List Value} (h : w.ownsRow B e k v n xs) (hb : Below w.heap.size w w') : w'.ownsRow B e k v n xs := by
  refine h.kept (row := none) ⟨hb.os, hb.tape, hb.output, hb.size, fun k hk _ => hb.block k hk⟩ ?_
  cases v.ownBlock with
  | none => exact .inl rfl
  | some k => exact .inr (by simp)
theorem cells_new3 (w : World) (v : V) (t : TypeId) : ∀ j u, (vsV [v])[j]? = some u → (w.alloc (.cells #[.int .i64 v.n, .int .u64 v.b, .string ⟨v.t.toArray⟩] t)).cell? ((⟨w.heap.size, 0, none⟩ : Addr).add j) = some u := by
  intro j u h
  rw [Addr.add_lit, blk_cell (blk_alloc w _), ← h]
  simp [vsV]
section
variable {shape text : ByteArray} {w0 wr w6 w8 : World} {p q : Nat} {s s' : R} {v v' : Value} {vs : List V}
theorem SBox.out6 (h : SBox shape text w0 p q wr s v vs) (ho : Only p none wr.drew w6) : w6.heap[w0.heap.size]? = some (.cells #[v] 178 (0, 0)) := by
  have := h.hp; have := blk_lt h.out
  rw [ho.block _ (blk_lt h.out) (by omega) (by simp)]; exact h.out
theorem SBox.err6 (h : SBox shape text w0 p q wr s v vs) (ho : Only p none wr.drew w6) : w6.heap[w0.heap.size + 1]? = some (.cells #[.int .i64 0] 36 (0, 0)) := by
  have := h.hp; have := blk_lt h.err
  rw [ho.block _ (blk_lt h.err) (by omega) (by simp)]; exact h.err
theorem SBox.own6 (h : SBox shape text w0 p q wr s v vs) (ho : Only p none wr.drew w6) : w6.ownsRow (q + 1) 182 3 v vs.length (vsV vs) := by
  refine ⟨h.own.1, ?_⟩
  have hpq := h.pq
  rcases h.own.2 with hn | ⟨g, cap, cur, rfl, hb, hg, r⟩
  · exact .inl hn
  · exact .inr ⟨g, cap, cur, rfl, hb, by rw [ho.block g (blk_lt hg) (by omega) (by simp)]; exact hg, r⟩
theorem SBox.below6 (h : SBox shape text w0 p q wr s v vs) (ho : Only p none wr.drew w6) : Below w0.heap.size w0 w6 :=
  Only.below (w := wr.drew) (below_drewN h.below 1) ho (by have := h.hp; omega) (fun k hk => by cases hk)
theorem SBox.cell6 (h : SBox shape text w0 p q wr s v vs) (ho : Only p none wr.drew w6) : w6.cell? ⟨w0.heap.size, 0, none⟩ = some v ∧ ∀ o, (w6.alloc o).cell? ⟨w0.heap.size, 0, none⟩ = some v := by
  have hb := h.out6 ho
  refine ⟨by rw [blk_cell hb]; rfl, fun o => ?_⟩
  rw [blk_cell (blk_below hb (below_alloc w6 o))]; rfl
theorem SBox.cell8 (h : SBox shape text w0 p q wr s v vs) (ho : Only p none wr.drew w6) (o : Obj) (hg : (w6.alloc o).grownBy w8 v.ownBlock) : w8.cell? ⟨w0.heap.size, 0, none⟩ = some v ∧ w8.frozen? ⟨w0.heap.size, 0, none⟩ = false := by
  have hb := blk_below (h.out6 ho) (below_alloc w6 o)
  have := h.hp; have := h.pq
  have hb8 : w8.heap[w0.heap.size]? = some (.cells #[v] 178 (0, 0)) := by
    rw [hg.block _ (blk_lt hb) (fun hc => by have := (h.own.lt _ hc.symm).1; omega)]; exact hb
  exact ⟨by rw [blk_cell hb8]; rfl, blk_frozen hb8 _⟩
theorem SBox.drewN (h : SBox shape text w0 p q wr s v vs) (n : Nat) : SBox shape text w0 p q (wr.drewN n) s v vs :=
  ⟨below_drewN h.below n, h.hp, h.pq, h.lq, h.out, h.err, by obtain ⟨at0, h1, h2, hk, hrest⟩ := h.rd; exact ⟨at0, h1, h2, hk, hrest⟩, h.bytes, h.own⟩
theorem SBox.step (h : SBox shape text w0 p q wr s v vs) (ho : Only p none wr.drew w6) (hr : PRd w6 p text s') (o : Obj) (x : V)
    (hown : w8.ownsRow (q + 1) 182 3 v' (vs.length + 1) (vsV vs ++ vsV [x])) (hg : (w6.alloc o).grownBy w8 v.ownBlock) :
    SBox shape text w0 p q (w8.setCell ⟨w0.heap.size, 0, none⟩ v') s' v' (vs ++ [x]) := by
  have hpq := h.pq
  have hp := h.hp
  have hp6 := prd_lt hr
  have hlo : ∀ k, v.ownBlock = some k → q + 1 ≤ k := fun k hk => (h.own.lt k hk).1
  have hB6 := h.below6 ho
  have hB8 : Below w0.heap.size w0 w8 := (balloc hB6 o).grown hg (by have := hB6.size; simp; omega) (fun k hk => by have := hlo k hk; omega)
  have ho8 : w8.heap[w0.heap.size]? = some (.cells #[v] 178 (0, 0)) := by
    have hb := blk_below (h.out6 ho) (below_alloc w6 o)
    rw [hg.block _ (blk_lt hb) (fun hc => by have := hlo _ hc.symm; omega)]; exact hb
  have he8 : w8.heap[w0.heap.size + 1]? = some (.cells #[.int .i64 0] 36 (0, 0)) := by
    have hb := blk_below (h.err6 ho) (below_alloc w6 o)
    rw [hg.block _ (blk_lt hb) (fun hc => by have := hlo _ hc.symm; omega)]; exact hb
  have hlq := h.lq
  refine ⟨hB8.setCell (Nat.le_refl _) v', hp, hpq, ?_, ?_, ?_, ?_, fun j b hj => ?_, ?_⟩
  · have h1 := ho.size
    have h2 := hg.size
    simp at h1 h2
    show q < (w8.setCell _ _).heap.size
    simp [World.setCell]
    omega
  · rw [blk_set ho8]; rfl
  · exact blk_set_other he8 _ _ _ (by omega)
  · obtain ⟨at0, h1, h2, hk, hrest⟩ := hr
    refine ⟨at0, h1, h2, ?_, hrest⟩
    rw [Below.heap_setCell _ _ _ _ (by show p ≠ w0.heap.size; omega), hg.block p (by simp; omega) (fun hc => by have := hlo _ hc.symm; omega), Below.heap_alloc _ _ _ hp6]
    exact hk
  · have hc := h.bytes j b hj
    have hq := World.block_lt hc
    have hq6 : w6.heap[q]? = wr.heap[q]? := ho.block q hq (by omega) (by simp)
    have hql : q < w6.heap.size := Nat.lt_of_lt_of_le hq ho.size
    have hq8 : w8.heap[q]? = w6.heap[q]? := by
      rw [hg.block q (by simp; omega) (fun hc => by have := hlo _ hc.symm; omega), Below.heap_alloc _ _ _ hql]
    refine cell_set_other ?_ _ _ _ (by omega)
    rw [World.cell?_of_block (w := wr) (a := ⟨q, j, none⟩) (by rw [hq8, hq6])]; exact hc
  · have h2 : w8.ownsRow (q + 1) 182 3 v' (vs ++ [x]).length (vsV (vs ++ [x])) := by
      rw [List.length_append, vsV, List.flatMap_append]; exact hown
    refine ⟨h2.1, ?_⟩
    rcases h2.2 with hn | ⟨g, cap, cur, rfl, hb, hg', r⟩
    · exact .inl hn
    · exact .inr ⟨g, cap, cur, rfl, hb, blk_set_other hg' _ _ _ (by omega), r⟩
end

theorem SBox.lq6 {shape text : ByteArray} {w0 wr w6 : World} {p q : Nat} {s : R} {v : Value} {vs : List V} (h : SBox shape text w0 p q wr s v vs) (ho : Only p none wr.drew w6) : q < w6.heap.size := by
  have h1 := ho.size
  have h2 := h.lq
  simp at h1
  omega
/-- The panic goes through the door. -/
theorem pan_end {shape text : ByteArray} {w wr w6 : World} {p q : Nat} {s : R} {v : Value} {vs : List V} (h : SBox shape text w p q wr s v vs) (ho : Only p none wr.drew w6) (hE : scE shape.data.toList text.data.toList = 2)
    (tmps : Array Value) (h4 : tmps[4]?.getD undef = .pointer (some ⟨w.heap.size, 0, none⟩)) (h5 : tmps[5]?.getD undef = .pointer (some ⟨w.heap.size + 1, 0, none⟩)) :
    bodyPostD Tryz.prog Tryz.f124 (ScanPost w shape.data.toList text.data.toList) (.panic [{ v := .iface 195 (.int .i64 2), recovered := false }]) { tmps := tmps, defers := [{ target := .fn (.func 147) #[.pointer (some ⟨w.heap.size, 0, none⟩), .pointer (some ⟨w.heap.size + 1, 0, none⟩)], args := #[] }] } w6 := by
  have ho6 := h.out6 ho
  have he6 := h.err6 ho
  refine leaves_cons (f := 147) (args := #[.pointer (some ⟨w.heap.size, 0, none⟩), .pointer (some ⟨w.heap.size + 1, 0, none⟩)]) (by simp) (by simp [go_sem]) ?_
  refine (catch_panicking w.heap.size (w.heap.size + 1) v (.int .i64 0) 2 [] _ (by rw [blk_cell ho6]; rfl) (by rw [blk_cell he6]; rfl) (blk_frozen ho6 _) (blk_frozen he6 _) (by omega)).mono ?_
  rintro e u' w'' ⟨rfl, rfl, rfl⟩
  obtain ⟨d0, d1⟩ := two_set (v1 := .slice none 0 0) (v2 := .int .i64 2) ho6 he6 (by omega)
  have hP : ScanPost w shape.data.toList text.data.toList (.returned (.tuple #[.slice none 0 0, .int .i64 2])) ((w6.setCell ⟨w.heap.size, 0, none⟩ (.slice none 0 0)).setCell ⟨w.heap.size + 1, 0, none⟩ (.int .i64 2)) :=
    scanPost_nil hE (by omega) (((h.below6 ho).setCell (Nat.le_refl _) _).setCell (by simp) _)
  simp [Leaves, settle, results, Tryz.results124, go_sem, d0, d1, h4, h5]
  exact hP

theorem sbox_start {shape text : ByteArray} {w0 w2 w3 : World} (HS : SAt shape w0 w2) (b3 : Below w2.heap.size w2 w3) (hr3 : PRd w3 (w0.heap.size + 3) text ⟨text.data.toList, false⟩) (cap : Nat) (t : TypeId) (fr : Nat × Nat) :
    SBox shape text w0 (w0.heap.size + 3) w3.heap.size (World.drew (w3.alloc (.cells (bytesRow shape cap) t fr))) (scN (shape.data.toList.take 0) ⟨text.data.toList, false⟩) (.slice none 0 0) (scV (shape.data.toList.take 0) ⟨text.data.toList, false⟩) := by
  have hb := bthen HS.below b3
  have ha := below_alloc w3 (.cells (bytesRow shape cap) t fr)
  refine ⟨below_drewN (balloc hb _) 1, by omega, ?_, by simp, ?_, ?_, ?_, fun j b hj => ?_, World.ownsRow_nil _ _ _ _⟩
  · have := prd_lt hr3; omega
  · have := blk_below (blk_below HS.out b3) ha; exact this
  · have := blk_below (blk_below HS.err b3) ha; exact this
  · obtain ⟨at0, h1, h2, hk, hrest⟩ := prd_below hr3 ha
    exact ⟨at0, h1, h2, hk, hrest⟩
  · exact bytes_row_cell w3 shape cap t fr w3.heap.size rfl j b hj

theorem owns_set3 {w : World} {B e k n : Nat} {v : Value} {xs : List Value} (h : w.ownsRow B e k v n xs) {g : Nat} (hg : g < B) (i : Nat) (u : Value) : (w.setCell ⟨g, i, none⟩ u).ownsRow B e k v n xs := by
  refine ⟨h.1, ?_⟩
  rcases h.2 with hn | ⟨k, cap, cur, rfl, hb, hk, r⟩
  · exact .inl hn
  · exact .inr ⟨k, cap, cur, rfl, hb, blk_set_other hk _ _ _ (by omega), r⟩
theorem owns_mono3 {w : World} {B B' e k n : Nat} {v : Value} {xs : List Value} (h : w.ownsRow B e k v n xs) (hB : B' ≤ B) : w.ownsRow B' e k v n xs := by
  refine ⟨h.1, ?_⟩
  rcases h.2 with h | ⟨g, cap, cur, hv, hb, r⟩
  · exact .inl h
  · exact .inr ⟨g, cap, cur, hv, by omega, r⟩
theorem scan_ok {shape text : ByteArray} {w w5 : World} {p q : Nat} {s : R} {va : Option Addr} {vc : Nat} {X : List V} (h : SBox shape text w p q w5 s (.slice va X.length vc) X) (hE : scE shape.data.toList text.data.toList = 0) (hL : scL shape.data.toList text.data.toList = X) :
    ScanPost w shape.data.toList text.data.toList (.returned (.tuple #[.slice va X.length vc, .int .i64 0])) ((w5.setCell ⟨w.heap.size, 0, none⟩ (.slice va X.length vc)).setCell ⟨w.heap.size + 1, 0, none⟩ (.int .i64 0)) := by
  have hp := h.hp
  have hq := h.pq
  refine ⟨_, by rw [hE], ?_, (h.below.setCell (Nat.le_refl _) _).setCell (by simp) _⟩
  rw [hL]
  exact owns_mono3 (owns_set3 (owns_set3 h.own (by omega) _ _) (by omega) _ _) (by omega)
theorem scE_end {shape text : List UInt8} (h : lettersB shape = true) (hb : (scN shape ⟨text, false⟩).bad = false) : scE shape text = endE (scN shape ⟨text, false⟩) := by
  rw [scE, if_pos h]
theorem scL_end {shape text : List UInt8} (h : lettersB shape = true) (hb : (scN shape ⟨text, false⟩).bad = false) : endE (scN shape ⟨text, false⟩) = 0 → scL shape text = scV shape ⟨text, false⟩ := fun h0 => by
  rw [scL, scE_end h hb, if_pos h0]

set_option maxHeartbeats 1000000 in
theorem scan_any (shape text : ByteArray) (w : World) (hs : shape.size ≤ 1048576) (hts : text.size ≤ 140737488351232) :
    Calls Tryz.prog 124 #[.string shape, .string text] w (ScanPost w shape.data.toList text.data.toList) := by
  have hmf : ∀ (fn : Fn) (first cap : Array Value) (w : World), (Instr.makeFunc fn first cap).run Tryz.prog w = .ok (.func fn first cap) w := fun _ _ _ _ => rfl
  have hrb := fun (w : World) (s : ByteArray) => run_bytes_of_string (P := Tryz.prog) w 9 169 5 s Tryz.underlying9 Tryz.underlying169 Tryz.underlying5
  go_enter_defers Tryz.func124, Tryz.ntmps124
  go_wp2_with fail
  generalize grownCap _ shape.size 0 5 = cap
  generalize ((bytesRow shape cap).size, (bytesRow shape cap).size + 1) = fr
  have HS := sAt_start shape w cap 5 fr
  generalize World.drew ((((w.alloc (.cells #[.slice none 0 0] 178)).alloc (.cells #[.int .i64 0] 36)).alloc (.cells (bytesRow shape cap) 5 fr))) = w2 at *
  replace HS := Lib.hid HS
  go_loop [16] (fun i => ∃ j : Nat, j ≤ shape.size ∧ i = .int .i64 j ∧ Hid (lettersB (shape.data.toList.take j) = true)) (fun i => shape.size - (intOf i).toNat)
  case atStart => exact ⟨0, by omega, rfl, Lib.hid rfl⟩
  case round =>
    obtain ⟨j, hj, rfl, hl⟩ := hrel
    by_cases hlt : j < shape.size
    · obtain ⟨b, hb⟩ : ∃ b, shape.data.toList[j]? = some b := ⟨_, List.getElem?_eq_getElem (by simpa using hlt)⟩
      have hc := HS.out.bytes j b hb
      have hbt := b.toNat_lt
      have Hb := Lib.hid hb; clear hb
      by_cases hB : letterB b.toNat = true
      · have CL := Lib.hid (letter_any (b.toNat : Int) w2)
        rw [hB] at CL
        have HB := Lib.hid hB; clear hB
        go_wp2_with fail
        refine CL.out.mono ?_
        rintro e w' ⟨rfl, rfl⟩
        go_wp2_with fail
        go_round
        case rel => exact ⟨j + 1, by omega, by go_num, Lib.hid (letters_snoc hl.out Hb.out HB.out)⟩
        case measure => simp [intOf]; omega
      · have CL := Lib.hid (letter_any (b.toNat : Int) w2)
        rw [Bool.eq_false_iff.2 hB] at CL
        have HB := Lib.hid hB; clear hB
        have c0 : w2.cell? ⟨w.heap.size, 0, none⟩ = some (.slice none 0 0) := by rw [blk_cell HS.out.out]; rfl
        have c1 : w2.cell? ⟨w.heap.size + 1, 0, none⟩ = some (.int .i64 0) := by rw [blk_cell HS.out.err]; rfl
        have z0 : w2.frozen? ⟨w.heap.size, 0, none⟩ = false := blk_frozen HS.out.out _
        have z1 : w2.frozen? ⟨w.heap.size + 1, 0, none⟩ = false := blk_frozen HS.out.err _
        go_wp2_with fail
        refine CL.out.mono ?_
        rintro e w' ⟨rfl, rfl⟩
        go_wp2_with fail
        refine leaves_cons (f := 147) (args := #[.pointer (some ⟨w.heap.size, 0, none⟩), .pointer (some ⟨w.heap.size + 1, 0, none⟩)]) (by simp) (by simp [go_sem]) ?_
        refine (catch_idle _ _ _).mono ?_
        rintro e u' w'' ⟨rfl, rfl, rfl⟩
        have d0 : ((w2.setCell ⟨w.heap.size, 0, none⟩ (.slice none 0 0)).setCell ⟨w.heap.size + 1, 0, none⟩ (.int .i64 1)).cell? ⟨w.heap.size, 0, none⟩ = some (.slice none 0 0) := by
          exact (two_set HS.out.out HS.out.err (by omega)).1
        have d1 : ((w2.setCell ⟨w.heap.size, 0, none⟩ (.slice none 0 0)).setCell ⟨w.heap.size + 1, 0, none⟩ (.int .i64 1)).cell? ⟨w.heap.size + 1, 0, none⟩ = some (.int .i64 1) := by
          exact (two_set HS.out.out HS.out.err (by omega)).2
        have hP : ScanPost w shape.data.toList text.data.toList (.returned (.tuple #[.slice none 0 0, .int .i64 1])) ((w2.setCell ⟨w.heap.size, 0, none⟩ (.slice none 0 0)).setCell ⟨w.heap.size + 1, 0, none⟩ (.int .i64 1)) :=
          scanPost_nil (by rw [scE, letters_bad Hb.out HB.out]; rfl) (by omega) ((HS.out.below.setCell (Nat.le_refl _) _).setCell (by simp) _)
        simp [Leaves, settle, results, Tryz.results124, go_sem, d0, d1]
        exact hP
    · obtain rfl : j = shape.size := by omega
      have hall := hl.out
      rw [List.take_of_length_le (by simp)] at hall
      replace hl := Lib.hid hall
      clear hall hlt hj
      have c0 : w2.cell? ⟨w.heap.size, 0, none⟩ = some (.slice none 0 0) := by rw [blk_cell HS.out.out]; rfl
      go_wp2_with fail
      refine (read_any text _ hts).mono ?_
      rintro e' w3 ⟨rfl, hr3, b3⟩
      have hz3 := b3.size
      rw [HS.out.size] at hr3
      have hsz2 := HS.out.size
      go_wp2_with fail
      generalize grownCap _ shape.size 0 5 = cap2
      generalize ((bytesRow shape cap2).size, (bytesRow shape cap2).size + 1) = fr2
      have HB := Lib.hid (sbox_start HS.out b3 hr3 cap2 5 fr2)
      clear hsz2 hz3 b3 c0 hr3 HS
      generalize w3.heap.size = q at *
      generalize World.drew (w3.alloc (.cells (bytesRow shape cap2) 5 fr2)) = w4 at *
      obtain ⟨ii, hi, hz0, hz1, hz2⟩ := info_parts info_val
      go_loopw [29] (fun i wr => ∃ k : Nat, ∃ v, k ≤ shape.size ∧ i = .int .i64 k ∧ Hid ((scN (shape.data.toList.take k) ⟨text.data.toList, false⟩).bad = false) ∧ Hid (SBox shape text w (w.heap.size + 3) q wr (scN (shape.data.toList.take k) ⟨text.data.toList, false⟩) v (scV (shape.data.toList.take k) ⟨text.data.toList, false⟩))) (fun i _ => shape.size - (intOf i).toNat)
      case atStart => exact ⟨0, _, by omega, rfl, Lib.hid rfl, HB⟩
      case round =>
        clear HB
        obtain ⟨k, v, hk, rfl, Hbad, HB⟩ := hrel
        by_cases hlt : k < shape.size
        · obtain ⟨b, hb⟩ : ∃ b, shape.data.toList[k]? = some b := ⟨_, List.getElem?_eq_getElem (by simpa using hlt)⟩
          have hc := HB.out.bytes k b hb
          have hbt := b.toNat_lt
          have hlb : letterB b.toNat = true := by
            have := hl.out
            rw [lettersB, List.all_eq_true] at this
            exact this b (List.mem_of_getElem? hb)
          have Hv := Lib.hid (show scV (shape.data.toList.take (k + 1)) ⟨text.data.toList, false⟩ = scV (shape.data.toList.take k) ⟨text.data.toList, false⟩ ++ [vVal (scN (shape.data.toList.take k) ⟨text.data.toList, false⟩) b.toNat] by rw [List.take_add_one, hb]; exact scV_snoc _ _ _)
          have Hn := Lib.hid (show scN (shape.data.toList.take (k + 1)) ⟨text.data.toList, false⟩ = vNext (scN (shape.data.toList.take k) ⟨text.data.toList, false⟩) b.toNat by rw [List.take_add_one, hb]; exact scN_snoc _ _ _)
          have Hp := Lib.hid (show (vNext (scN (shape.data.toList.take k) ⟨text.data.toList, false⟩) b.toNat).bad = true → scE shape.data.toList text.data.toList = 2 from fun h => by
            have h2 : (scN shape.data.toList ⟨text.data.toList, false⟩).bad = true := by
              rw [← List.take_append_drop (k + 1) shape.data.toList, scN_append]
              exact scN_bad _ _ (by rw [Hn.out]; exact h)
            rw [scE, if_pos hl.out, endE, if_pos h2])
          have hxl : (scV (shape.data.toList.take k) ⟨text.data.toList, false⟩).length ≤ 1048576 := by rw [scV_len, List.length_take]; omega
          generalize scV (shape.data.toList.take k) ⟨text.data.toList, false⟩ = X at *
          generalize scN (shape.data.toList.take k) ⟨text.data.toList, false⟩ = s at *
          have CV : ∀ (w' : World), w'.heap = wr.heap → Calls Tryz.prog 149 #[.pointer (some ⟨w.heap.size + 3, 0, none⟩), .int .u8 b.toNat] w' (VPost w' (w.heap.size + 3) text s b.toNat) :=
            fun w' hw => value_any b.toNat hlb (w.heap.size + 3) text s w' (by
              obtain ⟨at0, h1, h2, hk, hrest⟩ := HB.out.rd
              exact ⟨at0, h1, h2, by rw [hw]; exact hk, hrest⟩)
          replace CV := Lib.hid CV
          have o0 : wr.cell? ⟨w.heap.size, 0, none⟩ = some v := by rw [blk_cell HB.out.out]; rfl
          clear hb hlb
          generalize b.toNat = c at *
          go_wp2_with fail
          have k1 := Lib.hid (vsV_len1 (vVal s c))
          have k2 := Lib.hid (vsV_one [vVal s c])
          first | go_region_law (first | (refine step_calls_or rfl 149 #[.pointer (some ⟨w.heap.size + 3, 0, none⟩), .int .u8 c] (by go_simp) (CV.out _ rfl) ?_; rintro e w6 ⟨he, hr6, ho6⟩; by_cases hb6 : (vNext s c).bad = true; (rw [if_pos hb6] at he; exact .inr ⟨_, he, pan_end HB.out ho6 (Hp.out hb6) _ rfl rfl⟩); rw [if_neg hb6] at he; unfold vV at he; refine .inl ⟨_, he, ?_⟩; clear he; obtain ⟨k6, k7⟩ := HB.out.cell6 ho6; have l6 := HB.out.lq6 ho6; have own6 := Lib.hid (HB.out.own6 ho6)) | (refine step_append_lies _ rfl (.tmp 33) (.tmp 37) 178 rfl (q + 1) 182 ii (.agg #[.int .i64 0, .int .u64 0, .string ⟨#[]⟩]) 3 32 Tryz.underlying178 hi hz0 hz1 hz2 rfl (by decide) v X.length (vsV X) (by rfl) (by exact owns_below3 own6.out (below_alloc _ _)) ⟨w6.heap.size, 0, none⟩ 1 1 (vsV [vVal s c]) (by rfl) k1.out (by exact cells_new3 _ _ _) k2.out (by decide) (by simp only [maxLen]; omega) (by omega) (by simp; omega) _ rfl ?_; intro g cap w8 hown8 hg8 hor8 hlt8; obtain ⟨m8, m9⟩ := HB.out.cell8 ho6 _ hg8)) | fail
          all_goals
            have HB9 := Lib.hid (HB.out.step ho6 hr6 _ (vVal s c) hown8 hg8)
            clear hown8 hg8 hor8 hlt8 m8 m9 own6 l6 k6 k7 ho6 hr6 o0
            go_wp2_with fail
            go_roundw
            case rel => exact ⟨k + 1, _, by omega, by go_num, Lib.hid (by rw [Hn.out]; simpa using hb6), Lib.hid (by rw [Hv.out, Hn.out]; exact HB9.out)⟩
            case measure => simp [intOf]; omega
        · obtain rfl : k = shape.size := by omega
          have CE := Lib.hid (end_any _ text _ wr HB.out.rd)
          rw [List.take_of_length_le (by simp)] at HB Hbad CE
          obtain ⟨va, vc, rfl⟩ := owns_slice3 HB.out.own
          have hE := scE_end hl.out Hbad.out
          have hL := scL_end hl.out Hbad.out
          have HE := Lib.hid hE
          have HL := Lib.hid hL
          generalize endE (scN shape.data.toList ⟨text.data.toList, false⟩) = ee at *
          generalize scV shape.data.toList ⟨text.data.toList, false⟩ = X at *
          clear hE hL hlt hk Hbad
          go_wp2_with fail
          refine CE.out.mono ?_
          rintro e' w5 ⟨rfl, nq, rfl⟩
          by_cases he0 : ee = 0
          · subst he0
            have HB5 := HB.out.drewN nq
            have HB5' := Lib.hid HB5
            have o0 : (wr.drewN nq).cell? ⟨w.heap.size, 0, none⟩ = some (.slice va X.length vc) := by rw [blk_cell HB5.out]; rfl
            have o1 : (wr.drewN nq).cell? ⟨w.heap.size + 1, 0, none⟩ = some (.int .i64 0) := by rw [blk_cell HB5.err]; rfl
            have z0 : (wr.drewN nq).frozen? ⟨w.heap.size, 0, none⟩ = false := blk_frozen HB5.out _
            have z1 : (wr.drewN nq).frozen? ⟨w.heap.size + 1, 0, none⟩ = false := blk_frozen HB5.err _
            clear HB HB5
            generalize wr.drewN nq = w5 at *
            go_wp2_with fail
            refine leaves_cons (f := 147) (args := #[.pointer (some ⟨w.heap.size, 0, none⟩), .pointer (some ⟨w.heap.size + 1, 0, none⟩)]) (by simp) (by simp [go_sem]) ?_
            refine (catch_idle _ _ _).mono ?_
            rintro e u' w'' ⟨rfl, rfl, rfl⟩
            obtain ⟨d0, d1⟩ := two_set (v1 := .slice va X.length vc) (v2 := .int .i64 0) HB5'.out.out HB5'.out.err (by omega)
            have hP := scan_ok HB5'.out HE.out (HL.out trivial)
            simp [Leaves, settle, results, Tryz.results124, go_sem, d0, d1]
            exact hP
          · have HB5 := HB.out.drewN nq
            have HB5' := Lib.hid HB5
            have he1 : (ee != 0) = true := by simpa using he0
            have o0 : (wr.drewN nq).cell? ⟨w.heap.size, 0, none⟩ = some (.slice va X.length vc) := by rw [blk_cell HB5.out]; rfl
            have o1 : (wr.drewN nq).cell? ⟨w.heap.size + 1, 0, none⟩ = some (.int .i64 0) := by rw [blk_cell HB5.err]; rfl
            have z0 : (wr.drewN nq).frozen? ⟨w.heap.size, 0, none⟩ = false := blk_frozen HB5.out _
            have z1 : (wr.drewN nq).frozen? ⟨w.heap.size + 1, 0, none⟩ = false := blk_frozen HB5.err _
            clear HB HB5
            generalize wr.drewN nq = w5 at *
            go_wp2_with fail
            refine leaves_cons (f := 147) (args := #[.pointer (some ⟨w.heap.size, 0, none⟩), .pointer (some ⟨w.heap.size + 1, 0, none⟩)]) (by simp) (by simp [go_sem]) ?_
            refine (catch_idle _ _ _).mono ?_
            rintro e u' w'' ⟨rfl, rfl, rfl⟩
            obtain ⟨d0, d1⟩ := two_set (v1 := .slice none 0 0) (v2 := .int .i64 ee) HB5'.out.out HB5'.out.err (by omega)
            have hP : ScanPost w shape.data.toList text.data.toList (.returned (.tuple #[.slice none 0 0, .int .i64 ee])) ((w5.setCell ⟨w.heap.size, 0, none⟩ (.slice none 0 0)).setCell ⟨w.heap.size + 1, 0, none⟩ (.int .i64 ee)) :=
              scanPost_nil HE.out he0 ((HB5'.out.below.setCell (Nat.le_refl _) _).setCell (by simp) _)
            simp [Leaves, settle, results, Tryz.results124, go_sem, d0, d1]
            exact hP
end Go.Proofs.YtijeieamodjgbaaGreat

/- lives of witanlaw01. -/
namespace Go.Proofs.YtijeieamodjgbaaGreat
set_option maxRecDepth 100000
open Go.RowKit
set_option linter.unusedVariables false

theorem vs_cells {w : World} {B e n : Nat} {a : Option Addr} {c : Nat} {vs : List V} (h : w.ownsRow B e 3 (.slice a n c) vs.length (vsV vs)) :
    n = vs.length ∧ ∀ i x, vs[i]? = some x → ∃ g, a = some ⟨g, 0, none⟩ ∧ B ≤ g ∧ w.cell? ⟨g, i * 3, none⟩ = some (.int .i64 x.n) ∧ w.cell? ⟨g, i * 3 + 1, none⟩ = some (.int .u64 x.b) ∧ w.cell? ⟨g, i * 3 + 2, none⟩ = some (.string ⟨x.t.toArray⟩) := by
  have hget : ∀ (vs : List V) i x, vs[i]? = some x → (vsV vs)[i * 3]? = some (.int .i64 x.n) ∧ (vsV vs)[i * 3 + 1]? = some (.int .u64 x.b) ∧ (vsV vs)[i * 3 + 2]? = some (.string ⟨x.t.toArray⟩) := by
    intro vs
    induction vs with
    | nil => intro i x h; simp at h
    | cons v r ih =>
      intro i x h
      cases i with
      | zero => simp at h; subst h; simp [vsV]
      | succ i =>
        have := ih i x (by simpa using h)
        have e : vsV (v :: r) = .int .i64 v.n :: .int .u64 v.b :: .string ⟨v.t.toArray⟩ :: vsV r := rfl
        rw [e]
        refine ⟨?_, ?_, ?_⟩
        · rw [show (i + 1) * 3 = i * 3 + 3 by omega]; exact this.1
        · rw [show (i + 1) * 3 + 1 = i * 3 + 1 + 3 by omega]; exact this.2.1
        · rw [show (i + 1) * 3 + 2 = i * 3 + 2 + 3 by omega]; exact this.2.2
  rcases h.2 with ⟨hv, h0⟩ | ⟨g, cap, cur, hv, hB, hg, _⟩
  · injection hv with h1 h2 h3
    refine ⟨by rw [h0, h2], fun i x hx => ?_⟩
    have hl : vs = [] := List.eq_nil_of_length_eq_zero h0
    rw [hl] at hx
    cases hx
  · injection hv with h1 h2 h3
    subst h1
    refine ⟨h2, fun i x hx => ⟨g, rfl, hB, ?_, ?_, ?_⟩⟩
    · have := h.cells (g := g) rfl _ _ (hget vs i x hx).1; rwa [Addr.add_lit, Nat.zero_add] at this
    · have := h.cells (g := g) rfl _ _ (hget vs i x hx).2.1; rwa [Addr.add_lit, Nat.zero_add] at this
    · have := h.cells (g := g) rfl _ _ (hget vs i x hx).2.2; rwa [Addr.add_lit, Nat.zero_add] at this

end Go.Proofs.YtijeieamodjgbaaGreat
