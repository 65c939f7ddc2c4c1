
/- Items: what they are in memory; walks of kind and same. -/
import Derived.Test.YtnmhmbfhaiaaoaaSg
import Derived.Test.YtnmhmbfhaiaaoaaPLive
namespace Go.Proofs.Ytnmhmbfhaiaaoaa
set_option maxRecDepth 100000
open Go.RowKit
set_option linter.unusedVariables false

/-- An item: its kind's number, a number, bits, a text. -/
abbrev It := Int × Int × Int × ByteArray
def shIt : Sh It := (Sh.int.pair (Sh.int.pair (Sh.u64.pair Sh.str))).bytes 40
theorem vwU64 : Vw Try.prog 22 Sh.u64 := vw_u64 Try.underlying22 (by kernel_rfl) (by kernel_rfl)

/-- One item of a slice: its four cells. -/
theorem it_cells {w : World} {a : Option Addr} {n c : Nat} {l : List It} (h : SlAt shIt w a n c l) {i : Nat} (hi : i < n) :
    ∃ b o k m x t, a = some ⟨b, o, none⟩ ∧ l[i]? = some (k, m, x, t) ∧ w.cell? ⟨b, o + i * 4, none⟩ = some (.int .i64 k) ∧ w.cell? ⟨b, o + i * 4 + 1, none⟩ = some (.int .i64 m) ∧ w.cell? ⟨b, o + i * 4 + 2, none⟩ = some (.int .u64 x) ∧ w.cell? ⟨b, o + i * 4 + 3, none⟩ = some (.string t) ∧
      i64 k ∧ i64 m ∧ (0 ≤ x ∧ x ≤ 18446744073709551615) ∧ t.size ≤ 140737488351232 := by
  obtain ⟨y, hy⟩ : ∃ y, l[i]? = some y := ⟨_, List.getElem?_eq_getElem (by rw [h.len]; exact hi)⟩
  obtain ⟨b, o, cs, ha, hE, hc⟩ := h.cell i y hy
  obtain ⟨k, m, x, t⟩ := y
  obtain ⟨_, _, rfl, ⟨rfl, h1⟩, _, _, rfl, ⟨rfl, h2⟩, _, _, rfl, ⟨rfl, h3⟩, rfl, h4⟩ := hE
  exact ⟨b, o, k, m, x, t, ha, hy, hc 0 _ rfl, hc 1 _ rfl, hc 2 _ rfl, hc 3 _ rfl, h1, h2, h3, h4⟩

def kindN (k : Int) : Int := wrap64 ((IntKind.u64.wrap k).tmod 5)
theorem kindN_range (k : Int) : kindN k = 0 ∨ kindN k = 1 ∨ kindN k = 2 ∨ kindN k = 3 ∨ kindN k = 4 := by
  have h : 0 ≤ IntKind.u64.wrap k := by simp [IntKind.wrap, IntKind.bits, IntKind.signed]; omega
  unfold kindN
  rw [Int.tmod_eq_emod_of_nonneg h, IntWalk.wrap64_in _ ⟨by omega, by omega⟩]
  omega

/-- What is left behind an item that is asked for. -/
def iNext (s : R) (k : Int) : R := if k = 0 then rNext s 1 else if k = 1 then rNext s 2 else if k = 2 then rNext s 4 else if k = 3 then rNext s 8 else tNext s
theorem rrd_below {p : Nat} {w w' : World} {s : R} (hr : RRd w p s) (hb : Below w.heap.size w w') : RRd w' p s := by
  obtain ⟨S, hk, h1, h2⟩ := hr
  exact ⟨S, blk_below hk hb, h1, h2⟩
theorem rrd_lt {p : Nat} {w : World} {s : R} (hr : RRd w p s) : p < w.heap.size := by
  obtain ⟨S, hk, h1, h2⟩ := hr
  exact blk_lt hk
theorem rrd_kept {p q : Nat} {w w' : World} {s : R} (hr : RRd w q s) (ho : Only p none w w') (h : ¬ q = p) : RRd w' q s := by
  obtain ⟨S, hk, h1, h2⟩ := hr
  exact ⟨S, by rw [ho.block q (blk_lt hk) h (by simp)]; exact hk, h1, h2⟩
theorem prd_kept {p q : Nat} {text : ByteArray} {w w' : World} {s : R} (hr : PRd w q text s) (ho : Only p none w w') (h : ¬ q = p) : PRd w' q text s := by
  obtain ⟨at0, h1, h2, hk, h3⟩ := hr
  exact ⟨at0, h1, h2, by rw [ho.block q (blk_lt hk) h (by simp)]; exact hk, h3⟩
/-- What same leaves: both readers have gone on alike. -/
def SamePost (w : World) (p q : Nat) (text : ByteArray) (s : R) (e : Ending) (w' : World) : Prop :=
  e = .returned (.bool true) ∧ PRd w' p text s ∧ RRd w' q s ∧ Only p (some q) w w'
theorem only_two {p q : Nat} {w w1 w2 w3 : World} (hb : Below w.heap.size w w1) (h1 : Only p none w1 w2) (h2 : Only q none w2 w3) : Only p (some q) w w3 :=
  ⟨(h2.os.trans h1.os).trans hb.os, (h2.tape.trans h1.tape).trans hb.tape, (h2.output.trans h1.output).trans hb.output, Nat.le_trans hb.size (Nat.le_trans h1.size h2.size), fun k hk hp hq => by
    rw [h2.block k (Nat.lt_of_lt_of_le hk (Nat.le_trans hb.size h1.size)) (fun h => hq (by rw [h])) (by simp), h1.block k (Nat.lt_of_lt_of_le hk hb.size) hp (by simp), hb.block k hk]⟩






end Go.Proofs.Ytnmhmbfhaiaaoaa
