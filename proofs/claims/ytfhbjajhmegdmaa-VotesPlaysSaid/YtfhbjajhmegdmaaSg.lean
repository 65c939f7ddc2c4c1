
/- Signatures, configurations, links: what they are in memory. -/
import Derived.Test.YtfhbjajhmegdmaaVw
import Derived.Test.YtfhbjajhmegdmaaPhase
namespace Go.Proofs.Ytfhbjajhmegdmaa
set_option maxRecDepth 100000
open Go.RowKit
set_option linter.unusedVariables false

/-- A signature: who signed which text. -/
abbrev Sg := Int × ByteArray
abbrev Cf := Int × List Int
abbrev Lk := Cf × List Sg
def shSig : Sh Sg := (Sh.int.pair Sh.long).bytes 24
def shConf : Sh Cf := (Sh.int.pair Sh.int.slice).bytes 32
def shLink : Sh Lk := (shConf.pair shSig.slice).bytes 56
theorem vwInt : Vw Try.prog 3 Sh.int := vw_int Try.underlying3 (by kernel_rfl) (by kernel_rfl)
theorem vwStr : Vw Try.prog 9 Sh.str := vw_str Try.underlying9 (by kernel_rfl) (by kernel_rfl)
theorem vwLong : Vw Try.prog 9 Sh.long := vw_long Try.underlying9 (by kernel_rfl) (by kernel_rfl)
theorem vwInts : Vw Try.prog 22 Sh.int.slice := vw_slice Try.underlying22 (by kernel_rfl) (by kernel_rfl) vwInt (by decide) (by decide)
theorem vwSig : Vw Try.prog 47 shSig := vw_struct Try.underlying47 (fsv_cons vwInt (fsv_one vwLong) rfl) (by kernel_rfl) (by kernel_rfl)
theorem vwSigs : Vw Try.prog 39 shSig.slice := vw_slice Try.underlying39 (by kernel_rfl) (by kernel_rfl) vwSig (by decide) (by decide)
theorem vwConf : Vw Try.prog 24 shConf := vw_struct Try.underlying24 (fsv_cons vwInt (fsv_one vwInts) rfl) (by kernel_rfl) (by kernel_rfl)
theorem vwLink : Vw Try.prog 49 shLink := vw_struct Try.underlying49 (fsv_cons vwConf (fsv_one vwSigs) rfl) (by kernel_rfl) (by kernel_rfl)

/-- A slice of ints, in both words. -/
theorem ints_of_sl {w : World} {a : Option Addr} {n c : Nat} {l : List Int} (h : SlAt Sh.int w a n c l) : IntsAt w a n l := by
  refine ⟨h.len, Nat.le_trans h.cap h.max, fun i hi => ?_, fun x hx => ?_⟩
  · obtain ⟨y, hy⟩ : ∃ y, l[i]? = some y := ⟨_, List.getElem?_eq_getElem (by rw [h.len]; exact hi)⟩
    obtain ⟨b, o, cs, ha, ⟨rfl, _⟩, hc⟩ := h.cell i y hy
    refine ⟨b, o, ha, ?_⟩
    have h1 := hc 0 _ rfl
    have : Sh.int.k = 1 := rfl
    rw [this, Nat.mul_one, Nat.add_zero] at h1
    rw [h1]; simp [List.getD, hy]
  · obtain ⟨i, hi, rfl⟩ := List.getElem_of_mem hx
    obtain ⟨b, o, cs, ha, ⟨_, h2⟩, hc⟩ := h.cell i _ (List.getElem?_eq_getElem hi)
    exact h2
theorem sl_of_ints {w : World} {a : Option Addr} {n c : Nat} {l : List Int} (h : IntsAt w a n l) (hc : n ≤ c) (hm : c ≤ 9223372036854775807) (hb : n * 8 ≤ 140737488355328) (hn : a = none → c = 0) : SlAt Sh.int w a n c l := by
  refine ⟨h.len, hc, hm, hb, hn, fun i y hy => ?_⟩
  have hi : i < n := by rw [← h.len]; exact (List.getElem?_eq_some_iff.1 hy).1
  obtain ⟨b, o, ha, h1⟩ := h.cell i hi
  refine ⟨b, o, _, ha, ⟨rfl, h.fit y (List.mem_of_getElem? hy)⟩, fun j v hv => ?_⟩
  have hj : j = 0 := by
    rcases Nat.eq_zero_or_pos j with h | h
    · exact h
    · rw [List.getElem?_eq_none (by simp; omega)] at hv; cases hv
  subst hj
  have : Sh.int.k = 1 := rfl
  rw [this, Nat.mul_one, Nat.add_zero, h1]
  simp at hv
  rw [← hv]; simp [List.getD, hy]
/-- One signature of a slice: its two cells. -/
theorem sig_cells {w : World} {a : Option Addr} {n c : Nat} {l : List Sg} (h : SlAt shSig w a n c l) {i : Nat} (hi : i < n) :
    ∃ b o x t, a = some ⟨b, o, none⟩ ∧ l[i]? = some (x, t) ∧ w.cell? ⟨b, o + i * 2, none⟩ = some (.int .i64 x) ∧ w.cell? ⟨b, o + i * 2 + 1, none⟩ = some (.string t) ∧ i64 x ∧ t.size ≤ 1125899906842624 := by
  obtain ⟨y, hy⟩ : ∃ y, l[i]? = some y := ⟨_, List.getElem?_eq_getElem (by rw [h.len]; exact hi)⟩
  obtain ⟨b, o, cs, ha, hE, hc⟩ := h.cell i y hy
  obtain ⟨x, t⟩ := y
  obtain ⟨_, _, rfl, ⟨rfl, h1⟩, rfl, h2⟩ := hE
  exact ⟨b, o, x, t, ha, hy, hc 0 _ rfl, hc 1 _ rfl, h1, h2⟩
/-- As the walk compares two strings. -/
theorem str_neq {a b : ByteArray} (h : ¬ a = b) : (a.toList == b.toList) = false := by
  rw [ByteArray.toList_eq, ByteArray.toList_eq]
  cases hc : (a.data.toList == b.data.toList) with
  | false => rfl
  | true => exact absurd (ByteArray.ext (Array.toList_inj.1 (by simpa using hc))) h
theorem conf_open {w : World} {y : Cf} {cs : List Value} (h : shConf.E w y cs) : ∃ e l a n c, y = (e, l) ∧ cs = [.int .i64 e, .slice a n c] ∧ i64 e ∧ SlAt Sh.int w a n c l := by
  obtain ⟨e, l⟩ := y
  obtain ⟨x1, x2, rfl, ⟨rfl, he⟩, a, n, c, rfl, hs⟩ := h
  exact ⟨e, l, a, n, c, rfl, rfl, he, hs⟩
theorem link_open {w : World} {y : Lk} {cs : List Value} (h : shLink.E w y cs) : ∃ e l s a n c sa sn sc, y = ((e, l), s) ∧ cs = [.int .i64 e, .slice a n c, .slice sa sn sc] ∧ i64 e ∧ SlAt Sh.int w a n c l ∧ SlAt shSig w sa sn sc s := by
  obtain ⟨⟨e, l⟩, s⟩ := y
  obtain ⟨x1, x2, rfl, ⟨y1, y2, rfl, ⟨rfl, he⟩, a, n, c, rfl, hs⟩, sa, sn, sc, rfl, hss⟩ := h
  exact ⟨e, l, s, a, n, c, sa, sn, sc, rfl, rfl, he, hs, hss⟩
end Go.Proofs.Ytfhbjajhmegdmaa
