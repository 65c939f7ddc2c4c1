
/- Readings of the arguments of witanlaw15. -/
import Derived.Test.YtfhbjajhmegdmaaLv15
namespace Go.Proofs.Ytfhbjajhmegdmaa
set_option maxRecDepth 100000
open Go.ChangeShapes Go.WideShapes Go.ChangeAt Go.RowKit Go.Deep
set_option linter.unusedVariables false
set_option linter.unusedSimpArgs false

/-- A vote as a law hears it: whose, the bytes, the members, what is wrong. -/
abbrev Hv := Int × ByteArray × List Int × Int
def shVote : Sh Hv := (Sh.int.pair (Sh.str.pair (Sh.int.slice.pair Sh.int))).bytes 56
theorem vwVote : Vw Try.prog 38 shVote := vw_struct Try.underlying38 (fsv_cons vwInt (fsv_cons vwStr (fsv_cons vwInts (fsv_one vwInt) rfl) rfl) rfl) (by kernel_rfl) (by kernel_rfl)
theorem vwVotes : Vw Try.prog 30 shVote.slice := vw_slice Try.underlying30 (by kernel_rfl) (by kernel_rfl) vwVote (by decide) (by decide)
structure VoteIn (w : World) (x : Int) (t : ByteArray) (a : Option Addr) (n c : Nat) (l : List Int) (q : Int) : Prop where
  x : i64 x
  u : t.size ≤ 140737488351232
  t : t.size ≤ 140737488355328
  s : SlAt Sh.int w a n c l
  q : i64 q
theorem VoteIn.old {w w' : World} {x : Int} {t : ByteArray} {a : Option Addr} {n c : Nat} {l : List Int} {q : Int} (h : VoteIn w x t a n c l q) (hb : Below w.heap.size w w') : VoteIn w' x t a n c l q := ⟨h.x, h.u, h.t, h.s.old hb, h.q⟩
theorem vote_open {w : World} {y : Hv} {cs : List Value} (h : shVote.E w y cs) : ∃ x t l q a n c, y = (x, t, l, q) ∧ cs = [.int .i64 x, .string t, .slice a n c, .int .i64 q] ∧ VoteIn w x t a n c l q := by
  obtain ⟨x, t, l, q⟩ := y
  obtain ⟨_, _, rfl, ⟨rfl, h1⟩, _, _, rfl, ⟨rfl, h2⟩, _, _, rfl, ⟨a, n, c, rfl, h3⟩, rfl, h4⟩ := h
  exact ⟨x, t, l, q, a, n, c, rfl, rfl, h1, h2, Nat.le_trans h2 (by decide), h3, h4⟩
theorem vote_cells {w : World} {a : Option Addr} {n c : Nat} {l : List Hv} (h : SlAt shVote w a n c l) {i : Nat} (hi : i < n) :
    ∃ b o x t l' q a' n' c', a = some ⟨b, o, none⟩ ∧ l[i]? = some (x, t, l', q) ∧ w.cell? ⟨b, o + i * 4, none⟩ = some (.int .i64 x) ∧ w.cell? ⟨b, o + i * 4 + 1, none⟩ = some (.string t) ∧ w.cell? ⟨b, o + i * 4 + 2, none⟩ = some (.slice a' n' c') ∧ w.cell? ⟨b, o + i * 4 + 3, none⟩ = some (.int .i64 q) ∧ VoteIn w x t a' n' c' l' q := by
  obtain ⟨y, hy⟩ : ∃ y, l[i]? = some y := ⟨_, List.getElem?_eq_getElem (by rw [h.len]; exact hi)⟩
  obtain ⟨b, o, cs, ha, hE, hc⟩ := h.cell i y hy
  obtain ⟨x, t, l', q, a', n', c', rfl, rfl, hv⟩ := vote_open hE
  exact ⟨b, o, x, t, l', q, a', n', c', ha, hy, hc 0 _ rfl, hc 1 _ rfl, hc 2 _ rfl, hc 3 _ rfl, hv⟩
theorem VoteIn.nil {w : World} {x : Int} {t : ByteArray} {a : Option Addr} {n c : Nat} {l : List Int} {q : Int} (h : VoteIn w x t a n c l q) : a = none → c = 0 ∧ n = 0 := fun hn => ⟨h.s.nil hn, by have := h.s.nil hn; have := h.s.cap; omega⟩
end Go.Proofs.Ytfhbjajhmegdmaa
