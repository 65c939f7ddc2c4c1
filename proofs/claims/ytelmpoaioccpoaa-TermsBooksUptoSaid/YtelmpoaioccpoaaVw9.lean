
/- Readings of the arguments of witanlaw09. -/
import Derived.Test.YtelmpoaioccpoaaLv9
namespace Go.Proofs.Ytelmpoaioccpoaa
set_option maxRecDepth 100000
open Go.ChangeShapes Go.WideShapes Go.ChangeAt Go.RowKit Go.Deep
set_option linter.unusedVariables false
set_option linter.unusedSimpArgs false

theorem sig_open {w : World} {y : Sg} {cs : List Value} (h : shSig.E w y cs) : ∃ x t, y = (x, t) ∧ cs = [.int .i64 x, .string t] ∧ sgOk (x, t) := by
  obtain ⟨x, t⟩ := y
  obtain ⟨_, _, rfl, ⟨rfl, h1⟩, rfl, h2⟩ := h
  exact ⟨x, t, rfl, rfl, h1, h2⟩
def shHeard : Sh (Cf × ByteArray × List Sg) := (shConf.pair (Sh.str.pair shSig.slice)).bytes 72
theorem vwHeard : Vw Try.prog 27 shHeard := vw_struct Try.underlying27 (fsv_cons vwConf (fsv_cons vwStr (fsv_one vwSigs) rfl) rfl) (by kernel_rfl) (by kernel_rfl)
structure HeardIn (w : World) (e : Int) (a : Option Addr) (n c : Nat) (l : List Int) (t : ByteArray) (b : Option Addr) (o q : Nat) (s : List Sg) : Prop where
  i : i64 e
  m : SlAt Sh.int w a n c l
  t : t.size ≤ 140737488351232
  s : SlAt shSig w b o q s
theorem heard_open {w : World} {y : Cf × ByteArray × List Sg} {cs : List Value} (h : shHeard.E w y cs) : ∃ e l t s a n c b o q, y = ((e, l), t, s) ∧ cs = [.int .i64 e, .slice a n c, .string t, .slice b o q] ∧ HeardIn w e a n c l t b o q s := by
  obtain ⟨⟨e, l⟩, t, s⟩ := y
  obtain ⟨_, _, rfl, ⟨_, _, rfl, ⟨rfl, h1⟩, a, n, c, rfl, h2⟩, _, _, rfl, ⟨rfl, h3⟩, b, o, q, rfl, h4⟩ := h
  exact ⟨e, l, t, s, a, n, c, b, o, q, rfl, rfl, h1, h2, h3, h4⟩
theorem vwNotes : Vw Try.prog 41 shSig.slice.slice := vw_slice Try.underlying41 (by kernel_rfl) (by kernel_rfl) vwSigs (by decide) (by decide)
set_option maxHeartbeats 400000 in
theorem note_nil (a : Option Addr) (n c : Nat) (w : World) : Calls Try.prog 22 #[.pointer none, .slice a n c] w fun e w' => e = .returned (.tuple #[]) ∧ w' = w := by
  go_enter Try.func22, Try.ntmps22
  go_wp2_with fail
  refine bodyPost_ret (results_none rfl _ _ _) rfl ?_
  exact ⟨rfl, rfl⟩
theorem hasB_snoc (l : List Int) (y x : Int) : hasB (l ++ [y]) x = (hasB l x || (y == x)) := by
  have h : (x == y) = (y == x) := by rw [Bool.eq_iff_iff, beq_iff_eq, beq_iff_eq]; exact ⟨fun h => h.symm, fun h => h.symm⟩
  rw [hasB, hasB, List.any_append, ← h]; simp
end Go.Proofs.Ytelmpoaioccpoaa
