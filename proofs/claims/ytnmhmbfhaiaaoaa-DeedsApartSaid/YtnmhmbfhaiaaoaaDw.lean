
/- Readings of Asks, Spots and Cases. -/
import Derived.Test.YtnmhmbfhaiaaoaaDv
import Derived.Test.YtnmhmbfhaiaaoaaVw
import Derived.Test.YtnmhmbfhaiaaoaaIt
namespace Go.Proofs.Ytnmhmbfhaiaaoaa
set_option maxRecDepth 100000
open Go.ChangeShapes Go.WideShapes Go.ChangeAt Go.RowKit Go.Deep
set_option linter.unusedVariables false
set_option linter.unusedSimpArgs false

def shAsk : Sh (Int × Int × Int × ByteArray × Int × Int) := (Sh.int.pair (Sh.int.pair (Sh.int.pair (Sh.str.pair (Sh.u64.pair Sh.int))))).bytes 56
def shSpot : Sh (Int × Int × Int) := (Sh.int.pair (Sh.int.pair Sh.int)).bytes 24
theorem vwAsk : Vw Try.prog 24 shAsk := vw_struct Try.underlying24 (fsv_cons vwInt (fsv_cons vwInt (fsv_cons vwInt (fsv_cons vwStr (fsv_cons vwU64 (fsv_one vwInt) rfl) rfl) rfl) rfl) rfl) (by kernel_rfl) (by kernel_rfl)
theorem vwSpot : Vw Try.prog 51 shSpot := vw_struct Try.underlying51 (fsv_cons vwInt (fsv_cons vwInt (fsv_one vwInt) rfl) rfl) (by kernel_rfl) (by kernel_rfl)
def shCase : Sh ((Int × Int × Int) × (Int × Int × Int × ByteArray × Int × Int)) := (shSpot.pair shAsk).bytes 80
theorem vwCase : Vw Try.prog 56 shCase := vw_struct Try.underlying56 (fsv_cons vwSpot (fsv_one vwAsk) rfl) (by kernel_rfl) (by kernel_rfl)
def Rq.t (r : Rq) : Int × Int × Int × ByteArray × Int × Int := (r.c, r.s, r.kind, r.key, (r.b : Int), r.id)
def Rq.cs (r : Rq) : List Value := [.int .i64 r.c, .int .i64 r.s, .int .i64 r.kind, .string r.key, .int .u64 r.b, .int .i64 r.id]
theorem ask_open {w : World} {y : Int × Int × Int × ByteArray × Int × Int} {cs : List Value} (h : shAsk.E w y cs) : ∃ r : Rq, y = r.t ∧ cs = [.int .i64 r.c, .int .i64 r.s, .int .i64 r.kind, .string r.key, .int .u64 r.b, .int .i64 r.id] ∧ r.Ok := by
  obtain ⟨c, s, kind, key, b, id⟩ := y
  obtain ⟨_, _, rfl, ⟨rfl, h1⟩, _, _, rfl, ⟨rfl, h2⟩, _, _, rfl, ⟨rfl, h3⟩, _, _, rfl, ⟨rfl, h4⟩, _, _, rfl, ⟨rfl, h5, h6⟩, rfl, h7⟩ := h
  refine ⟨⟨c, s, kind, key, b.toNat, id⟩, ?_, ?_, h1, h2, h3, h7, ?_, h4⟩
  · show (c, s, kind, key, b, id) = (c, s, kind, key, ((b.toNat : Nat) : Int), id)
    rw [Int.toNat_of_nonneg h5]
  · show [Value.int .i64 c, .int .i64 s, .int .i64 kind, .string key, .int .u64 b, .int .i64 id] = [.int .i64 c, .int .i64 s, .int .i64 kind, .string key, .int .u64 ((b.toNat : Nat) : Int), .int .i64 id]
    rw [Int.toNat_of_nonneg h5]
  · show b.toNat < _
    dsimp only at h6
    omega
theorem spot_open {w : World} {y : Int × Int × Int} {cs : List Value} (h : shSpot.E w y cs) : ∃ e v s, y = (e, v, s) ∧ cs = [.int .i64 e, .int .i64 v, .int .i64 s] ∧ (i64 e ∧ i64 v ∧ i64 s) := by
  obtain ⟨e, v, s⟩ := y
  obtain ⟨_, _, rfl, ⟨rfl, h1⟩, _, _, rfl, ⟨rfl, h2⟩, rfl, h3⟩ := h
  exact ⟨e, v, s, rfl, rfl, h1, h2, h3⟩
theorem case_open {w : World} {y : (Int × Int × Int) × (Int × Int × Int × ByteArray × Int × Int)} {cs : List Value} (h : shCase.E w y cs) : ∃ e v s, ∃ r : Rq, y = ((e, v, s), r.t) ∧ cs = [.int .i64 e, .int .i64 v, .int .i64 s, .int .i64 r.c, .int .i64 r.s, .int .i64 r.kind, .string r.key, .int .u64 r.b, .int .i64 r.id] ∧ (i64 e ∧ i64 v ∧ i64 s) ∧ r.Ok := by
  obtain ⟨p, a⟩ := y
  obtain ⟨_, _, rfl, h1, h2⟩ := h
  obtain ⟨e, v, s, rfl, rfl, h3⟩ := spot_open h1
  obtain ⟨r, h4, rfl, h5⟩ := ask_open h2
  dsimp only at h4
  subst h4
  exact ⟨e, v, s, r, rfl, rfl, h3, h5⟩
end Go.Proofs.Ytnmhmbfhaiaaoaa
