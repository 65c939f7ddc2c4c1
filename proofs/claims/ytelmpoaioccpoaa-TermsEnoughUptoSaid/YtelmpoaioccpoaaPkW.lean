
/- Walks of the program's writer: New, fail, add, Byte, Word, Done. -/
import Derived.Test.YtelmpoaioccpoaaRows
import Derived.Test.YtelmpoaioccpoaaPkM
import Derived.Deep.QuietTactic
import Derived.BigQuiet
namespace Go.Proofs.Ytelmpoaioccpoaa
set_option maxRecDepth 100000
open Go.RowKit
set_option linter.unusedVariables false

theorem info_u8 : (Try.prog.info? 5).map (fun i => (i.zero, i.size, i.bytes)) = some (some (.int .u8 0), 1, 1) := by kernel_rfl


/-- Bytes that a slice holds. -/
def BytesAt (w : World) (xo : Option Addr) (m c : Nat) (bs : List UInt8) : Prop :=
  bs.length = m ∧ (xo = none → m = 0 ∧ c = 0) ∧ ∀ ad, xo = some ad → ∀ j u, (byV bs)[j]? = some u → w.cell? (ad.add j) = some u



/-- What fits the room is not too much for a slice. -/
def Fits (s : W) (m : Nat) : Prop := (m : Int) ≤ s.room → s.out.length + m ≤ 140737488355328
theorem fits_of {s : W} {m : Nat} (h : s.out.length + m ≤ 140737488355328) : Fits s m := fun _ => h

end Go.Proofs.Ytelmpoaioccpoaa

/- Walks of the program's writer: Byte, Word, Done. -/
namespace Go.Proofs.Ytelmpoaioccpoaa
set_option maxRecDepth 100000
open Go.RowKit
set_option linter.unusedVariables false


theorem bytes_new (w : World) (bs : List UInt8) (vs : Array Value) (hv : vs = (byV bs).toArray) : BytesAt (w.alloc (.cells vs 5)) (some ⟨w.heap.size, 0, none⟩) bs.length bs.length bs := by
  subst hv
  refine ⟨rfl, fun h => by (cases h), fun ad had j u hu => ?_⟩
  injection had with had
  subst had
  rw [Addr.add_lit, World.cell?_alloc_at _ _ _ _ rfl]
  simpa using hu

theorem be1 {n : Int} (h0 : 0 ≤ n) (h1 : n ≤ 255) : byV (beN n.toNat 1) = [.int .u8 n] := by
  simp [byV, beN]; omega
theorem be2 {n : Int} (h0 : 0 ≤ n) (h1 : n ≤ 65535) : byV (beN n.toNat 2) = [.int .u8 (n / 256), .int .u8 (n % 256)] := by
  simp [byV, beN]; omega

/-- What a writer's call asks: room that is an int, and not too many bytes. -/
def WOk (s : W) : Prop := (-9223372036854775808 ≤ s.room ∧ s.room ≤ 9223372036854775807) ∧ -9223372036854775808 ≤ s.err ∧ s.err ≤ 9223372036854775807

end Go.Proofs.Ytelmpoaioccpoaa

/- Walks of the program's writer: Word, Done. -/
namespace Go.Proofs.Ytelmpoaioccpoaa
set_option maxRecDepth 100000
open Go.RowKit
set_option linter.unusedVariables false


def doneS (s : W) : ByteArray := if s.err = 0 then ⟨s.out.toArray⟩ else ⟨#[]⟩

end Go.Proofs.Ytelmpoaioccpoaa
