/-
  No cell of these rows narrows 'for every input' (looked for: loops, veiled, ifaces, maps, wideKeys, modest, calm, conditions, laid).
  DERIVED. THE GIVEN ROWS OF THIS SEAT. 7 by the template 'for every input the law returns true; each argument reads behind the call as it read before'; 0 by the template 'total and deterministic' (their statements: YtnmhmbfhaiaaoaaTotals.lean).
  GIVEN WITH THE SEED: the statements are not yours to turn. If you find one false, say at which input.
  Laid BY PROGRAM, IN A SANDBOX (cutbox-rows.mjs): the forced cells as the released guide's own fill.sh prints them over the translation 6be060df6e89fcd1… (all of the seat's roots in one cut). By AI agents, Wed Nov 11 2026. No macro, syntax, notation, axiom, sorry.
-/
import Derived.Test.YtnmhmbfhaiaaoaaChecked
import GoSem.Claim
import GoSem.ClaimJoined
import GoSem.ClaimMapViews
import Derived.JoinedTies
import Derived.KernelRfl
namespace Go.Proofs.Ytnmhmbfhaiaaoaa
/- THE CELL 'sum', in the pinned program and in every row, IS THE sha256 OF THE DUMP (.gsa) THAT YtnmhmbfhaiaaoaaProg.lean LOADS. Nothing in Lean hashes anything: it is a label: what it is worth is what the hold of that sum in a sandbox is worth. -/
noncomputable def Try.pinned : Pinned := { name := "ytnmhmbfhaiaaoaa", sum := "6be060df6e89fcd117f2a2dae37c02805e370f773170ec04203924b8652cb879", checked := Try.checked }
namespace Rows
def none {H : Type} : Left H := { results := [], args := [] }

/-- 'witanlaw11.DeedsTexts': WHATEVER THE INPUT: true; the input reads as it did. -/
def deedsTextsSpec : ChangeSpec := { name := "deedsTexts", fn := fun _ => fun
  | [d1, d2] => { results := [.lit (.bool true)], args := [d1, d2] }
  | _ => none }
def deedsTextsRow : OpenClaim := { program := "ytnmhmbfhaiaaoaa", sum := "6be060df6e89fcd117f2a2dae37c02805e370f773170ec04203924b8652cb879", func := "witan/witanlaw11.DeedsTexts", spec := "deedsTexts", inPlace := ["math.Float64frombits", "math.Float64bits"], unfollowed := true, recurses := true, apart := false }
def DeedsTextsSaid : Prop := deedsTextsRow.holds Try.pinned (OpenSpec.ofChange deedsTextsSpec)

/-- ITS FALSE NEIGHBOUR: 'it returns false'. Refute it at one input. -/
def deedsTextsWrong : ChangeSpec := { name := "deedsTexts", fn := fun _ => fun
  | [d1, d2] => { results := [.lit (.bool false)], args := [d1, d2] }
  | _ => none }
def DeedsTextsWrongFalsely : Prop := deedsTextsRow.holds Try.pinned (OpenSpec.ofChange deedsTextsWrong)

/-- 'witanlaw11.DeedsBack': WHATEVER THE INPUT: true; the input reads as it did. -/
def deedsBackSpec : ChangeSpec := { name := "deedsBack", fn := fun _ => fun
  | [d1, d2] => { results := [.lit (.bool true)], args := [d1, d2] }
  | _ => none }
def deedsBackRow : OpenClaim := { program := "ytnmhmbfhaiaaoaa", sum := "6be060df6e89fcd117f2a2dae37c02805e370f773170ec04203924b8652cb879", func := "witan/witanlaw11.DeedsBack", spec := "deedsBack", inPlace := ["math.Float64frombits", "math.Float64bits"], unfollowed := true, recurses := true, apart := false }
def DeedsBackSaid : Prop := deedsBackRow.holds Try.pinned (OpenSpec.ofChange deedsBackSpec)

/-- ITS FALSE NEIGHBOUR: 'it returns false'. Refute it at one input. -/
def deedsBackWrong : ChangeSpec := { name := "deedsBack", fn := fun _ => fun
  | [d1, d2] => { results := [.lit (.bool false)], args := [d1, d2] }
  | _ => none }
def DeedsBackWrongFalsely : Prop := deedsBackRow.holds Try.pinned (OpenSpec.ofChange deedsBackWrong)

/-- 'witanlaw11.DeedsUnlike': WHATEVER THE INPUT: true; the input reads as it did. -/
def deedsUnlikeSpec : ChangeSpec := { name := "deedsUnlike", fn := fun _ => fun
  | [d1, d2] => { results := [.lit (.bool true)], args := [d1, d2] }
  | _ => none }
def deedsUnlikeRow : OpenClaim := { program := "ytnmhmbfhaiaaoaa", sum := "6be060df6e89fcd117f2a2dae37c02805e370f773170ec04203924b8652cb879", func := "witan/witanlaw11.DeedsUnlike", spec := "deedsUnlike", inPlace := ["math.Float64frombits", "math.Float64bits"], unfollowed := true, recurses := true, apart := false }
def DeedsUnlikeSaid : Prop := deedsUnlikeRow.holds Try.pinned (OpenSpec.ofChange deedsUnlikeSpec)

/-- ITS FALSE NEIGHBOUR: 'it returns false'. Refute it at one input. -/
def deedsUnlikeWrong : ChangeSpec := { name := "deedsUnlike", fn := fun _ => fun
  | [d1, d2] => { results := [.lit (.bool false)], args := [d1, d2] }
  | _ => none }
def DeedsUnlikeWrongFalsely : Prop := deedsUnlikeRow.holds Try.pinned (OpenSpec.ofChange deedsUnlikeWrong)

/-- 'witanlaw11.DeedsReads': WHATEVER THE INPUT: true; the input reads as it did. -/
def deedsReadsSpec : ChangeSpec := { name := "deedsReads", fn := fun _ => fun
  | [d] => { results := [.lit (.bool true)], args := [d] }
  | _ => none }
def deedsReadsRow : OpenClaim := { program := "ytnmhmbfhaiaaoaa", sum := "6be060df6e89fcd117f2a2dae37c02805e370f773170ec04203924b8652cb879", func := "witan/witanlaw11.DeedsReads", spec := "deedsReads", inPlace := ["math.Float64frombits", "math.Float64bits"], unfollowed := true, recurses := true, apart := false }
def DeedsReadsSaid : Prop := deedsReadsRow.holds Try.pinned (OpenSpec.ofChange deedsReadsSpec)

/-- ITS FALSE NEIGHBOUR: 'it returns false'. Refute it at one input. -/
def deedsReadsWrong : ChangeSpec := { name := "deedsReads", fn := fun _ => fun
  | [d] => { results := [.lit (.bool false)], args := [d] }
  | _ => none }
def DeedsReadsWrongFalsely : Prop := deedsReadsRow.holds Try.pinned (OpenSpec.ofChange deedsReadsWrong)

/-- 'witanlaw11.DeedsResults': WHATEVER THE INPUT: true; the input reads as it did. -/
def deedsResultsSpec : ChangeSpec := { name := "deedsResults", fn := fun _ => fun
  | [d1, d2, d3] => { results := [.lit (.bool true)], args := [d1, d2, d3] }
  | _ => none }
def deedsResultsRow : OpenClaim := { program := "ytnmhmbfhaiaaoaa", sum := "6be060df6e89fcd117f2a2dae37c02805e370f773170ec04203924b8652cb879", func := "witan/witanlaw11.DeedsResults", spec := "deedsResults", inPlace := ["math.Float64frombits", "math.Float64bits"], unfollowed := true, recurses := true, apart := false }
def DeedsResultsSaid : Prop := deedsResultsRow.holds Try.pinned (OpenSpec.ofChange deedsResultsSpec)

/-- ITS FALSE NEIGHBOUR: 'it returns false'. Refute it at one input. -/
def deedsResultsWrong : ChangeSpec := { name := "deedsResults", fn := fun _ => fun
  | [d1, d2, d3] => { results := [.lit (.bool false)], args := [d1, d2, d3] }
  | _ => none }
def DeedsResultsWrongFalsely : Prop := deedsResultsRow.holds Try.pinned (OpenSpec.ofChange deedsResultsWrong)

/-- 'witanlaw11.DeedsSigned': WHATEVER THE INPUT: true; the input reads as it did. -/
def deedsSignedSpec : ChangeSpec := { name := "deedsSigned", fn := fun _ => fun
  | [d1, d2, d3] => { results := [.lit (.bool true)], args := [d1, d2, d3] }
  | _ => none }
def deedsSignedRow : OpenClaim := { program := "ytnmhmbfhaiaaoaa", sum := "6be060df6e89fcd117f2a2dae37c02805e370f773170ec04203924b8652cb879", func := "witan/witanlaw11.DeedsSigned", spec := "deedsSigned", inPlace := ["math.Float64frombits", "math.Float64bits"], unfollowed := true, recurses := true, apart := false }
def DeedsSignedSaid : Prop := deedsSignedRow.holds Try.pinned (OpenSpec.ofChange deedsSignedSpec)

/-- ITS FALSE NEIGHBOUR: 'it returns false'. Refute it at one input. -/
def deedsSignedWrong : ChangeSpec := { name := "deedsSigned", fn := fun _ => fun
  | [d1, d2, d3] => { results := [.lit (.bool false)], args := [d1, d2, d3] }
  | _ => none }
def DeedsSignedWrongFalsely : Prop := deedsSignedRow.holds Try.pinned (OpenSpec.ofChange deedsSignedWrong)

/-- 'witanlaw11.DeedsApart': WHATEVER THE INPUT: true; the input reads as it did. -/
def deedsApartSpec : ChangeSpec := { name := "deedsApart", fn := fun _ => fun
  | [d1, d2, d3] => { results := [.lit (.bool true)], args := [d1, d2, d3] }
  | _ => none }
def deedsApartRow : OpenClaim := { program := "ytnmhmbfhaiaaoaa", sum := "6be060df6e89fcd117f2a2dae37c02805e370f773170ec04203924b8652cb879", func := "witan/witanlaw11.DeedsApart", spec := "deedsApart", inPlace := ["math.Float64frombits", "math.Float64bits"], unfollowed := true, recurses := true, apart := false }
def DeedsApartSaid : Prop := deedsApartRow.holds Try.pinned (OpenSpec.ofChange deedsApartSpec)

/-- ITS FALSE NEIGHBOUR: 'it returns false'. Refute it at one input. -/
def deedsApartWrong : ChangeSpec := { name := "deedsApart", fn := fun _ => fun
  | [d1, d2, d3] => { results := [.lit (.bool false)], args := [d1, d2, d3] }
  | _ => none }
def DeedsApartWrongFalsely : Prop := deedsApartRow.holds Try.pinned (OpenSpec.ofChange deedsApartWrong)

/- THE SECOND FORM. 'bulk': how many values and letters a reading holds, each counted each time it is reached (what is shared counts as often as it is met; a slice's spare places count too). A statement '..UptoSaid' is the law's where the arguments, and the package variables that the reading takes, are together of bulk at most 1048576: NARROWER than '..Said'. Prove '..Said' where nothing that the law and all that it calls make is longer than what came in: it says more and counts as full. Else prove '..UptoSaid'. A law counts once. -/
mutual
def uptoBulk {H : Type} : DataW H → Nat
  | .lit (.string bytes) => bytes.length + 1
  | .lit _ => 1
  | .nil => 1
  | .ptr d => uptoBulk d + 1
  | .slice elems spare => uptoBulkAll elems + uptoBulkAll spare + 1
  | .agg parts => uptoBulkAll parts + 1
  | .iface _ d => uptoBulk d + 1
  | .map entries => uptoBulkEntries entries + 1
  | .held _ => 1
def uptoBulkAll {H : Type} : List (DataW H) → Nat
  | [] => 0
  | d :: r => uptoBulk d + uptoBulkAll r
def uptoBulkEntries {H : Type} : List (Lit × DataW H) → Nat
  | [] => 0
  | x :: r => uptoBulkEntry x + uptoBulkEntries r
def uptoBulkEntry {H : Type} : Lit × DataW H → Nat
  | (.string bytes, d) => bytes.length + uptoBulk d + 1
  | (_, d) => uptoBulk d + 1
 end
def uptoSmall : (H : Type) → List (DataW H) → Bool := fun _ ds => decide (uptoBulkAll ds ≤ 1048576)
def OpenSpec.upto (s : _root_.Go.ChangeSpec) : _root_.Go.OpenSpec := { _root_.Go.OpenSpec.ofChange s with cond := some uptoSmall }

/-- 'witanlaw11.DeedsTexts', WHERE WHAT IT READS IS OF BULK AT MOST 1048576: true; the input reads as it did. -/
def deedsTextsUptoRow : OpenClaim := { program := "ytnmhmbfhaiaaoaa", sum := "6be060df6e89fcd117f2a2dae37c02805e370f773170ec04203924b8652cb879", func := "witan/witanlaw11.DeedsTexts", spec := "deedsTexts", inPlace := ["math.Float64frombits", "math.Float64bits"], unfollowed := true, recurses := true, apart := false, narrowed := true }
def DeedsTextsUptoSaid : Prop := deedsTextsUptoRow.holds Try.pinned (OpenSpec.upto deedsTextsSpec)

/-- 'witanlaw11.DeedsBack', WHERE WHAT IT READS IS OF BULK AT MOST 1048576: true; the input reads as it did. -/
def deedsBackUptoRow : OpenClaim := { program := "ytnmhmbfhaiaaoaa", sum := "6be060df6e89fcd117f2a2dae37c02805e370f773170ec04203924b8652cb879", func := "witan/witanlaw11.DeedsBack", spec := "deedsBack", inPlace := ["math.Float64frombits", "math.Float64bits"], unfollowed := true, recurses := true, apart := false, narrowed := true }
def DeedsBackUptoSaid : Prop := deedsBackUptoRow.holds Try.pinned (OpenSpec.upto deedsBackSpec)

/-- 'witanlaw11.DeedsUnlike', WHERE WHAT IT READS IS OF BULK AT MOST 1048576: true; the input reads as it did. -/
def deedsUnlikeUptoRow : OpenClaim := { program := "ytnmhmbfhaiaaoaa", sum := "6be060df6e89fcd117f2a2dae37c02805e370f773170ec04203924b8652cb879", func := "witan/witanlaw11.DeedsUnlike", spec := "deedsUnlike", inPlace := ["math.Float64frombits", "math.Float64bits"], unfollowed := true, recurses := true, apart := false, narrowed := true }
def DeedsUnlikeUptoSaid : Prop := deedsUnlikeUptoRow.holds Try.pinned (OpenSpec.upto deedsUnlikeSpec)

/-- 'witanlaw11.DeedsReads', WHERE WHAT IT READS IS OF BULK AT MOST 1048576: true; the input reads as it did. -/
def deedsReadsUptoRow : OpenClaim := { program := "ytnmhmbfhaiaaoaa", sum := "6be060df6e89fcd117f2a2dae37c02805e370f773170ec04203924b8652cb879", func := "witan/witanlaw11.DeedsReads", spec := "deedsReads", inPlace := ["math.Float64frombits", "math.Float64bits"], unfollowed := true, recurses := true, apart := false, narrowed := true }
def DeedsReadsUptoSaid : Prop := deedsReadsUptoRow.holds Try.pinned (OpenSpec.upto deedsReadsSpec)

/-- 'witanlaw11.DeedsResults', WHERE WHAT IT READS IS OF BULK AT MOST 1048576: true; the input reads as it did. -/
def deedsResultsUptoRow : OpenClaim := { program := "ytnmhmbfhaiaaoaa", sum := "6be060df6e89fcd117f2a2dae37c02805e370f773170ec04203924b8652cb879", func := "witan/witanlaw11.DeedsResults", spec := "deedsResults", inPlace := ["math.Float64frombits", "math.Float64bits"], unfollowed := true, recurses := true, apart := false, narrowed := true }
def DeedsResultsUptoSaid : Prop := deedsResultsUptoRow.holds Try.pinned (OpenSpec.upto deedsResultsSpec)

/-- 'witanlaw11.DeedsSigned', WHERE WHAT IT READS IS OF BULK AT MOST 1048576: true; the input reads as it did. -/
def deedsSignedUptoRow : OpenClaim := { program := "ytnmhmbfhaiaaoaa", sum := "6be060df6e89fcd117f2a2dae37c02805e370f773170ec04203924b8652cb879", func := "witan/witanlaw11.DeedsSigned", spec := "deedsSigned", inPlace := ["math.Float64frombits", "math.Float64bits"], unfollowed := true, recurses := true, apart := false, narrowed := true }
def DeedsSignedUptoSaid : Prop := deedsSignedUptoRow.holds Try.pinned (OpenSpec.upto deedsSignedSpec)

/-- 'witanlaw11.DeedsApart', WHERE WHAT IT READS IS OF BULK AT MOST 1048576: true; the input reads as it did. -/
def deedsApartUptoRow : OpenClaim := { program := "ytnmhmbfhaiaaoaa", sum := "6be060df6e89fcd117f2a2dae37c02805e370f773170ec04203924b8652cb879", func := "witan/witanlaw11.DeedsApart", spec := "deedsApart", inPlace := ["math.Float64frombits", "math.Float64bits"], unfollowed := true, recurses := true, apart := false, narrowed := true }
def DeedsApartUptoSaid : Prop := deedsApartUptoRow.holds Try.pinned (OpenSpec.upto deedsApartSpec)

end Rows
end Go.Proofs.Ytnmhmbfhaiaaoaa
