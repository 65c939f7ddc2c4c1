/-
  No cell of these rows narrows 'for every input' (looked for: loops, veiled, ifaces, maps, wideKeys, modest, calm, conditions, laid).
  DERIVED. THE GIVEN ROWS OF THIS SEAT. 6 by the template 'for every input the law returns true; each argument reads behind the call as it read before'; 0 by the template 'total and deterministic' (their statements: YtdeomokhjmnfhaaTotals.lean).
  GIVEN WITH THE SEED: the statements are not yours to turn. If you find one false, say at which input.
  Laid BY PROGRAM, IN A SANDBOX (cutbox-rows.mjs): the forced cells as the released guide's own fill.sh prints them over the translation efadbd0a169313f9… (all of the seat's roots in one cut). By AI agents, Wed Nov 11 2026. No macro, syntax, notation, axiom, sorry.
-/
import Derived.Test.YtdeomokhjmnfhaaChecked
import GoSem.Claim
import GoSem.ClaimJoined
import GoSem.ClaimMapViews
import Derived.JoinedTies
import Derived.KernelRfl
namespace Go.Proofs.Ytdeomokhjmnfhaa
/- THE CELL 'sum', in the pinned program and in every row, IS THE sha256 OF THE DUMP (.gsa) THAT YtdeomokhjmnfhaaProg.lean LOADS. Nothing in Lean hashes anything: it is a label: what it is worth is what the hold of that sum in a sandbox is worth. -/
noncomputable def Try.pinned : Pinned := { name := "ytdeomokhjmnfhaa", sum := "efadbd0a169313f98aa3553811b126df5f97eda39485b83bbddb45b9cb953f41", checked := Try.checked }
namespace Rows
def none {H : Type} : Left H := { results := [], args := [] }

/-- 'witanlaw10.LineageValid': WHATEVER THE INPUT: true; the input reads as it did. -/
def lineageValidSpec : ChangeSpec := { name := "lineageValid", fn := fun _ => fun
  | [d1, d2] => { results := [.lit (.bool true)], args := [d1, d2] }
  | _ => none }
def lineageValidRow : OpenClaim := { program := "ytdeomokhjmnfhaa", sum := "efadbd0a169313f98aa3553811b126df5f97eda39485b83bbddb45b9cb953f41", func := "witan/witanlaw10.LineageValid", spec := "lineageValid", apart := false }
def LineageValidSaid : Prop := lineageValidRow.holds Try.pinned (OpenSpec.ofChange lineageValidSpec)

/-- ITS FALSE NEIGHBOUR: 'it returns false'. Refute it at one input. -/
def lineageValidWrong : ChangeSpec := { name := "lineageValid", fn := fun _ => fun
  | [d1, d2] => { results := [.lit (.bool false)], args := [d1, d2] }
  | _ => none }
def LineageValidWrongFalsely : Prop := lineageValidRow.holds Try.pinned (OpenSpec.ofChange lineageValidWrong)

/-- 'witanlaw10.LineageGrows': WHATEVER THE INPUT: true; the input reads as it did. -/
def lineageGrowsSpec : ChangeSpec := { name := "lineageGrows", fn := fun _ => fun
  | [d1, d2] => { results := [.lit (.bool true)], args := [d1, d2] }
  | _ => none }
def lineageGrowsRow : OpenClaim := { program := "ytdeomokhjmnfhaa", sum := "efadbd0a169313f98aa3553811b126df5f97eda39485b83bbddb45b9cb953f41", func := "witan/witanlaw10.LineageGrows", spec := "lineageGrows", apart := false }
def LineageGrowsSaid : Prop := lineageGrowsRow.holds Try.pinned (OpenSpec.ofChange lineageGrowsSpec)

/-- ITS FALSE NEIGHBOUR: 'it returns false'. Refute it at one input. -/
def lineageGrowsWrong : ChangeSpec := { name := "lineageGrows", fn := fun _ => fun
  | [d1, d2] => { results := [.lit (.bool false)], args := [d1, d2] }
  | _ => none }
def LineageGrowsWrongFalsely : Prop := lineageGrowsRow.holds Try.pinned (OpenSpec.ofChange lineageGrowsWrong)

/-- 'witanlaw10.LineageTeaches': WHATEVER THE INPUT: true; the input reads as it did. -/
def lineageTeachesSpec : ChangeSpec := { name := "lineageTeaches", fn := fun _ => fun
  | [d1, d2, d3] => { results := [.lit (.bool true)], args := [d1, d2, d3] }
  | _ => none }
def lineageTeachesRow : OpenClaim := { program := "ytdeomokhjmnfhaa", sum := "efadbd0a169313f98aa3553811b126df5f97eda39485b83bbddb45b9cb953f41", func := "witan/witanlaw10.LineageTeaches", spec := "lineageTeaches", apart := false }
def LineageTeachesSaid : Prop := lineageTeachesRow.holds Try.pinned (OpenSpec.ofChange lineageTeachesSpec)

/-- ITS FALSE NEIGHBOUR: 'it returns false'. Refute it at one input. -/
def lineageTeachesWrong : ChangeSpec := { name := "lineageTeaches", fn := fun _ => fun
  | [d1, d2, d3] => { results := [.lit (.bool false)], args := [d1, d2, d3] }
  | _ => none }
def LineageTeachesWrongFalsely : Prop := lineageTeachesRow.holds Try.pinned (OpenSpec.ofChange lineageTeachesWrong)

/-- 'witanlaw10.LineagePlays': WHATEVER THE INPUT: true; the input reads as it did. -/
def lineagePlaysSpec : ChangeSpec := { name := "lineagePlays", fn := fun _ => fun
  | [d1, d2] => { results := [.lit (.bool true)], args := [d1, d2] }
  | _ => none }
def lineagePlaysRow : OpenClaim := { program := "ytdeomokhjmnfhaa", sum := "efadbd0a169313f98aa3553811b126df5f97eda39485b83bbddb45b9cb953f41", func := "witan/witanlaw10.LineagePlays", spec := "lineagePlays", apart := false }
def LineagePlaysSaid : Prop := lineagePlaysRow.holds Try.pinned (OpenSpec.ofChange lineagePlaysSpec)

/-- ITS FALSE NEIGHBOUR: 'it returns false'. Refute it at one input. -/
def lineagePlaysWrong : ChangeSpec := { name := "lineagePlays", fn := fun _ => fun
  | [d1, d2] => { results := [.lit (.bool false)], args := [d1, d2] }
  | _ => none }
def LineagePlaysWrongFalsely : Prop := lineagePlaysRow.holds Try.pinned (OpenSpec.ofChange lineagePlaysWrong)

/-- 'witanlaw10.LineageOwn': WHATEVER THE INPUT: true; the input reads as it did. -/
def lineageOwnSpec : ChangeSpec := { name := "lineageOwn", fn := fun _ => fun
  | [d1, d2] => { results := [.lit (.bool true)], args := [d1, d2] }
  | _ => none }
def lineageOwnRow : OpenClaim := { program := "ytdeomokhjmnfhaa", sum := "efadbd0a169313f98aa3553811b126df5f97eda39485b83bbddb45b9cb953f41", func := "witan/witanlaw10.LineageOwn", spec := "lineageOwn", apart := false }
def LineageOwnSaid : Prop := lineageOwnRow.holds Try.pinned (OpenSpec.ofChange lineageOwnSpec)

/-- ITS FALSE NEIGHBOUR: 'it returns false'. Refute it at one input. -/
def lineageOwnWrong : ChangeSpec := { name := "lineageOwn", fn := fun _ => fun
  | [d1, d2] => { results := [.lit (.bool false)], args := [d1, d2] }
  | _ => none }
def LineageOwnWrongFalsely : Prop := lineageOwnRow.holds Try.pinned (OpenSpec.ofChange lineageOwnWrong)

/-- 'witanlaw10.LineageNil': WHATEVER THE INPUT: true; the input reads as it did. -/
def lineageNilSpec : ChangeSpec := { name := "lineageNil", fn := fun _ => fun
  | [d1, d2] => { results := [.lit (.bool true)], args := [d1, d2] }
  | _ => none }
def lineageNilRow : OpenClaim := { program := "ytdeomokhjmnfhaa", sum := "efadbd0a169313f98aa3553811b126df5f97eda39485b83bbddb45b9cb953f41", func := "witan/witanlaw10.LineageNil", spec := "lineageNil", apart := false }
def LineageNilSaid : Prop := lineageNilRow.holds Try.pinned (OpenSpec.ofChange lineageNilSpec)

/-- ITS FALSE NEIGHBOUR: 'it returns false'. Refute it at one input. -/
def lineageNilWrong : ChangeSpec := { name := "lineageNil", fn := fun _ => fun
  | [d1, d2] => { results := [.lit (.bool false)], args := [d1, d2] }
  | _ => none }
def LineageNilWrongFalsely : Prop := lineageNilRow.holds Try.pinned (OpenSpec.ofChange lineageNilWrong)

/- THE SECOND FORM. 'bulk': how many values and letters a reading holds, each counted each time it is reached (what is shared counts as often as it is met; a slice's spare places count too). A statement '..UptoSaid' is the law's where the arguments, and the package variables that the reading takes, are together of bulk at most 1048576: NARROWER than '..Said'. Prove '..Said' where nothing that the law and all that it calls make is longer than what came in: it says more and counts as full. Else prove '..UptoSaid'. A law counts once. -/
mutual
def uptoBulk {H : Type} : DataW H → Nat
  | .lit (.string bytes) => bytes.length + 1
  | .lit _ => 1
  | .nil => 1
  | .ptr d => uptoBulk d + 1
  | .slice elems spare => uptoBulkAll elems + uptoBulkAll spare + 1
  | .agg parts => uptoBulkAll parts + 1
  | .iface _ d => uptoBulk d + 1
  | .map entries => uptoBulkEntries entries + 1
  | .held _ => 1
def uptoBulkAll {H : Type} : List (DataW H) → Nat
  | [] => 0
  | d :: r => uptoBulk d + uptoBulkAll r
def uptoBulkEntries {H : Type} : List (Lit × DataW H) → Nat
  | [] => 0
  | x :: r => uptoBulkEntry x + uptoBulkEntries r
def uptoBulkEntry {H : Type} : Lit × DataW H → Nat
  | (.string bytes, d) => bytes.length + uptoBulk d + 1
  | (_, d) => uptoBulk d + 1
 end
def uptoSmall : (H : Type) → List (DataW H) → Bool := fun _ ds => decide (uptoBulkAll ds ≤ 1048576)
def OpenSpec.upto (s : _root_.Go.ChangeSpec) : _root_.Go.OpenSpec := { _root_.Go.OpenSpec.ofChange s with cond := some uptoSmall }

/-- 'witanlaw10.LineageValid', WHERE WHAT IT READS IS OF BULK AT MOST 1048576: true; the input reads as it did. -/
def lineageValidUptoRow : OpenClaim := { program := "ytdeomokhjmnfhaa", sum := "efadbd0a169313f98aa3553811b126df5f97eda39485b83bbddb45b9cb953f41", func := "witan/witanlaw10.LineageValid", spec := "lineageValid", apart := false, narrowed := true }
def LineageValidUptoSaid : Prop := lineageValidUptoRow.holds Try.pinned (OpenSpec.upto lineageValidSpec)

/-- 'witanlaw10.LineageGrows', WHERE WHAT IT READS IS OF BULK AT MOST 1048576: true; the input reads as it did. -/
def lineageGrowsUptoRow : OpenClaim := { program := "ytdeomokhjmnfhaa", sum := "efadbd0a169313f98aa3553811b126df5f97eda39485b83bbddb45b9cb953f41", func := "witan/witanlaw10.LineageGrows", spec := "lineageGrows", apart := false, narrowed := true }
def LineageGrowsUptoSaid : Prop := lineageGrowsUptoRow.holds Try.pinned (OpenSpec.upto lineageGrowsSpec)

/-- 'witanlaw10.LineageTeaches', WHERE WHAT IT READS IS OF BULK AT MOST 1048576: true; the input reads as it did. -/
def lineageTeachesUptoRow : OpenClaim := { program := "ytdeomokhjmnfhaa", sum := "efadbd0a169313f98aa3553811b126df5f97eda39485b83bbddb45b9cb953f41", func := "witan/witanlaw10.LineageTeaches", spec := "lineageTeaches", apart := false, narrowed := true }
def LineageTeachesUptoSaid : Prop := lineageTeachesUptoRow.holds Try.pinned (OpenSpec.upto lineageTeachesSpec)

/-- 'witanlaw10.LineagePlays', WHERE WHAT IT READS IS OF BULK AT MOST 1048576: true; the input reads as it did. -/
def lineagePlaysUptoRow : OpenClaim := { program := "ytdeomokhjmnfhaa", sum := "efadbd0a169313f98aa3553811b126df5f97eda39485b83bbddb45b9cb953f41", func := "witan/witanlaw10.LineagePlays", spec := "lineagePlays", apart := false, narrowed := true }
def LineagePlaysUptoSaid : Prop := lineagePlaysUptoRow.holds Try.pinned (OpenSpec.upto lineagePlaysSpec)

/-- 'witanlaw10.LineageOwn', WHERE WHAT IT READS IS OF BULK AT MOST 1048576: true; the input reads as it did. -/
def lineageOwnUptoRow : OpenClaim := { program := "ytdeomokhjmnfhaa", sum := "efadbd0a169313f98aa3553811b126df5f97eda39485b83bbddb45b9cb953f41", func := "witan/witanlaw10.LineageOwn", spec := "lineageOwn", apart := false, narrowed := true }
def LineageOwnUptoSaid : Prop := lineageOwnUptoRow.holds Try.pinned (OpenSpec.upto lineageOwnSpec)

/-- 'witanlaw10.LineageNil', WHERE WHAT IT READS IS OF BULK AT MOST 1048576: true; the input reads as it did. -/
def lineageNilUptoRow : OpenClaim := { program := "ytdeomokhjmnfhaa", sum := "efadbd0a169313f98aa3553811b126df5f97eda39485b83bbddb45b9cb953f41", func := "witan/witanlaw10.LineageNil", spec := "lineageNil", apart := false, narrowed := true }
def LineageNilUptoSaid : Prop := lineageNilUptoRow.holds Try.pinned (OpenSpec.upto lineageNilSpec)

end Rows
end Go.Proofs.Ytdeomokhjmnfhaa
