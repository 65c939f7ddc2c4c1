/-
  No cell of these rows narrows 'for every input' (looked for: loops, veiled, ifaces, maps, wideKeys, modest, calm, conditions, laid).
  DERIVED. THE GIVEN ROWS OF THIS SEAT. 8 by the template 'for every input the law returns true; each argument reads behind the call as it read before'; 0 by the template 'total and deterministic' (their statements: YtgkcgfckhmplaaaTotals.lean).
  GIVEN WITH THE SEED: the statements are not yours to turn. If you find one false, say at which input.
  Laid BY PROGRAM, IN A SANDBOX (cutbox-rows.mjs): the forced cells as the released guide's own fill.sh prints them over the translation 6b065f1347d8aa14… (all of the seat's roots in one cut). By AI agents, Wed Nov 11 2026. No macro, syntax, notation, axiom, sorry.
-/
import Derived.Test.YtgkcgfckhmplaaaChecked
import GoSem.Claim
import GoSem.ClaimJoined
import GoSem.ClaimMapViews
import Derived.JoinedTies
import Derived.KernelRfl
namespace Go.Proofs.Ytgkcgfckhmplaaa
/- THE CELL 'sum', in the pinned program and in every row, IS THE sha256 OF THE DUMP (.gsa) THAT YtgkcgfckhmplaaaProg.lean LOADS. Nothing in Lean hashes anything: it is a label: what it is worth is what the hold of that sum in a sandbox is worth. -/
noncomputable def Try.pinned : Pinned := { name := "ytgkcgfckhmplaaa", sum := "6b065f1347d8aa14321b9e3ccce4023276658c790f1682dc56d5fda3df1eef58", checked := Try.checked }
namespace Rows
def none {H : Type} : Left H := { results := [], args := [] }

/-- 'witanlaw07.CouncilCounts': WHATEVER THE INPUT: true; the input reads as it did. -/
def councilCountsSpec : ChangeSpec := { name := "councilCounts", fn := fun _ => fun
  | [d] => { results := [.lit (.bool true)], args := [d] }
  | _ => none }
def councilCountsRow : OpenClaim := { program := "ytgkcgfckhmplaaa", sum := "6b065f1347d8aa14321b9e3ccce4023276658c790f1682dc56d5fda3df1eef58", func := "witan/witanlaw07.CouncilCounts", spec := "councilCounts", apart := false }
def CouncilCountsSaid : Prop := councilCountsRow.holds Try.pinned (OpenSpec.ofChange councilCountsSpec)

/-- ITS FALSE NEIGHBOUR: 'it returns false'. Refute it at one input. -/
def councilCountsWrong : ChangeSpec := { name := "councilCounts", fn := fun _ => fun
  | [d] => { results := [.lit (.bool false)], args := [d] }
  | _ => none }
def CouncilCountsWrongFalsely : Prop := councilCountsRow.holds Try.pinned (OpenSpec.ofChange councilCountsWrong)

/-- 'witanlaw07.CouncilMeets': WHATEVER THE INPUT: true; the input reads as it did. -/
def councilMeetsSpec : ChangeSpec := { name := "councilMeets", fn := fun _ => fun
  | [d1, d2, d3] => { results := [.lit (.bool true)], args := [d1, d2, d3] }
  | _ => none }
def councilMeetsRow : OpenClaim := { program := "ytgkcgfckhmplaaa", sum := "6b065f1347d8aa14321b9e3ccce4023276658c790f1682dc56d5fda3df1eef58", func := "witan/witanlaw07.CouncilMeets", spec := "councilMeets", apart := false }
def CouncilMeetsSaid : Prop := councilMeetsRow.holds Try.pinned (OpenSpec.ofChange councilMeetsSpec)

/-- ITS FALSE NEIGHBOUR: 'it returns false'. Refute it at one input. -/
def councilMeetsWrong : ChangeSpec := { name := "councilMeets", fn := fun _ => fun
  | [d1, d2, d3] => { results := [.lit (.bool false)], args := [d1, d2, d3] }
  | _ => none }
def CouncilMeetsWrongFalsely : Prop := councilMeetsRow.holds Try.pinned (OpenSpec.ofChange councilMeetsWrong)

/-- 'witanlaw07.CouncilRight': WHATEVER THE INPUT: true; the input reads as it did. -/
def councilRightSpec : ChangeSpec := { name := "councilRight", fn := fun _ => fun
  | [d1, d2] => { results := [.lit (.bool true)], args := [d1, d2] }
  | _ => none }
def councilRightRow : OpenClaim := { program := "ytgkcgfckhmplaaa", sum := "6b065f1347d8aa14321b9e3ccce4023276658c790f1682dc56d5fda3df1eef58", func := "witan/witanlaw07.CouncilRight", spec := "councilRight", apart := false }
def CouncilRightSaid : Prop := councilRightRow.holds Try.pinned (OpenSpec.ofChange councilRightSpec)

/-- ITS FALSE NEIGHBOUR: 'it returns false'. Refute it at one input. -/
def councilRightWrong : ChangeSpec := { name := "councilRight", fn := fun _ => fun
  | [d1, d2] => { results := [.lit (.bool false)], args := [d1, d2] }
  | _ => none }
def CouncilRightWrongFalsely : Prop := councilRightRow.holds Try.pinned (OpenSpec.ofChange councilRightWrong)

/-- 'witanlaw07.CouncilLeads': WHATEVER THE INPUT: true; the input reads as it did. -/
def councilLeadsSpec : ChangeSpec := { name := "councilLeads", fn := fun _ => fun
  | [d1, d2] => { results := [.lit (.bool true)], args := [d1, d2] }
  | _ => none }
def councilLeadsRow : OpenClaim := { program := "ytgkcgfckhmplaaa", sum := "6b065f1347d8aa14321b9e3ccce4023276658c790f1682dc56d5fda3df1eef58", func := "witan/witanlaw07.CouncilLeads", spec := "councilLeads", apart := false }
def CouncilLeadsSaid : Prop := councilLeadsRow.holds Try.pinned (OpenSpec.ofChange councilLeadsSpec)

/-- ITS FALSE NEIGHBOUR: 'it returns false'. Refute it at one input. -/
def councilLeadsWrong : ChangeSpec := { name := "councilLeads", fn := fun _ => fun
  | [d1, d2] => { results := [.lit (.bool false)], args := [d1, d2] }
  | _ => none }
def CouncilLeadsWrongFalsely : Prop := councilLeadsRow.holds Try.pinned (OpenSpec.ofChange councilLeadsWrong)

/-- 'witanlaw07.CouncilMoves': WHATEVER THE INPUT: true; the input reads as it did. -/
def councilMovesSpec : ChangeSpec := { name := "councilMoves", fn := fun _ => fun
  | [d1, d2] => { results := [.lit (.bool true)], args := [d1, d2] }
  | _ => none }
def councilMovesRow : OpenClaim := { program := "ytgkcgfckhmplaaa", sum := "6b065f1347d8aa14321b9e3ccce4023276658c790f1682dc56d5fda3df1eef58", func := "witan/witanlaw07.CouncilMoves", spec := "councilMoves", apart := false }
def CouncilMovesSaid : Prop := councilMovesRow.holds Try.pinned (OpenSpec.ofChange councilMovesSpec)

/-- ITS FALSE NEIGHBOUR: 'it returns false'. Refute it at one input. -/
def councilMovesWrong : ChangeSpec := { name := "councilMoves", fn := fun _ => fun
  | [d1, d2] => { results := [.lit (.bool false)], args := [d1, d2] }
  | _ => none }
def CouncilMovesWrongFalsely : Prop := councilMovesRow.holds Try.pinned (OpenSpec.ofChange councilMovesWrong)

/-- 'witanlaw07.CouncilBack': WHATEVER THE INPUT: true; the input reads as it did. -/
def councilBackSpec : ChangeSpec := { name := "councilBack", fn := fun _ => fun
  | [d1, d2, d3] => { results := [.lit (.bool true)], args := [d1, d2, d3] }
  | _ => none }
def councilBackRow : OpenClaim := { program := "ytgkcgfckhmplaaa", sum := "6b065f1347d8aa14321b9e3ccce4023276658c790f1682dc56d5fda3df1eef58", func := "witan/witanlaw07.CouncilBack", spec := "councilBack", apart := false }
def CouncilBackSaid : Prop := councilBackRow.holds Try.pinned (OpenSpec.ofChange councilBackSpec)

/-- ITS FALSE NEIGHBOUR: 'it returns false'. Refute it at one input. -/
def councilBackWrong : ChangeSpec := { name := "councilBack", fn := fun _ => fun
  | [d1, d2, d3] => { results := [.lit (.bool false)], args := [d1, d2, d3] }
  | _ => none }
def CouncilBackWrongFalsely : Prop := councilBackRow.holds Try.pinned (OpenSpec.ofChange councilBackWrong)

/-- 'witanlaw07.CouncilTexts': WHATEVER THE INPUT: true; the input reads as it did. -/
def councilTextsSpec : ChangeSpec := { name := "councilTexts", fn := fun _ => fun
  | [d1, d2] => { results := [.lit (.bool true)], args := [d1, d2] }
  | _ => none }
def councilTextsRow : OpenClaim := { program := "ytgkcgfckhmplaaa", sum := "6b065f1347d8aa14321b9e3ccce4023276658c790f1682dc56d5fda3df1eef58", func := "witan/witanlaw07.CouncilTexts", spec := "councilTexts", apart := false }
def CouncilTextsSaid : Prop := councilTextsRow.holds Try.pinned (OpenSpec.ofChange councilTextsSpec)

/-- ITS FALSE NEIGHBOUR: 'it returns false'. Refute it at one input. -/
def councilTextsWrong : ChangeSpec := { name := "councilTexts", fn := fun _ => fun
  | [d1, d2] => { results := [.lit (.bool false)], args := [d1, d2] }
  | _ => none }
def CouncilTextsWrongFalsely : Prop := councilTextsRow.holds Try.pinned (OpenSpec.ofChange councilTextsWrong)

/-- 'witanlaw07.CouncilReads': WHATEVER THE INPUT: true; the input reads as it did. -/
def councilReadsSpec : ChangeSpec := { name := "councilReads", fn := fun _ => fun
  | [d1, d2, d3] => { results := [.lit (.bool true)], args := [d1, d2, d3] }
  | _ => none }
def councilReadsRow : OpenClaim := { program := "ytgkcgfckhmplaaa", sum := "6b065f1347d8aa14321b9e3ccce4023276658c790f1682dc56d5fda3df1eef58", func := "witan/witanlaw07.CouncilReads", spec := "councilReads", apart := false }
def CouncilReadsSaid : Prop := councilReadsRow.holds Try.pinned (OpenSpec.ofChange councilReadsSpec)

/-- ITS FALSE NEIGHBOUR: 'it returns false'. Refute it at one input. -/
def councilReadsWrong : ChangeSpec := { name := "councilReads", fn := fun _ => fun
  | [d1, d2, d3] => { results := [.lit (.bool false)], args := [d1, d2, d3] }
  | _ => none }
def CouncilReadsWrongFalsely : Prop := councilReadsRow.holds Try.pinned (OpenSpec.ofChange councilReadsWrong)

/- THE SECOND FORM. 'bulk': how many values and letters a reading holds, each counted each time it is reached (what is shared counts as often as it is met; a slice's spare places count too). A statement '..UptoSaid' is the law's where the arguments, and the package variables that the reading takes, are together of bulk at most 1048576: NARROWER than '..Said'. Prove '..Said' where nothing that the law and all that it calls make is longer than what came in: it says more and counts as full. Else prove '..UptoSaid'. A law counts once. -/
mutual
def uptoBulk {H : Type} : DataW H → Nat
  | .lit (.string bytes) => bytes.length + 1
  | .lit _ => 1
  | .nil => 1
  | .ptr d => uptoBulk d + 1
  | .slice elems spare => uptoBulkAll elems + uptoBulkAll spare + 1
  | .agg parts => uptoBulkAll parts + 1
  | .iface _ d => uptoBulk d + 1
  | .map entries => uptoBulkEntries entries + 1
  | .held _ => 1
def uptoBulkAll {H : Type} : List (DataW H) → Nat
  | [] => 0
  | d :: r => uptoBulk d + uptoBulkAll r
def uptoBulkEntries {H : Type} : List (Lit × DataW H) → Nat
  | [] => 0
  | x :: r => uptoBulkEntry x + uptoBulkEntries r
def uptoBulkEntry {H : Type} : Lit × DataW H → Nat
  | (.string bytes, d) => bytes.length + uptoBulk d + 1
  | (_, d) => uptoBulk d + 1
 end
def uptoSmall : (H : Type) → List (DataW H) → Bool := fun _ ds => decide (uptoBulkAll ds ≤ 1048576)
def OpenSpec.upto (s : _root_.Go.ChangeSpec) : _root_.Go.OpenSpec := { _root_.Go.OpenSpec.ofChange s with cond := some uptoSmall }

/-- 'witanlaw07.CouncilCounts', WHERE WHAT IT READS IS OF BULK AT MOST 1048576: true; the input reads as it did. -/
def councilCountsUptoRow : OpenClaim := { program := "ytgkcgfckhmplaaa", sum := "6b065f1347d8aa14321b9e3ccce4023276658c790f1682dc56d5fda3df1eef58", func := "witan/witanlaw07.CouncilCounts", spec := "councilCounts", apart := false, narrowed := true }
def CouncilCountsUptoSaid : Prop := councilCountsUptoRow.holds Try.pinned (OpenSpec.upto councilCountsSpec)

/-- 'witanlaw07.CouncilMeets', WHERE WHAT IT READS IS OF BULK AT MOST 1048576: true; the input reads as it did. -/
def councilMeetsUptoRow : OpenClaim := { program := "ytgkcgfckhmplaaa", sum := "6b065f1347d8aa14321b9e3ccce4023276658c790f1682dc56d5fda3df1eef58", func := "witan/witanlaw07.CouncilMeets", spec := "councilMeets", apart := false, narrowed := true }
def CouncilMeetsUptoSaid : Prop := councilMeetsUptoRow.holds Try.pinned (OpenSpec.upto councilMeetsSpec)

/-- 'witanlaw07.CouncilRight', WHERE WHAT IT READS IS OF BULK AT MOST 1048576: true; the input reads as it did. -/
def councilRightUptoRow : OpenClaim := { program := "ytgkcgfckhmplaaa", sum := "6b065f1347d8aa14321b9e3ccce4023276658c790f1682dc56d5fda3df1eef58", func := "witan/witanlaw07.CouncilRight", spec := "councilRight", apart := false, narrowed := true }
def CouncilRightUptoSaid : Prop := councilRightUptoRow.holds Try.pinned (OpenSpec.upto councilRightSpec)

/-- 'witanlaw07.CouncilLeads', WHERE WHAT IT READS IS OF BULK AT MOST 1048576: true; the input reads as it did. -/
def councilLeadsUptoRow : OpenClaim := { program := "ytgkcgfckhmplaaa", sum := "6b065f1347d8aa14321b9e3ccce4023276658c790f1682dc56d5fda3df1eef58", func := "witan/witanlaw07.CouncilLeads", spec := "councilLeads", apart := false, narrowed := true }
def CouncilLeadsUptoSaid : Prop := councilLeadsUptoRow.holds Try.pinned (OpenSpec.upto councilLeadsSpec)

/-- 'witanlaw07.CouncilMoves', WHERE WHAT IT READS IS OF BULK AT MOST 1048576: true; the input reads as it did. -/
def councilMovesUptoRow : OpenClaim := { program := "ytgkcgfckhmplaaa", sum := "6b065f1347d8aa14321b9e3ccce4023276658c790f1682dc56d5fda3df1eef58", func := "witan/witanlaw07.CouncilMoves", spec := "councilMoves", apart := false, narrowed := true }
def CouncilMovesUptoSaid : Prop := councilMovesUptoRow.holds Try.pinned (OpenSpec.upto councilMovesSpec)

/-- 'witanlaw07.CouncilBack', WHERE WHAT IT READS IS OF BULK AT MOST 1048576: true; the input reads as it did. -/
def councilBackUptoRow : OpenClaim := { program := "ytgkcgfckhmplaaa", sum := "6b065f1347d8aa14321b9e3ccce4023276658c790f1682dc56d5fda3df1eef58", func := "witan/witanlaw07.CouncilBack", spec := "councilBack", apart := false, narrowed := true }
def CouncilBackUptoSaid : Prop := councilBackUptoRow.holds Try.pinned (OpenSpec.upto councilBackSpec)

/-- 'witanlaw07.CouncilTexts', WHERE WHAT IT READS IS OF BULK AT MOST 1048576: true; the input reads as it did. -/
def councilTextsUptoRow : OpenClaim := { program := "ytgkcgfckhmplaaa", sum := "6b065f1347d8aa14321b9e3ccce4023276658c790f1682dc56d5fda3df1eef58", func := "witan/witanlaw07.CouncilTexts", spec := "councilTexts", apart := false, narrowed := true }
def CouncilTextsUptoSaid : Prop := councilTextsUptoRow.holds Try.pinned (OpenSpec.upto councilTextsSpec)

/-- 'witanlaw07.CouncilReads', WHERE WHAT IT READS IS OF BULK AT MOST 1048576: true; the input reads as it did. -/
def councilReadsUptoRow : OpenClaim := { program := "ytgkcgfckhmplaaa", sum := "6b065f1347d8aa14321b9e3ccce4023276658c790f1682dc56d5fda3df1eef58", func := "witan/witanlaw07.CouncilReads", spec := "councilReads", apart := false, narrowed := true }
def CouncilReadsUptoSaid : Prop := councilReadsUptoRow.holds Try.pinned (OpenSpec.upto councilReadsSpec)

end Rows
end Go.Proofs.Ytgkcgfckhmplaaa
