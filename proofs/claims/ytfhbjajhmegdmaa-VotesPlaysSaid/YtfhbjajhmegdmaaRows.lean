/-
  No cell of these rows narrows 'for every input' (looked for: loops, veiled, ifaces, maps, wideKeys, modest, calm, conditions, laid).
  DERIVED. THE GIVEN ROWS OF THIS SEAT. 6 by the template 'for every input the law returns true; each argument reads behind the call as it read before'; 0 by the template 'total and deterministic' (their statements: YtfhbjajhmegdmaaTotals.lean).
  GIVEN WITH THE SEED: the statements are not yours to turn. If you find one false, say at which input.
  Laid BY PROGRAM, IN A SANDBOX (cutbox-rows.mjs): the forced cells as the released guide's own fill.sh prints them over the translation d0ef83eb0ba5decc… (all of the seat's roots in one cut). By AI agents, Wed Nov 11 2026. No macro, syntax, notation, axiom, sorry.
-/
import Derived.Test.YtfhbjajhmegdmaaChecked
import GoSem.Claim
import GoSem.ClaimJoined
import GoSem.ClaimMapViews
import Derived.JoinedTies
import Derived.KernelRfl
namespace Go.Proofs.Ytfhbjajhmegdmaa
/- THE CELL 'sum', in the pinned program and in every row, IS THE sha256 OF THE DUMP (.gsa) THAT YtfhbjajhmegdmaaProg.lean LOADS. Nothing in Lean hashes anything: it is a label: what it is worth is what the hold of that sum in a sandbox is worth. -/
noncomputable def Try.pinned : Pinned := { name := "ytfhbjajhmegdmaa", sum := "d0ef83eb0ba5deccf6e976180889ff5f4314acb03338a35ed7dd7b895cfbdc35", checked := Try.checked }
namespace Rows
def none {H : Type} : Left H := { results := [], args := [] }

/-- 'witanlaw15.VotesTexts': WHATEVER THE INPUT: true; the input reads as it did. -/
def votesTextsSpec : ChangeSpec := { name := "votesTexts", fn := fun _ => fun
  | [d1, d2, d3] => { results := [.lit (.bool true)], args := [d1, d2, d3] }
  | _ => none }
def votesTextsRow : OpenClaim := { program := "ytfhbjajhmegdmaa", sum := "d0ef83eb0ba5deccf6e976180889ff5f4314acb03338a35ed7dd7b895cfbdc35", func := "witan/witanlaw15.VotesTexts", spec := "votesTexts", plainKeys := false, apart := false }
def VotesTextsSaid : Prop := votesTextsRow.holds Try.pinned (OpenSpec.ofChange votesTextsSpec)

/-- ITS FALSE NEIGHBOUR: 'it returns false'. Refute it at one input. -/
def votesTextsWrong : ChangeSpec := { name := "votesTexts", fn := fun _ => fun
  | [d1, d2, d3] => { results := [.lit (.bool false)], args := [d1, d2, d3] }
  | _ => none }
def VotesTextsWrongFalsely : Prop := votesTextsRow.holds Try.pinned (OpenSpec.ofChange votesTextsWrong)

/-- 'witanlaw15.VotesPlays': WHATEVER THE INPUT: true; the input reads as it did. -/
def votesPlaysSpec : ChangeSpec := { name := "votesPlays", fn := fun _ => fun
  | [d1, d2] => { results := [.lit (.bool true)], args := [d1, d2] }
  | _ => none }
def votesPlaysRow : OpenClaim := { program := "ytfhbjajhmegdmaa", sum := "d0ef83eb0ba5deccf6e976180889ff5f4314acb03338a35ed7dd7b895cfbdc35", func := "witan/witanlaw15.VotesPlays", spec := "votesPlays", plainKeys := false, apart := false }
def VotesPlaysSaid : Prop := votesPlaysRow.holds Try.pinned (OpenSpec.ofChange votesPlaysSpec)

/-- ITS FALSE NEIGHBOUR: 'it returns false'. Refute it at one input. -/
def votesPlaysWrong : ChangeSpec := { name := "votesPlays", fn := fun _ => fun
  | [d1, d2] => { results := [.lit (.bool false)], args := [d1, d2] }
  | _ => none }
def VotesPlaysWrongFalsely : Prop := votesPlaysRow.holds Try.pinned (OpenSpec.ofChange votesPlaysWrong)

/-- 'witanlaw15.VotesAgree': WHATEVER THE INPUT: true; the input reads as it did. -/
def votesAgreeSpec : ChangeSpec := { name := "votesAgree", fn := fun _ => fun
  | [d1, d2, d3] => { results := [.lit (.bool true)], args := [d1, d2, d3] }
  | _ => none }
def votesAgreeRow : OpenClaim := { program := "ytfhbjajhmegdmaa", sum := "d0ef83eb0ba5deccf6e976180889ff5f4314acb03338a35ed7dd7b895cfbdc35", func := "witan/witanlaw15.VotesAgree", spec := "votesAgree", plainKeys := false, apart := false }
def VotesAgreeSaid : Prop := votesAgreeRow.holds Try.pinned (OpenSpec.ofChange votesAgreeSpec)

/-- ITS FALSE NEIGHBOUR: 'it returns false'. Refute it at one input. -/
def votesAgreeWrong : ChangeSpec := { name := "votesAgree", fn := fun _ => fun
  | [d1, d2, d3] => { results := [.lit (.bool false)], args := [d1, d2, d3] }
  | _ => none }
def VotesAgreeWrongFalsely : Prop := votesAgreeRow.holds Try.pinned (OpenSpec.ofChange votesAgreeWrong)

/-- 'witanlaw15.VotesEnough': WHATEVER THE INPUT: true; the input reads as it did. -/
def votesEnoughSpec : ChangeSpec := { name := "votesEnough", fn := fun _ => fun
  | [d1, d2, d3] => { results := [.lit (.bool true)], args := [d1, d2, d3] }
  | _ => none }
def votesEnoughRow : OpenClaim := { program := "ytfhbjajhmegdmaa", sum := "d0ef83eb0ba5deccf6e976180889ff5f4314acb03338a35ed7dd7b895cfbdc35", func := "witan/witanlaw15.VotesEnough", spec := "votesEnough", plainKeys := false, apart := false }
def VotesEnoughSaid : Prop := votesEnoughRow.holds Try.pinned (OpenSpec.ofChange votesEnoughSpec)

/-- ITS FALSE NEIGHBOUR: 'it returns false'. Refute it at one input. -/
def votesEnoughWrong : ChangeSpec := { name := "votesEnough", fn := fun _ => fun
  | [d1, d2, d3] => { results := [.lit (.bool false)], args := [d1, d2, d3] }
  | _ => none }
def VotesEnoughWrongFalsely : Prop := votesEnoughRow.holds Try.pinned (OpenSpec.ofChange votesEnoughWrong)

/-- 'witanlaw15.VotesNil': WHATEVER THE INPUT: true; the input reads as it did. -/
def votesNilSpec : ChangeSpec := { name := "votesNil", fn := fun _ => fun
  | [d] => { results := [.lit (.bool true)], args := [d] }
  | _ => none }
def votesNilRow : OpenClaim := { program := "ytfhbjajhmegdmaa", sum := "d0ef83eb0ba5deccf6e976180889ff5f4314acb03338a35ed7dd7b895cfbdc35", func := "witan/witanlaw15.VotesNil", spec := "votesNil", plainKeys := false, apart := false }
def VotesNilSaid : Prop := votesNilRow.holds Try.pinned (OpenSpec.ofChange votesNilSpec)

/-- ITS FALSE NEIGHBOUR: 'it returns false'. Refute it at one input. -/
def votesNilWrong : ChangeSpec := { name := "votesNil", fn := fun _ => fun
  | [d] => { results := [.lit (.bool false)], args := [d] }
  | _ => none }
def VotesNilWrongFalsely : Prop := votesNilRow.holds Try.pinned (OpenSpec.ofChange votesNilWrong)

/-- 'witanlaw15.VotesShow': WHATEVER THE INPUT: true; the input reads as it did. -/
def votesShowSpec : ChangeSpec := { name := "votesShow", fn := fun _ => fun
  | [d1, d2] => { results := [.lit (.bool true)], args := [d1, d2] }
  | _ => none }
def votesShowRow : OpenClaim := { program := "ytfhbjajhmegdmaa", sum := "d0ef83eb0ba5deccf6e976180889ff5f4314acb03338a35ed7dd7b895cfbdc35", func := "witan/witanlaw15.VotesShow", spec := "votesShow", plainKeys := false, apart := false }
def VotesShowSaid : Prop := votesShowRow.holds Try.pinned (OpenSpec.ofChange votesShowSpec)

/-- ITS FALSE NEIGHBOUR: 'it returns false'. Refute it at one input. -/
def votesShowWrong : ChangeSpec := { name := "votesShow", fn := fun _ => fun
  | [d1, d2] => { results := [.lit (.bool false)], args := [d1, d2] }
  | _ => none }
def VotesShowWrongFalsely : Prop := votesShowRow.holds Try.pinned (OpenSpec.ofChange votesShowWrong)

/- THE SECOND FORM. 'bulk': how many values and letters a reading holds, each counted each time it is reached (what is shared counts as often as it is met; a slice's spare places count too). A statement '..UptoSaid' is the law's where the arguments, and the package variables that the reading takes, are together of bulk at most 1048576: NARROWER than '..Said'. Prove '..Said' where nothing that the law and all that it calls make is longer than what came in: it says more and counts as full. Else prove '..UptoSaid'. A law counts once. -/
mutual
def uptoBulk {H : Type} : DataW H → Nat
  | .lit (.string bytes) => bytes.length + 1
  | .lit _ => 1
  | .nil => 1
  | .ptr d => uptoBulk d + 1
  | .slice elems spare => uptoBulkAll elems + uptoBulkAll spare + 1
  | .agg parts => uptoBulkAll parts + 1
  | .iface _ d => uptoBulk d + 1
  | .map entries => uptoBulkEntries entries + 1
  | .held _ => 1
def uptoBulkAll {H : Type} : List (DataW H) → Nat
  | [] => 0
  | d :: r => uptoBulk d + uptoBulkAll r
def uptoBulkEntries {H : Type} : List (Lit × DataW H) → Nat
  | [] => 0
  | x :: r => uptoBulkEntry x + uptoBulkEntries r
def uptoBulkEntry {H : Type} : Lit × DataW H → Nat
  | (.string bytes, d) => bytes.length + uptoBulk d + 1
  | (_, d) => uptoBulk d + 1
 end
def uptoSmall : (H : Type) → List (DataW H) → Bool := fun _ ds => decide (uptoBulkAll ds ≤ 1048576)
def OpenSpec.upto (s : _root_.Go.ChangeSpec) : _root_.Go.OpenSpec := { _root_.Go.OpenSpec.ofChange s with cond := some uptoSmall }

/-- 'witanlaw15.VotesTexts', WHERE WHAT IT READS IS OF BULK AT MOST 1048576: true; the input reads as it did. -/
def votesTextsUptoRow : OpenClaim := { program := "ytfhbjajhmegdmaa", sum := "d0ef83eb0ba5deccf6e976180889ff5f4314acb03338a35ed7dd7b895cfbdc35", func := "witan/witanlaw15.VotesTexts", spec := "votesTexts", plainKeys := false, apart := false, narrowed := true }
def VotesTextsUptoSaid : Prop := votesTextsUptoRow.holds Try.pinned (OpenSpec.upto votesTextsSpec)

/-- 'witanlaw15.VotesPlays', WHERE WHAT IT READS IS OF BULK AT MOST 1048576: true; the input reads as it did. -/
def votesPlaysUptoRow : OpenClaim := { program := "ytfhbjajhmegdmaa", sum := "d0ef83eb0ba5deccf6e976180889ff5f4314acb03338a35ed7dd7b895cfbdc35", func := "witan/witanlaw15.VotesPlays", spec := "votesPlays", plainKeys := false, apart := false, narrowed := true }
def VotesPlaysUptoSaid : Prop := votesPlaysUptoRow.holds Try.pinned (OpenSpec.upto votesPlaysSpec)

/-- 'witanlaw15.VotesAgree', WHERE WHAT IT READS IS OF BULK AT MOST 1048576: true; the input reads as it did. -/
def votesAgreeUptoRow : OpenClaim := { program := "ytfhbjajhmegdmaa", sum := "d0ef83eb0ba5deccf6e976180889ff5f4314acb03338a35ed7dd7b895cfbdc35", func := "witan/witanlaw15.VotesAgree", spec := "votesAgree", plainKeys := false, apart := false, narrowed := true }
def VotesAgreeUptoSaid : Prop := votesAgreeUptoRow.holds Try.pinned (OpenSpec.upto votesAgreeSpec)

/-- 'witanlaw15.VotesEnough', WHERE WHAT IT READS IS OF BULK AT MOST 1048576: true; the input reads as it did. -/
def votesEnoughUptoRow : OpenClaim := { program := "ytfhbjajhmegdmaa", sum := "d0ef83eb0ba5deccf6e976180889ff5f4314acb03338a35ed7dd7b895cfbdc35", func := "witan/witanlaw15.VotesEnough", spec := "votesEnough", plainKeys := false, apart := false, narrowed := true }
def VotesEnoughUptoSaid : Prop := votesEnoughUptoRow.holds Try.pinned (OpenSpec.upto votesEnoughSpec)

/-- 'witanlaw15.VotesNil', WHERE WHAT IT READS IS OF BULK AT MOST 1048576: true; the input reads as it did. -/
def votesNilUptoRow : OpenClaim := { program := "ytfhbjajhmegdmaa", sum := "d0ef83eb0ba5deccf6e976180889ff5f4314acb03338a35ed7dd7b895cfbdc35", func := "witan/witanlaw15.VotesNil", spec := "votesNil", plainKeys := false, apart := false, narrowed := true }
def VotesNilUptoSaid : Prop := votesNilUptoRow.holds Try.pinned (OpenSpec.upto votesNilSpec)

/-- 'witanlaw15.VotesShow', WHERE WHAT IT READS IS OF BULK AT MOST 1048576: true; the input reads as it did. -/
def votesShowUptoRow : OpenClaim := { program := "ytfhbjajhmegdmaa", sum := "d0ef83eb0ba5deccf6e976180889ff5f4314acb03338a35ed7dd7b895cfbdc35", func := "witan/witanlaw15.VotesShow", spec := "votesShow", plainKeys := false, apart := false, narrowed := true }
def VotesShowUptoSaid : Prop := votesShowUptoRow.holds Try.pinned (OpenSpec.upto votesShowSpec)

end Rows
end Go.Proofs.Ytfhbjajhmegdmaa
