/-
  No cell of these rows narrows 'for every input' (looked for: loops, veiled, ifaces, maps, wideKeys, modest, calm, conditions, laid).
  DERIVED. THE GIVEN ROWS OF THIS SEAT. 7 by the template 'for every input the law returns true; each argument reads behind the call as it read before'; 0 by the template 'total and deterministic' (their statements: YtelmpoaioccpoaaTotals.lean).
  GIVEN WITH THE SEED: the statements are not yours to turn. If you find one false, say at which input.
  Laid BY PROGRAM, IN A SANDBOX (cutbox-rows.mjs): the forced cells as the released guide's own fill.sh prints them over the translation 8a48f7467e5ec29c… (all of the seat's roots in one cut). By AI agents, Wed Nov 11 2026. No macro, syntax, notation, axiom, sorry.
-/
import Derived.Test.YtelmpoaioccpoaaChecked
import GoSem.Claim
import GoSem.ClaimJoined
import GoSem.ClaimMapViews
import Derived.JoinedTies
import Derived.KernelRfl
namespace Go.Proofs.Ytelmpoaioccpoaa
/- THE CELL 'sum', in the pinned program and in every row, IS THE sha256 OF THE DUMP (.gsa) THAT YtelmpoaioccpoaaProg.lean LOADS. Nothing in Lean hashes anything: it is a label: what it is worth is what the hold of that sum in a sandbox is worth. -/
noncomputable def Try.pinned : Pinned := { name := "ytelmpoaioccpoaa", sum := "8a48f7467e5ec29c3a472a0683cd7058a9e43a2d18e86bd81d5ef6bc4a566335", checked := Try.checked }
namespace Rows
def none {H : Type} : Left H := { results := [], args := [] }

/-- 'witanlaw09.TermsProves': WHATEVER THE INPUT: true; the input reads as it did. -/
def termsProvesSpec : ChangeSpec := { name := "termsProves", fn := fun _ => fun
  | [d] => { results := [.lit (.bool true)], args := [d] }
  | _ => none }
def termsProvesRow : OpenClaim := { program := "ytelmpoaioccpoaa", sum := "8a48f7467e5ec29c3a472a0683cd7058a9e43a2d18e86bd81d5ef6bc4a566335", func := "witan/witanlaw09.TermsProves", spec := "termsProves", unfollowed := true, recurses := true, plainKeys := false, apart := false }
def TermsProvesSaid : Prop := termsProvesRow.holds Try.pinned (OpenSpec.ofChange termsProvesSpec)

/-- ITS FALSE NEIGHBOUR: 'it returns false'. Refute it at one input. -/
def termsProvesWrong : ChangeSpec := { name := "termsProves", fn := fun _ => fun
  | [d] => { results := [.lit (.bool false)], args := [d] }
  | _ => none }
def TermsProvesWrongFalsely : Prop := termsProvesRow.holds Try.pinned (OpenSpec.ofChange termsProvesWrong)

/-- 'witanlaw09.TermsGathers': WHATEVER THE INPUT: true; the input reads as it did. -/
def termsGathersSpec : ChangeSpec := { name := "termsGathers", fn := fun _ => fun
  | [d] => { results := [.lit (.bool true)], args := [d] }
  | _ => none }
def termsGathersRow : OpenClaim := { program := "ytelmpoaioccpoaa", sum := "8a48f7467e5ec29c3a472a0683cd7058a9e43a2d18e86bd81d5ef6bc4a566335", func := "witan/witanlaw09.TermsGathers", spec := "termsGathers", unfollowed := true, recurses := true, plainKeys := false, apart := false }
def TermsGathersSaid : Prop := termsGathersRow.holds Try.pinned (OpenSpec.ofChange termsGathersSpec)

/-- ITS FALSE NEIGHBOUR: 'it returns false'. Refute it at one input. -/
def termsGathersWrong : ChangeSpec := { name := "termsGathers", fn := fun _ => fun
  | [d] => { results := [.lit (.bool false)], args := [d] }
  | _ => none }
def TermsGathersWrongFalsely : Prop := termsGathersRow.holds Try.pinned (OpenSpec.ofChange termsGathersWrong)

/-- 'witanlaw09.TermsEnough': WHATEVER THE INPUT: true; the input reads as it did. -/
def termsEnoughSpec : ChangeSpec := { name := "termsEnough", fn := fun _ => fun
  | [d1, d2] => { results := [.lit (.bool true)], args := [d1, d2] }
  | _ => none }
def termsEnoughRow : OpenClaim := { program := "ytelmpoaioccpoaa", sum := "8a48f7467e5ec29c3a472a0683cd7058a9e43a2d18e86bd81d5ef6bc4a566335", func := "witan/witanlaw09.TermsEnough", spec := "termsEnough", unfollowed := true, recurses := true, plainKeys := false, apart := false }
def TermsEnoughSaid : Prop := termsEnoughRow.holds Try.pinned (OpenSpec.ofChange termsEnoughSpec)

/-- ITS FALSE NEIGHBOUR: 'it returns false'. Refute it at one input. -/
def termsEnoughWrong : ChangeSpec := { name := "termsEnough", fn := fun _ => fun
  | [d1, d2] => { results := [.lit (.bool false)], args := [d1, d2] }
  | _ => none }
def TermsEnoughWrongFalsely : Prop := termsEnoughRow.holds Try.pinned (OpenSpec.ofChange termsEnoughWrong)

/-- 'witanlaw09.TermsMeet': WHATEVER THE INPUT: true; the input reads as it did. -/
def termsMeetSpec : ChangeSpec := { name := "termsMeet", fn := fun _ => fun
  | [d1, d2, d3] => { results := [.lit (.bool true)], args := [d1, d2, d3] }
  | _ => none }
def termsMeetRow : OpenClaim := { program := "ytelmpoaioccpoaa", sum := "8a48f7467e5ec29c3a472a0683cd7058a9e43a2d18e86bd81d5ef6bc4a566335", func := "witan/witanlaw09.TermsMeet", spec := "termsMeet", unfollowed := true, recurses := true, plainKeys := false, apart := false }
def TermsMeetSaid : Prop := termsMeetRow.holds Try.pinned (OpenSpec.ofChange termsMeetSpec)

/-- ITS FALSE NEIGHBOUR: 'it returns false'. Refute it at one input. -/
def termsMeetWrong : ChangeSpec := { name := "termsMeet", fn := fun _ => fun
  | [d1, d2, d3] => { results := [.lit (.bool false)], args := [d1, d2, d3] }
  | _ => none }
def TermsMeetWrongFalsely : Prop := termsMeetRow.holds Try.pinned (OpenSpec.ofChange termsMeetWrong)

/-- 'witanlaw09.TermsBooks': WHATEVER THE INPUT: true; the input reads as it did. -/
def termsBooksSpec : ChangeSpec := { name := "termsBooks", fn := fun _ => fun
  | [d1, d2, d3] => { results := [.lit (.bool true)], args := [d1, d2, d3] }
  | _ => none }
def termsBooksRow : OpenClaim := { program := "ytelmpoaioccpoaa", sum := "8a48f7467e5ec29c3a472a0683cd7058a9e43a2d18e86bd81d5ef6bc4a566335", func := "witan/witanlaw09.TermsBooks", spec := "termsBooks", unfollowed := true, recurses := true, plainKeys := false, apart := false }
def TermsBooksSaid : Prop := termsBooksRow.holds Try.pinned (OpenSpec.ofChange termsBooksSpec)

/-- ITS FALSE NEIGHBOUR: 'it returns false'. Refute it at one input. -/
def termsBooksWrong : ChangeSpec := { name := "termsBooks", fn := fun _ => fun
  | [d1, d2, d3] => { results := [.lit (.bool false)], args := [d1, d2, d3] }
  | _ => none }
def TermsBooksWrongFalsely : Prop := termsBooksRow.holds Try.pinned (OpenSpec.ofChange termsBooksWrong)

/-- 'witanlaw09.TermsGrows': WHATEVER THE INPUT: true; the input reads as it did. -/
def termsGrowsSpec : ChangeSpec := { name := "termsGrows", fn := fun _ => fun
  | [d1, d2, d3] => { results := [.lit (.bool true)], args := [d1, d2, d3] }
  | _ => none }
def termsGrowsRow : OpenClaim := { program := "ytelmpoaioccpoaa", sum := "8a48f7467e5ec29c3a472a0683cd7058a9e43a2d18e86bd81d5ef6bc4a566335", func := "witan/witanlaw09.TermsGrows", spec := "termsGrows", unfollowed := true, recurses := true, plainKeys := false, apart := false }
def TermsGrowsSaid : Prop := termsGrowsRow.holds Try.pinned (OpenSpec.ofChange termsGrowsSpec)

/-- ITS FALSE NEIGHBOUR: 'it returns false'. Refute it at one input. -/
def termsGrowsWrong : ChangeSpec := { name := "termsGrows", fn := fun _ => fun
  | [d1, d2, d3] => { results := [.lit (.bool false)], args := [d1, d2, d3] }
  | _ => none }
def TermsGrowsWrongFalsely : Prop := termsGrowsRow.holds Try.pinned (OpenSpec.ofChange termsGrowsWrong)

/-- 'witanlaw09.TermsNil': WHATEVER THE INPUT: true; the input reads as it did. -/
def termsNilSpec : ChangeSpec := { name := "termsNil", fn := fun _ => fun
  | [d1, d2] => { results := [.lit (.bool true)], args := [d1, d2] }
  | _ => none }
def termsNilRow : OpenClaim := { program := "ytelmpoaioccpoaa", sum := "8a48f7467e5ec29c3a472a0683cd7058a9e43a2d18e86bd81d5ef6bc4a566335", func := "witan/witanlaw09.TermsNil", spec := "termsNil", unfollowed := true, recurses := true, plainKeys := false, apart := false }
def TermsNilSaid : Prop := termsNilRow.holds Try.pinned (OpenSpec.ofChange termsNilSpec)

/-- ITS FALSE NEIGHBOUR: 'it returns false'. Refute it at one input. -/
def termsNilWrong : ChangeSpec := { name := "termsNil", fn := fun _ => fun
  | [d1, d2] => { results := [.lit (.bool false)], args := [d1, d2] }
  | _ => none }
def TermsNilWrongFalsely : Prop := termsNilRow.holds Try.pinned (OpenSpec.ofChange termsNilWrong)

/- THE SECOND FORM. 'bulk': how many values and letters a reading holds, each counted each time it is reached (what is shared counts as often as it is met; a slice's spare places count too). A statement '..UptoSaid' is the law's where the arguments, and the package variables that the reading takes, are together of bulk at most 1048576: NARROWER than '..Said'. Prove '..Said' where nothing that the law and all that it calls make is longer than what came in: it says more and counts as full. Else prove '..UptoSaid'. A law counts once. -/
mutual
def uptoBulk {H : Type} : DataW H → Nat
  | .lit (.string bytes) => bytes.length + 1
  | .lit _ => 1
  | .nil => 1
  | .ptr d => uptoBulk d + 1
  | .slice elems spare => uptoBulkAll elems + uptoBulkAll spare + 1
  | .agg parts => uptoBulkAll parts + 1
  | .iface _ d => uptoBulk d + 1
  | .map entries => uptoBulkEntries entries + 1
  | .held _ => 1
def uptoBulkAll {H : Type} : List (DataW H) → Nat
  | [] => 0
  | d :: r => uptoBulk d + uptoBulkAll r
def uptoBulkEntries {H : Type} : List (Lit × DataW H) → Nat
  | [] => 0
  | x :: r => uptoBulkEntry x + uptoBulkEntries r
def uptoBulkEntry {H : Type} : Lit × DataW H → Nat
  | (.string bytes, d) => bytes.length + uptoBulk d + 1
  | (_, d) => uptoBulk d + 1
 end
def uptoSmall : (H : Type) → List (DataW H) → Bool := fun _ ds => decide (uptoBulkAll ds ≤ 1048576)
def OpenSpec.upto (s : _root_.Go.ChangeSpec) : _root_.Go.OpenSpec := { _root_.Go.OpenSpec.ofChange s with cond := some uptoSmall }

/-- 'witanlaw09.TermsProves', WHERE WHAT IT READS IS OF BULK AT MOST 1048576: true; the input reads as it did. -/
def termsProvesUptoRow : OpenClaim := { program := "ytelmpoaioccpoaa", sum := "8a48f7467e5ec29c3a472a0683cd7058a9e43a2d18e86bd81d5ef6bc4a566335", func := "witan/witanlaw09.TermsProves", spec := "termsProves", unfollowed := true, recurses := true, plainKeys := false, apart := false, narrowed := true }
def TermsProvesUptoSaid : Prop := termsProvesUptoRow.holds Try.pinned (OpenSpec.upto termsProvesSpec)

/-- 'witanlaw09.TermsGathers', WHERE WHAT IT READS IS OF BULK AT MOST 1048576: true; the input reads as it did. -/
def termsGathersUptoRow : OpenClaim := { program := "ytelmpoaioccpoaa", sum := "8a48f7467e5ec29c3a472a0683cd7058a9e43a2d18e86bd81d5ef6bc4a566335", func := "witan/witanlaw09.TermsGathers", spec := "termsGathers", unfollowed := true, recurses := true, plainKeys := false, apart := false, narrowed := true }
def TermsGathersUptoSaid : Prop := termsGathersUptoRow.holds Try.pinned (OpenSpec.upto termsGathersSpec)

/-- 'witanlaw09.TermsEnough', WHERE WHAT IT READS IS OF BULK AT MOST 1048576: true; the input reads as it did. -/
def termsEnoughUptoRow : OpenClaim := { program := "ytelmpoaioccpoaa", sum := "8a48f7467e5ec29c3a472a0683cd7058a9e43a2d18e86bd81d5ef6bc4a566335", func := "witan/witanlaw09.TermsEnough", spec := "termsEnough", unfollowed := true, recurses := true, plainKeys := false, apart := false, narrowed := true }
def TermsEnoughUptoSaid : Prop := termsEnoughUptoRow.holds Try.pinned (OpenSpec.upto termsEnoughSpec)

/-- 'witanlaw09.TermsMeet', WHERE WHAT IT READS IS OF BULK AT MOST 1048576: true; the input reads as it did. -/
def termsMeetUptoRow : OpenClaim := { program := "ytelmpoaioccpoaa", sum := "8a48f7467e5ec29c3a472a0683cd7058a9e43a2d18e86bd81d5ef6bc4a566335", func := "witan/witanlaw09.TermsMeet", spec := "termsMeet", unfollowed := true, recurses := true, plainKeys := false, apart := false, narrowed := true }
def TermsMeetUptoSaid : Prop := termsMeetUptoRow.holds Try.pinned (OpenSpec.upto termsMeetSpec)

/-- 'witanlaw09.TermsBooks', WHERE WHAT IT READS IS OF BULK AT MOST 1048576: true; the input reads as it did. -/
def termsBooksUptoRow : OpenClaim := { program := "ytelmpoaioccpoaa", sum := "8a48f7467e5ec29c3a472a0683cd7058a9e43a2d18e86bd81d5ef6bc4a566335", func := "witan/witanlaw09.TermsBooks", spec := "termsBooks", unfollowed := true, recurses := true, plainKeys := false, apart := false, narrowed := true }
def TermsBooksUptoSaid : Prop := termsBooksUptoRow.holds Try.pinned (OpenSpec.upto termsBooksSpec)

/-- 'witanlaw09.TermsGrows', WHERE WHAT IT READS IS OF BULK AT MOST 1048576: true; the input reads as it did. -/
def termsGrowsUptoRow : OpenClaim := { program := "ytelmpoaioccpoaa", sum := "8a48f7467e5ec29c3a472a0683cd7058a9e43a2d18e86bd81d5ef6bc4a566335", func := "witan/witanlaw09.TermsGrows", spec := "termsGrows", unfollowed := true, recurses := true, plainKeys := false, apart := false, narrowed := true }
def TermsGrowsUptoSaid : Prop := termsGrowsUptoRow.holds Try.pinned (OpenSpec.upto termsGrowsSpec)

/-- 'witanlaw09.TermsNil', WHERE WHAT IT READS IS OF BULK AT MOST 1048576: true; the input reads as it did. -/
def termsNilUptoRow : OpenClaim := { program := "ytelmpoaioccpoaa", sum := "8a48f7467e5ec29c3a472a0683cd7058a9e43a2d18e86bd81d5ef6bc4a566335", func := "witan/witanlaw09.TermsNil", spec := "termsNil", unfollowed := true, recurses := true, plainKeys := false, apart := false, narrowed := true }
def TermsNilUptoSaid : Prop := termsNilUptoRow.holds Try.pinned (OpenSpec.upto termsNilSpec)

end Rows
end Go.Proofs.Ytelmpoaioccpoaa
