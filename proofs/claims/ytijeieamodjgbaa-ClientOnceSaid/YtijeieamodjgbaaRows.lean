/-
  No cell of these rows narrows 'for every input' (looked for: loops, veiled, ifaces, maps, wideKeys, modest, calm, conditions, laid).
  DERIVED. THE GIVEN ROWS OF THIS SEAT. 10 by the template 'for every input the law returns true; each argument reads behind the call as it read before'; 0 by the template 'total and deterministic' (their statements: YtijeieamodjgbaaTotals.lean).
  GIVEN WITH THE SEED: the statements are not yours to turn. If you find one false, say at which input.
  Laid BY PROGRAM, IN A SANDBOX (cutbox-rows.mjs): the forced cells as the released guide's own fill.sh prints them over the translation 168e9f1b6988e1c3… (all of the seat's roots in one cut). By AI agents, Wed Nov 11 2026. No macro, syntax, notation, axiom, sorry.
-/
import Derived.Test.YtijeieamodjgbaaChecked
import GoSem.Claim
import GoSem.ClaimJoined
import GoSem.ClaimMapViews
import Derived.JoinedTies
import Derived.KernelRfl
namespace Go.Proofs.Ytijeieamodjgbaa
/- THE CELL 'sum', in the pinned program and in every row, IS THE sha256 OF THE DUMP (.gsa) THAT YtijeieamodjgbaaProg.lean LOADS. Nothing in Lean hashes anything: it is a label: what it is worth is what the hold of that sum in a sandbox is worth. -/
noncomputable def Try.pinned : Pinned := { name := "ytijeieamodjgbaa", sum := "168e9f1b6988e1c3cb1eb594466649e256164dba5621ef838254ccf547ef0862", checked := Try.checked }
namespace Rows
def none {H : Type} : Left H := { results := [], args := [] }

/-- 'witanlaw13.WireTells': WHATEVER THE INPUT: true; the input reads as it did. -/
def wireTellsSpec : ChangeSpec := { name := "wireTells", fn := fun _ => fun
  | [d] => { results := [.lit (.bool true)], args := [d] }
  | _ => none }
def wireTellsRow : OpenClaim := { program := "ytijeieamodjgbaa", sum := "168e9f1b6988e1c3cb1eb594466649e256164dba5621ef838254ccf547ef0862", func := "witan/witanlaw13.WireTells", spec := "wireTells", inPlace := ["math.Float64frombits", "math.Float64bits"], unfollowed := true, recurses := true, plainKeys := false, apart := false }
def WireTellsSaid : Prop := wireTellsRow.holds Try.pinned (OpenSpec.ofChange wireTellsSpec)

/-- ITS FALSE NEIGHBOUR: 'it returns false'. Refute it at one input. -/
def wireTellsWrong : ChangeSpec := { name := "wireTells", fn := fun _ => fun
  | [d] => { results := [.lit (.bool false)], args := [d] }
  | _ => none }
def WireTellsWrongFalsely : Prop := wireTellsRow.holds Try.pinned (OpenSpec.ofChange wireTellsWrong)

/-- 'witanlaw13.WireBack': WHATEVER THE INPUT: true; the input reads as it did. -/
def wireBackSpec : ChangeSpec := { name := "wireBack", fn := fun _ => fun
  | [d1, d2] => { results := [.lit (.bool true)], args := [d1, d2] }
  | _ => none }
def wireBackRow : OpenClaim := { program := "ytijeieamodjgbaa", sum := "168e9f1b6988e1c3cb1eb594466649e256164dba5621ef838254ccf547ef0862", func := "witan/witanlaw13.WireBack", spec := "wireBack", inPlace := ["math.Float64frombits", "math.Float64bits"], unfollowed := true, recurses := true, plainKeys := false, apart := false }
def WireBackSaid : Prop := wireBackRow.holds Try.pinned (OpenSpec.ofChange wireBackSpec)

/-- ITS FALSE NEIGHBOUR: 'it returns false'. Refute it at one input. -/
def wireBackWrong : ChangeSpec := { name := "wireBack", fn := fun _ => fun
  | [d1, d2] => { results := [.lit (.bool false)], args := [d1, d2] }
  | _ => none }
def WireBackWrongFalsely : Prop := wireBackRow.holds Try.pinned (OpenSpec.ofChange wireBackWrong)

/-- 'witanlaw13.WireWhole': WHATEVER THE INPUT: true; the input reads as it did. -/
def wireWholeSpec : ChangeSpec := { name := "wireWhole", fn := fun _ => fun
  | [d1, d2, d3] => { results := [.lit (.bool true)], args := [d1, d2, d3] }
  | _ => none }
def wireWholeRow : OpenClaim := { program := "ytijeieamodjgbaa", sum := "168e9f1b6988e1c3cb1eb594466649e256164dba5621ef838254ccf547ef0862", func := "witan/witanlaw13.WireWhole", spec := "wireWhole", inPlace := ["math.Float64frombits", "math.Float64bits"], unfollowed := true, recurses := true, plainKeys := false, apart := false }
def WireWholeSaid : Prop := wireWholeRow.holds Try.pinned (OpenSpec.ofChange wireWholeSpec)

/-- ITS FALSE NEIGHBOUR: 'it returns false'. Refute it at one input. -/
def wireWholeWrong : ChangeSpec := { name := "wireWhole", fn := fun _ => fun
  | [d1, d2, d3] => { results := [.lit (.bool false)], args := [d1, d2, d3] }
  | _ => none }
def WireWholeWrongFalsely : Prop := wireWholeRow.holds Try.pinned (OpenSpec.ofChange wireWholeWrong)

/-- 'witanlaw13.WireUnlike': WHATEVER THE INPUT: true; the input reads as it did. -/
def wireUnlikeSpec : ChangeSpec := { name := "wireUnlike", fn := fun _ => fun
  | [d1, d2] => { results := [.lit (.bool true)], args := [d1, d2] }
  | _ => none }
def wireUnlikeRow : OpenClaim := { program := "ytijeieamodjgbaa", sum := "168e9f1b6988e1c3cb1eb594466649e256164dba5621ef838254ccf547ef0862", func := "witan/witanlaw13.WireUnlike", spec := "wireUnlike", inPlace := ["math.Float64frombits", "math.Float64bits"], unfollowed := true, recurses := true, plainKeys := false, apart := false }
def WireUnlikeSaid : Prop := wireUnlikeRow.holds Try.pinned (OpenSpec.ofChange wireUnlikeSpec)

/-- ITS FALSE NEIGHBOUR: 'it returns false'. Refute it at one input. -/
def wireUnlikeWrong : ChangeSpec := { name := "wireUnlike", fn := fun _ => fun
  | [d1, d2] => { results := [.lit (.bool false)], args := [d1, d2] }
  | _ => none }
def WireUnlikeWrongFalsely : Prop := wireUnlikeRow.holds Try.pinned (OpenSpec.ofChange wireUnlikeWrong)

/-- 'witanlaw13.WireTerms': WHATEVER THE INPUT: true; the input reads as it did. -/
def wireTermsSpec : ChangeSpec := { name := "wireTerms", fn := fun _ => fun
  | [d] => { results := [.lit (.bool true)], args := [d] }
  | _ => none }
def wireTermsRow : OpenClaim := { program := "ytijeieamodjgbaa", sum := "168e9f1b6988e1c3cb1eb594466649e256164dba5621ef838254ccf547ef0862", func := "witan/witanlaw13.WireTerms", spec := "wireTerms", inPlace := ["math.Float64frombits", "math.Float64bits"], unfollowed := true, recurses := true, plainKeys := false, apart := false }
def WireTermsSaid : Prop := wireTermsRow.holds Try.pinned (OpenSpec.ofChange wireTermsSpec)

/-- ITS FALSE NEIGHBOUR: 'it returns false'. Refute it at one input. -/
def wireTermsWrong : ChangeSpec := { name := "wireTerms", fn := fun _ => fun
  | [d] => { results := [.lit (.bool false)], args := [d] }
  | _ => none }
def WireTermsWrongFalsely : Prop := wireTermsRow.holds Try.pinned (OpenSpec.ofChange wireTermsWrong)

/-- 'witanlaw20.LanesOrder': WHATEVER THE INPUT: true; the input reads as it did. -/
def lanesOrderSpec : ChangeSpec := { name := "lanesOrder", fn := fun _ => fun
  | [d1, d2] => { results := [.lit (.bool true)], args := [d1, d2] }
  | _ => none }
def lanesOrderRow : OpenClaim := { program := "ytijeieamodjgbaa", sum := "168e9f1b6988e1c3cb1eb594466649e256164dba5621ef838254ccf547ef0862", func := "witan/witanlaw20.LanesOrder", spec := "lanesOrder", inPlace := ["math.Float64frombits", "math.Float64bits"], unfollowed := true, recurses := true, plainKeys := false, apart := false }
def LanesOrderSaid : Prop := lanesOrderRow.holds Try.pinned (OpenSpec.ofChange lanesOrderSpec)

/-- ITS FALSE NEIGHBOUR: 'it returns false'. Refute it at one input. -/
def lanesOrderWrong : ChangeSpec := { name := "lanesOrder", fn := fun _ => fun
  | [d1, d2] => { results := [.lit (.bool false)], args := [d1, d2] }
  | _ => none }
def LanesOrderWrongFalsely : Prop := lanesOrderRow.holds Try.pinned (OpenSpec.ofChange lanesOrderWrong)

/-- 'witanlaw20.LanesCount': WHATEVER THE INPUT: true; the input reads as it did. -/
def lanesCountSpec : ChangeSpec := { name := "lanesCount", fn := fun _ => fun
  | [d1, d2] => { results := [.lit (.bool true)], args := [d1, d2] }
  | _ => none }
def lanesCountRow : OpenClaim := { program := "ytijeieamodjgbaa", sum := "168e9f1b6988e1c3cb1eb594466649e256164dba5621ef838254ccf547ef0862", func := "witan/witanlaw20.LanesCount", spec := "lanesCount", inPlace := ["math.Float64frombits", "math.Float64bits"], unfollowed := true, recurses := true, plainKeys := false, apart := false }
def LanesCountSaid : Prop := lanesCountRow.holds Try.pinned (OpenSpec.ofChange lanesCountSpec)

/-- ITS FALSE NEIGHBOUR: 'it returns false'. Refute it at one input. -/
def lanesCountWrong : ChangeSpec := { name := "lanesCount", fn := fun _ => fun
  | [d1, d2] => { results := [.lit (.bool false)], args := [d1, d2] }
  | _ => none }
def LanesCountWrongFalsely : Prop := lanesCountRow.holds Try.pinned (OpenSpec.ofChange lanesCountWrong)

/-- 'witanlaw20.LanesForge': WHATEVER THE INPUT: true; the input reads as it did. -/
def lanesForgeSpec : ChangeSpec := { name := "lanesForge", fn := fun _ => fun
  | [d1, d2] => { results := [.lit (.bool true)], args := [d1, d2] }
  | _ => none }
def lanesForgeRow : OpenClaim := { program := "ytijeieamodjgbaa", sum := "168e9f1b6988e1c3cb1eb594466649e256164dba5621ef838254ccf547ef0862", func := "witan/witanlaw20.LanesForge", spec := "lanesForge", inPlace := ["math.Float64frombits", "math.Float64bits"], unfollowed := true, recurses := true, plainKeys := false, apart := false }
def LanesForgeSaid : Prop := lanesForgeRow.holds Try.pinned (OpenSpec.ofChange lanesForgeSpec)

/-- ITS FALSE NEIGHBOUR: 'it returns false'. Refute it at one input. -/
def lanesForgeWrong : ChangeSpec := { name := "lanesForge", fn := fun _ => fun
  | [d1, d2] => { results := [.lit (.bool false)], args := [d1, d2] }
  | _ => none }
def LanesForgeWrongFalsely : Prop := lanesForgeRow.holds Try.pinned (OpenSpec.ofChange lanesForgeWrong)

/-- 'witanlaw20.LanesNil': WHATEVER THE INPUT: true; the input reads as it did. -/
def lanesNilSpec : ChangeSpec := { name := "lanesNil", fn := fun _ => fun
  | [d1, d2] => { results := [.lit (.bool true)], args := [d1, d2] }
  | _ => none }
def lanesNilRow : OpenClaim := { program := "ytijeieamodjgbaa", sum := "168e9f1b6988e1c3cb1eb594466649e256164dba5621ef838254ccf547ef0862", func := "witan/witanlaw20.LanesNil", spec := "lanesNil", inPlace := ["math.Float64frombits", "math.Float64bits"], unfollowed := true, recurses := true, plainKeys := false, apart := false }
def LanesNilSaid : Prop := lanesNilRow.holds Try.pinned (OpenSpec.ofChange lanesNilSpec)

/-- ITS FALSE NEIGHBOUR: 'it returns false'. Refute it at one input. -/
def lanesNilWrong : ChangeSpec := { name := "lanesNil", fn := fun _ => fun
  | [d1, d2] => { results := [.lit (.bool false)], args := [d1, d2] }
  | _ => none }
def LanesNilWrongFalsely : Prop := lanesNilRow.holds Try.pinned (OpenSpec.ofChange lanesNilWrong)

/-- 'witanlaw19.ClientOnce': WHATEVER THE INPUT: true; the input reads as it did. -/
def clientOnceSpec : ChangeSpec := { name := "clientOnce", fn := fun _ => fun
  | [d1, d2, d3] => { results := [.lit (.bool true)], args := [d1, d2, d3] }
  | _ => none }
def clientOnceRow : OpenClaim := { program := "ytijeieamodjgbaa", sum := "168e9f1b6988e1c3cb1eb594466649e256164dba5621ef838254ccf547ef0862", func := "witan/witanlaw19.ClientOnce", spec := "clientOnce", inPlace := ["math.Float64frombits", "math.Float64bits"], plainKeys := false, apart := false }
def ClientOnceSaid : Prop := clientOnceRow.holds Try.pinned (OpenSpec.ofChange clientOnceSpec)

/-- ITS FALSE NEIGHBOUR: 'it returns false'. Refute it at one input. -/
def clientOnceWrong : ChangeSpec := { name := "clientOnce", fn := fun _ => fun
  | [d1, d2, d3] => { results := [.lit (.bool false)], args := [d1, d2, d3] }
  | _ => none }
def ClientOnceWrongFalsely : Prop := clientOnceRow.holds Try.pinned (OpenSpec.ofChange clientOnceWrong)

/- THE SECOND FORM. 'bulk': how many values and letters a reading holds, each counted each time it is reached (what is shared counts as often as it is met; a slice's spare places count too). A statement '..UptoSaid' is the law's where the arguments, and the package variables that the reading takes, are together of bulk at most 1048576: NARROWER than '..Said'. Prove '..Said' where nothing that the law and all that it calls make is longer than what came in: it says more and counts as full. Else prove '..UptoSaid'. A law counts once. -/
mutual
def uptoBulk {H : Type} : DataW H → Nat
  | .lit (.string bytes) => bytes.length + 1
  | .lit _ => 1
  | .nil => 1
  | .ptr d => uptoBulk d + 1
  | .slice elems spare => uptoBulkAll elems + uptoBulkAll spare + 1
  | .agg parts => uptoBulkAll parts + 1
  | .iface _ d => uptoBulk d + 1
  | .map entries => uptoBulkEntries entries + 1
  | .held _ => 1
def uptoBulkAll {H : Type} : List (DataW H) → Nat
  | [] => 0
  | d :: r => uptoBulk d + uptoBulkAll r
def uptoBulkEntries {H : Type} : List (Lit × DataW H) → Nat
  | [] => 0
  | x :: r => uptoBulkEntry x + uptoBulkEntries r
def uptoBulkEntry {H : Type} : Lit × DataW H → Nat
  | (.string bytes, d) => bytes.length + uptoBulk d + 1
  | (_, d) => uptoBulk d + 1
 end
def uptoSmall : (H : Type) → List (DataW H) → Bool := fun _ ds => decide (uptoBulkAll ds ≤ 1048576)
def OpenSpec.upto (s : _root_.Go.ChangeSpec) : _root_.Go.OpenSpec := { _root_.Go.OpenSpec.ofChange s with cond := some uptoSmall }

/-- 'witanlaw13.WireTells', WHERE WHAT IT READS IS OF BULK AT MOST 1048576: true; the input reads as it did. -/
def wireTellsUptoRow : OpenClaim := { program := "ytijeieamodjgbaa", sum := "168e9f1b6988e1c3cb1eb594466649e256164dba5621ef838254ccf547ef0862", func := "witan/witanlaw13.WireTells", spec := "wireTells", inPlace := ["math.Float64frombits", "math.Float64bits"], unfollowed := true, recurses := true, plainKeys := false, apart := false, narrowed := true }
def WireTellsUptoSaid : Prop := wireTellsUptoRow.holds Try.pinned (OpenSpec.upto wireTellsSpec)

/-- 'witanlaw13.WireBack', WHERE WHAT IT READS IS OF BULK AT MOST 1048576: true; the input reads as it did. -/
def wireBackUptoRow : OpenClaim := { program := "ytijeieamodjgbaa", sum := "168e9f1b6988e1c3cb1eb594466649e256164dba5621ef838254ccf547ef0862", func := "witan/witanlaw13.WireBack", spec := "wireBack", inPlace := ["math.Float64frombits", "math.Float64bits"], unfollowed := true, recurses := true, plainKeys := false, apart := false, narrowed := true }
def WireBackUptoSaid : Prop := wireBackUptoRow.holds Try.pinned (OpenSpec.upto wireBackSpec)

/-- 'witanlaw13.WireWhole', WHERE WHAT IT READS IS OF BULK AT MOST 1048576: true; the input reads as it did. -/
def wireWholeUptoRow : OpenClaim := { program := "ytijeieamodjgbaa", sum := "168e9f1b6988e1c3cb1eb594466649e256164dba5621ef838254ccf547ef0862", func := "witan/witanlaw13.WireWhole", spec := "wireWhole", inPlace := ["math.Float64frombits", "math.Float64bits"], unfollowed := true, recurses := true, plainKeys := false, apart := false, narrowed := true }
def WireWholeUptoSaid : Prop := wireWholeUptoRow.holds Try.pinned (OpenSpec.upto wireWholeSpec)

/-- 'witanlaw13.WireUnlike', WHERE WHAT IT READS IS OF BULK AT MOST 1048576: true; the input reads as it did. -/
def wireUnlikeUptoRow : OpenClaim := { program := "ytijeieamodjgbaa", sum := "168e9f1b6988e1c3cb1eb594466649e256164dba5621ef838254ccf547ef0862", func := "witan/witanlaw13.WireUnlike", spec := "wireUnlike", inPlace := ["math.Float64frombits", "math.Float64bits"], unfollowed := true, recurses := true, plainKeys := false, apart := false, narrowed := true }
def WireUnlikeUptoSaid : Prop := wireUnlikeUptoRow.holds Try.pinned (OpenSpec.upto wireUnlikeSpec)

/-- 'witanlaw13.WireTerms', WHERE WHAT IT READS IS OF BULK AT MOST 1048576: true; the input reads as it did. -/
def wireTermsUptoRow : OpenClaim := { program := "ytijeieamodjgbaa", sum := "168e9f1b6988e1c3cb1eb594466649e256164dba5621ef838254ccf547ef0862", func := "witan/witanlaw13.WireTerms", spec := "wireTerms", inPlace := ["math.Float64frombits", "math.Float64bits"], unfollowed := true, recurses := true, plainKeys := false, apart := false, narrowed := true }
def WireTermsUptoSaid : Prop := wireTermsUptoRow.holds Try.pinned (OpenSpec.upto wireTermsSpec)

/-- 'witanlaw20.LanesOrder', WHERE WHAT IT READS IS OF BULK AT MOST 1048576: true; the input reads as it did. -/
def lanesOrderUptoRow : OpenClaim := { program := "ytijeieamodjgbaa", sum := "168e9f1b6988e1c3cb1eb594466649e256164dba5621ef838254ccf547ef0862", func := "witan/witanlaw20.LanesOrder", spec := "lanesOrder", inPlace := ["math.Float64frombits", "math.Float64bits"], unfollowed := true, recurses := true, plainKeys := false, apart := false, narrowed := true }
def LanesOrderUptoSaid : Prop := lanesOrderUptoRow.holds Try.pinned (OpenSpec.upto lanesOrderSpec)

/-- 'witanlaw20.LanesCount', WHERE WHAT IT READS IS OF BULK AT MOST 1048576: true; the input reads as it did. -/
def lanesCountUptoRow : OpenClaim := { program := "ytijeieamodjgbaa", sum := "168e9f1b6988e1c3cb1eb594466649e256164dba5621ef838254ccf547ef0862", func := "witan/witanlaw20.LanesCount", spec := "lanesCount", inPlace := ["math.Float64frombits", "math.Float64bits"], unfollowed := true, recurses := true, plainKeys := false, apart := false, narrowed := true }
def LanesCountUptoSaid : Prop := lanesCountUptoRow.holds Try.pinned (OpenSpec.upto lanesCountSpec)

/-- 'witanlaw20.LanesForge', WHERE WHAT IT READS IS OF BULK AT MOST 1048576: true; the input reads as it did. -/
def lanesForgeUptoRow : OpenClaim := { program := "ytijeieamodjgbaa", sum := "168e9f1b6988e1c3cb1eb594466649e256164dba5621ef838254ccf547ef0862", func := "witan/witanlaw20.LanesForge", spec := "lanesForge", inPlace := ["math.Float64frombits", "math.Float64bits"], unfollowed := true, recurses := true, plainKeys := false, apart := false, narrowed := true }
def LanesForgeUptoSaid : Prop := lanesForgeUptoRow.holds Try.pinned (OpenSpec.upto lanesForgeSpec)

/-- 'witanlaw20.LanesNil', WHERE WHAT IT READS IS OF BULK AT MOST 1048576: true; the input reads as it did. -/
def lanesNilUptoRow : OpenClaim := { program := "ytijeieamodjgbaa", sum := "168e9f1b6988e1c3cb1eb594466649e256164dba5621ef838254ccf547ef0862", func := "witan/witanlaw20.LanesNil", spec := "lanesNil", inPlace := ["math.Float64frombits", "math.Float64bits"], unfollowed := true, recurses := true, plainKeys := false, apart := false, narrowed := true }
def LanesNilUptoSaid : Prop := lanesNilUptoRow.holds Try.pinned (OpenSpec.upto lanesNilSpec)

/-- 'witanlaw19.ClientOnce', WHERE WHAT IT READS IS OF BULK AT MOST 1048576: true; the input reads as it did. -/
def clientOnceUptoRow : OpenClaim := { program := "ytijeieamodjgbaa", sum := "168e9f1b6988e1c3cb1eb594466649e256164dba5621ef838254ccf547ef0862", func := "witan/witanlaw19.ClientOnce", spec := "clientOnce", inPlace := ["math.Float64frombits", "math.Float64bits"], plainKeys := false, apart := false, narrowed := true }
def ClientOnceUptoSaid : Prop := clientOnceUptoRow.holds Try.pinned (OpenSpec.upto clientOnceSpec)

end Rows
end Go.Proofs.Ytijeieamodjgbaa
