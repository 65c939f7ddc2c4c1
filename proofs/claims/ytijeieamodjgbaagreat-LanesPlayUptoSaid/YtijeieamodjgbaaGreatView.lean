
/- From the reading of an argument to what the walks are told of it: ints, strings, slices of ints, configurations. No program in sight. -/
import Derived.ProofKit
import Derived.OpenShut
import Derived.ShutString
import Derived.ChangeOld
import Derived.Lib.SmallJoins
import Derived.SizedLaws
import Derived.Test.YtijeieamodjgbaaGreatMem
import Derived.Test.YtijeieamodjgbaaGreatRows
import Derived.WalkKit
namespace Go.Proofs.YtijeieamodjgbaaGreat
set_option maxRecDepth 100000
open Go.ChangeShapes Go.WideShapes Go.ChangeAt Go.RowKit
open Go.ChangeMaps (open_string shut_string)
theorem wf_i64 {x : Int} (h : (Lit.int .i64 x).wf = true) : i64 x := by
  simpa [i64, Lit.wf, IntKind.min, IntKind.max, IntKind.signed, IntKind.bits] using h
section
variable {H : Type} {enc : TypeId × Value → H} {P : Program} {w : World} {fuel : Nat} {t : TypeId} {cs : List Value} {x : DataW H × List MemPlace}
end
theorem slice_of {P : Program} {W : World} {r : Reach} {b0 : Nat} {t e : TypeId} {v : Value} {a : Option Addr} {n c : Nat} (hs : P.underlying t = some (.slice e)) (hv : Value.okWide P W r b0 t v) (hl : v.cells.toList = [.slice a n c]) : v = .slice a n c := by
  obtain ⟨a', n', c', rfl⟩ := okWide_slice hs hv
  simpa [Value.cells] using hl
end Go.Proofs.YtijeieamodjgbaaGreat
/- For each law: its arguments read behind the call as before; and its arguments' readings as the walks take them. -/
namespace Go.Proofs.YtijeieamodjgbaaGreat
set_option maxRecDepth 100000
open Go.ChangeShapes Go.WideShapes Go.ChangeAt Go.RowKit
theorem own : ownKnob Tryz.prog.godebug = none := by kernel_rfl
theorem laidOut : laidOutB Tryz.prog = true := by kernel_rfl
theorem trodAll_again {H : Type} {enc : TypeId × Value → H} {P : Program} (hl : laidOutB P = true) {W W' : World} (hb : Below W.heap.size W W') :
    ∀ {ts : List TypeId} {vs : List Value} {ds : List (DataW H)} {p : List MemPlace}, (ts.all fun t => P.readableRec t && decide (t < P.types.size)) = true →
      DataW.TrodAll enc P W 0 (fun _ => true) true ts vs ds p → DataW.TrodAll enc P W' 0 (fun b => decide (b < W.heap.size)) true ts vs ds p
  | [], [], [], _, _, h => by cases h; rfl
  | t :: ts, v :: vs, d :: ds, ps, hr, h => by
    obtain ⟨p, q, h1, h2, rfl⟩ := h; have h1' := h1; obtain ⟨m, hm⟩ := h1'
    simp only [List.all_cons, Bool.and_eq_true, decide_eq_true_eq] at hr
    exact ⟨p, q, Below.trod hl hr.1.1 hr.1.2 h1 hb (fun x hx => DataW.trod_lt m _ _ _ hm x hx), trodAll_again hl hb hr.2 h2, rfl⟩
end Go.Proofs.YtijeieamodjgbaaGreat
