
/- From the reading of an argument to what the walks are told of it: ints, strings, slices of ints, configurations. No program in sight. -/
import Derived.ProofKit
import Derived.OpenShut
import Derived.ShutString
import Derived.ChangeOld
import Derived.Lib.SmallJoins
import Derived.SizedLaws
import Derived.Test.YtijeieamodjgbabMem
import Derived.Test.YtijeieamodjgbabRows
import Derived.WalkKit

namespace Go.Proofs.Ytijeieamodjgbab
set_option maxRecDepth 100000
open Go.ChangeShapes Go.WideShapes Go.ChangeAt Go.RowKit
open Go.ChangeMaps (open_string shut_string)

theorem wf_i64 {x : Int} (h : (Lit.int .i64 x).wf = true) : i64 x := by
  simpa [i64, Lit.wf, IntKind.min, IntKind.max, IntKind.signed, IntKind.bits] using h
theorem wf_u64 {x : Int} (h : (Lit.int .u64 x).wf = true) : 0 ≤ x ∧ x ≤ 18446744073709551615 := by
  simpa [Lit.wf, IntKind.min, IntKind.max, IntKind.signed, IntKind.bits] using h

section
variable {H : Type} {enc : TypeId × Value → H} {P : Program} {w : World} {fuel : Nat} {t : TypeId} {cs : List Value} {x : DataW H × List MemPlace}

theorem view_int (ht : P.underlying t = some (.int .i64)) (h : DataW.trod enc P w 0 (fun _ => true) true fuel t cs = some x) : ∃ n, cs = [.int .i64 n] ∧ i64 n := by
  obtain ⟨n, h, _, hw⟩ := DataW.trod_int ht h
  exact ⟨n, h, wf_i64 hw⟩
end

theorem weights_of {H : Type} {P : Program} {ts : List TypeId} {ds : List (DataW H)} (h : (DataW.weightsEach P ts ds).all (· ≤ reachBytes) = true) {j : Nat} {t : TypeId} {d : DataW H} (ht : ts[j]? = some t) (hd : ds[j]? = some d) : ∀ m ∈ d.weights P t, m ≤ 140737488351232 := fun m hm => by
  have h1 := List.all_eq_true.1 h m (DataW.weights_mem_each ht hd m hm)
  have h2 : m ≤ reachBytes := of_decide_eq_true h1
  have h3 : reachBytes = 140737488351232 := rfl
  omega
theorem cells_agg {P : Program} {W : World} {r : Reach} {b0 : Nat} {t : TypeId} {fs : Array Field} {v : Value} (hs : P.underlying t = some (.struct fs)) (hv : Value.okWide P W r b0 t v) : ∃ cs, v = .agg cs ∧ v.cells = cs := by
  obtain ⟨cs, rfl, _⟩ := okWide_struct hs hv
  exact ⟨cs, rfl, rfl⟩
theorem agg_of {v : Value} {cs : Array Value} {l : List Value} (h : v = .agg cs ∧ v.cells = cs) (hl : v.cells.toList = l) : v = .agg l.toArray := by
  obtain ⟨rfl, h2⟩ := h
  rw [h2] at hl
  subst hl
  rfl
theorem int_of {P : Program} {W : World} {r : Reach} {b0 : Nat} {t : TypeId} {k : IntKind} {v : Value} {n : Int} (hs : P.underlying t = some (.int k)) (hv : Value.okWide P W r b0 t v) (hl : v.cells.toList = [.int k n]) : v = .int k n := by
  obtain ⟨m, rfl⟩ := okWide_int hs hv
  simpa [Value.cells] using hl
theorem slice_of {P : Program} {W : World} {r : Reach} {b0 : Nat} {t e : TypeId} {v : Value} {a : Option Addr} {n c : Nat} (hs : P.underlying t = some (.slice e)) (hv : Value.okWide P W r b0 t v) (hl : v.cells.toList = [.slice a n c]) : v = .slice a n c := by
  obtain ⟨a', n', c', rfl⟩ := okWide_slice hs hv
  simpa [Value.cells] using hl
end Go.Proofs.Ytijeieamodjgbab

/- For each law: its arguments read behind the call as before; and its arguments' readings as the walks take them. -/
namespace Go.Proofs.Ytijeieamodjgbab
set_option maxRecDepth 100000
open Go.ChangeShapes Go.WideShapes Go.ChangeAt Go.RowKit

theorem own : ownKnob Try.prog.godebug = none := by kernel_rfl
theorem laidOut : laidOutB Try.prog = true := by kernel_rfl

theorem trodAll_again {H : Type} {enc : TypeId × Value → H} {P : Program} (hl : laidOutB P = true) {W W' : World} (hb : Below W.heap.size W W') :
    ∀ {ts : List TypeId} {vs : List Value} {ds : List (DataW H)} {p : List MemPlace}, (ts.all fun t => P.readableRec t && decide (t < P.types.size)) = true →
      DataW.TrodAll enc P W 0 (fun _ => true) true ts vs ds p → DataW.TrodAll enc P W' 0 (fun b => decide (b < W.heap.size)) true ts vs ds p
  | [], [], [], _, _, h => by cases h; rfl
  | t :: ts, v :: vs, d :: ds, ps, hr, h => by
    obtain ⟨p, q, h1, h2, rfl⟩ := h
    have h1' := h1
    obtain ⟨m, hm⟩ := h1'
    simp only [List.all_cons, Bool.and_eq_true, decide_eq_true_eq] at hr
    exact ⟨p, q, Below.trod hl hr.1.1 hr.1.2 h1 hb (fun x hx => DataW.trod_lt m _ _ _ hm x hx), trodAll_again hl hb hr.2 h2, rfl⟩

end Go.Proofs.Ytijeieamodjgbab
