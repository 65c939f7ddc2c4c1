
/- slices.SortFunc of signatures by who signed. -/
import Derived.Test.YtelmpoaioccpoaaSg
import Derived.Test.YtelmpoaioccpoaaKp
import Derived.Shelf.SlSortCmp.WholeK
import Derived.Shelf.SlSortCmp.NoneTotal
import Derived.Shelf.Lay
import Derived.Ground.SlsfProg
namespace Go.Proofs.Ytelmpoaioccpoaa
set_option maxRecDepth 100000
open Go.Shelf Go.RowKit Go.Lib Go.Sort Go.Proofs
set_option linter.unusedVariables false
set_option linter.unusedSimpArgs false

shelf_lay_g SlLaysF0.n6 Slsf 6 at Try 34 as Try.sortSig

def encS (s : Sg) : List Value := [.int .i64 s.1, .string s.2]
def cfS (x y : Sg) : Int := if x.1 < y.1 then -1 else 1
theorem ltS (x y : Sg) : ltOf cfS x y = decide (x.1 < y.1) := by
  unfold ltOf cfS
  by_cases h : x.1 < y.1 <;> simp [h]
theorem swoS : SWO (ltOf cfS) where
  irrefl x := by rw [ltS]; simp
  trans x y z h1 h2 := by rw [ltS] at *; simp at *; omega
  ntrans x y z h1 h2 := by rw [ltS] at *; simp at *; omega

set_option maxHeartbeats 1000000 in
theorem cmp_any (x y : Sg) (W : World) : Calls Try.prog 35 #[.agg #[.int .i64 x.1, .string x.2], .agg #[.int .i64 y.1, .string y.2]] W fun e w' => e = .returned (.int .i64 (cfS x y)) ∧ ∃ q os', w' = grow (W.drewN q) os' := by
  obtain ⟨x, s⟩ := x
  obtain ⟨y, t⟩ := y
  dsimp only
  by_cases h : x < y
  · have hd : decide (x < y) = true := by simpa using h
    rw [show cfS (x, s) (y, t) = -1 by simp [cfS, h]]
    go_enter Try.func35, Try.ntmps35
    go_wp2_with fail
    go_ret
    exact ⟨rfl, 0, _, by rw [alloc_eq_grow, alloc_eq_grow, grow_grow]; rfl⟩
  · have hd : decide (x < y) = false := by simpa using h
    rw [show cfS (x, s) (y, t) = 1 by simp [cfS, h]]
    go_enter Try.func35, Try.ntmps35
    go_wp2_with fail
    go_ret
    exact ⟨rfl, 0, _, by rw [alloc_eq_grow, alloc_eq_grow, grow_grow]; rfl⟩

def flatV (l : List Sg) : List Value := l.flatMap encS
theorem flatV_len : ∀ l : List Sg, (flatV l).length = l.length * 2
  | [] => rfl
  | s :: r => by rw [flatV, List.flatMap_cons, List.length_append, show (r.flatMap encS).length = r.length * 2 from flatV_len r]; simp [encS]; omega
theorem flatV_get : ∀ (l : List Sg) (t : Nat), t < l.length * 2 → (flatV l)[t]? = some ((encS (l.toArray[t / 2]!))[t % 2]!)
  | [], t, h => by simp at h
  | s :: r, 0, h => by simp [flatV, encS]
  | s :: r, 1, h => by simp [flatV, encS]
  | s :: r, t + 2, h => by
    have h1 := flatV_get r t (by simp at h; omega)
    have e1 : (t + 2) / 2 = t / 2 + 1 := by omega
    have e2 : (t + 2) % 2 = t % 2 := by omega
    rw [e1, e2]
    have h2 : (flatV (s :: r))[t + 2]? = (flatV r)[t]? := by
      show ((encS s) ++ flatV r)[t + 2]? = _
      rw [List.getElem?_append_right (by simp [encS])]; simp [encS]
    rw [h2, h1]
    have h3 : t / 2 < r.length := by simp at h; omega
    simp [h3]
theorem flatK_list (l : List Sg) : (flatK encS 2 l.toArray).toList = flatV l := by
  apply List.ext_getElem?
  intro t
  by_cases ht : t < l.length * 2
  · rw [flatV_get l t ht]
    simp [flatK, ht]
  · rw [List.getElem?_eq_none (by simp; omega), List.getElem?_eq_none (by rw [flatV_len]; omega)]

theorem holds_flat {w : World} {g : Nat} {cur : Array Value} {e : TypeId} {F : Array Value} (hb : w.heap[g]? = some (.cells cur e (0, 0))) (ht : cur.toList.take F.size = F.toList) : Holds id w g 0 F := by
  intro j hj
  refine ⟨?_, by simp [World.frozen?, hb]⟩
  have h1 : (cur.toList.take F.size)[j]? = F.toList[j]? := by rw [ht]
  rw [List.getElem?_take_of_lt hj] at h1
  simp only [World.cell?, hb, Nat.zero_add]
  simp only [Option.isSome_none, Bool.false_eq_true, if_false]
  rw [← Array.getElem?_toList, h1]
  simp [hj]
theorem heap_flat {w : World} {g n : Nat} {os : Array Obj} {cur : Array Value} {e : TypeId} {fr : Nat × Nat} (F : Array Value) (hb : w.heap[g]? = some (.cells cur e fr)) :
    (grow (putRow id (Sort.ahead w n) g 0 F) os).heap[g]? = some (.cells (putCells id 0 F cur) e fr) := by
  have hg : g < w.heap.size := (Array.getElem?_eq_some_iff.1 hb).1
  rw [heap_grow_old _ _ (by simpa using hg)]
  simp [putRow, mapBlock, Sort.ahead, Array.getElem?_modify, hb, onCells]
theorem grown_flat {w : World} {g n : Nat} {os : Array Obj} (F : Array Value) : w.grownBy (grow (putRow id (Sort.ahead w n) g 0 F) os) (some g) := by
  refine ⟨rfl, rfl, rfl, by simp, fun k hk hne => ?_⟩
  rw [heap_grow_old _ _ (by simpa using hk)]
  have : g ≠ k := fun e => hne (by rw [e])
  simp [putRow, mapBlock, Sort.ahead, Array.getElem?_modify, this]
theorem take_flat (cur : Array Value) (F : Array Value) (h : F.size ≤ cur.size) : (putCells id 0 F cur).toList.take F.size = F.toList := by
  apply List.ext_getElem?
  intro j
  by_cases hj : j < F.size
  · rw [List.getElem?_take_of_lt hj, Array.getElem?_toList]
    simp [putCells, hj, show j < cur.size by omega]
  · rw [List.getElem?_take_eq_none (by omega), List.getElem?_eq_none (by simp; omega)]

theorem sort_any (B : Nat) (v : Value) (l : List Sg) (w : World) (h : w.ownsRow B 34 2 v l.length (flatV l)) (hl : l.length < 4611686018427387904) :
    Calls Try.prog 34 #[v, .func (.func 35) #[] #[]] w fun e w' => e = .returned (.tuple #[]) ∧ ∃ l' : List Sg, l'.Perm l ∧ l'.Pairwise (fun x y => ¬ y.1 < x.1) ∧ w'.ownsRow B 34 2 v l'.length (flatV l') ∧ w.grownBy w' v.ownBlock := by
  rcases h.2 with ⟨rfl, h0⟩ | ⟨g, cap, cur, rfl, hB, hb, h1, h2, h3, h4⟩
  · obtain rfl := List.eq_nil_of_length_eq_zero h0
    have hn := AnyF.slices_SortFunc_none (P := Try.prog) { Try.sortSig with } none 0 (.func (.func 35) #[] #[]) w
    exact hn.mono fun e w' ⟨he, hw⟩ => ⟨he, [], List.Perm.refl _, List.Pairwise.nil, by rw [hw]; exact h, by rw [hw]; exact World.grownBy.refl _ _⟩
  · have eg : ∀ args w, (callFunc 35 args).run Try.prog w = .ok (.enter 35 args) w := enters_of Try.func35 (by kernel_rfl) rfl
    have hsz : (flatK encS 2 l.toArray).size = l.length * 2 := by simp
    have hH : HoldsK encS 2 w g 0 l.toArray := holds_flat hb (by rw [hsz, flatK_list]; exact h4)
    have hcon := AnyQ.slices_SortFunc Try.sortSig 2 Try.isAgg34 Try.sizeOf34 encS (fun _ => rfl) (fun x v hv => by simp [encS] at hv; rcases hv with rfl | rfl <;> rfl) cfS swoS 35 #[] g 0 cap l.toArray w eg (fun _ _ _ _ x y => cmp_any x y _) hH (blk_lt hb) (by simpa using hl)
    have hs : l.toArray.size = l.length := by simp
    rw [hs] at hcon
    refine hcon.mono fun e w' ⟨he, d', n, os, hp, hsd, hw⟩ => ⟨he, d'.toList, ?_, ?_, ?_, ?_⟩
    · have := hp.2.2
      have hd' : d'.size = l.length := by rw [hp.1]; simp
      have e1 : d'.extract 0 l.length = d' := by rw [← hd']; simp
      have e2 : l.toArray.extract 0 l.length = l.toArray := by rw [← hs]; simp
      rw [e1, e2] at this
      simpa using this
    · have hd' : d'.size = l.length := by rw [hp.1]; simp
      rw [List.pairwise_iff_getElem]
      intro i j hi hj hij
      have := hsd i j (by omega) hij (by simp at hj; omega)
      rw [ltS] at this
      have h5 : i < d'.size := by simpa using hi
      have h6 : j < d'.size := by simpa using hj
      simpa [h5, h6] using this
    · have hd' : d'.size = l.length := by rw [hp.1]; simp
      have hF : flatV d'.toList = (flatK encS 2 d').toList := by rw [← flatK_list]
      have hFs : (flatK encS 2 d').size = l.length * 2 := by simp [hd']
      rw [hw]
      refine ⟨by rw [flatV_len], .inr ⟨g, cap, _, by simp [hd'], hB, heap_flat _ hb, by simp [hd']; exact h1, h2, by simp [putCells, h3], ?_⟩⟩
      have := take_flat cur (flatK encS 2 d') (by rw [hFs, h3]; omega)
      rw [hF, Array.length_toList, hd', ← hFs]
      exact this
    · rw [hw]; exact grown_flat _
end Go.Proofs.Ytelmpoaioccpoaa
