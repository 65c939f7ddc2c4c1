
/- slices.Delete of one packet: what it leaves of a row. -/
import Derived.Test.YtijeieamodjgbaaNews3
import Derived.Test.YtijeieamodjgbaaVw
import Derived.Deep.DeepAppendRoom
import Derived.Lib.SliceRun
import Derived.Deep.DeepCutAuto
import Derived.IntWalk
namespace Go.Proofs.Ytijeieamodjgbaa
set_option maxRecDepth 100000
open Go.RowKit
set_option linter.unusedVariables false
set_option linter.unusedSimpArgs false

def zeroPk : List Value := [.int .i64 0, .int .i64 0, .int .i64 0, .int .i64 0, .int .i64 0, .int .i64 0, .int .i64 0, .int .i64 0, .int .i64 0, .string ⟨#[]⟩, .float .f64 0, .int .i64 0, .int .i64 0, .float .f64 0, .string ⟨#[]⟩, .slice none 0 0, .slice none 0 0, .slice none 0 0, .slice none 0 0]
theorem info_pk : (Try.prog.info? 56).map (fun i => (i.zero, i.size, i.bytes)) = some (some (.agg zeroPk.toArray), 19, 232) := by kernel_rfl
theorem zeroPk_run (w : World) : (zeroValue 56).run Try.prog w = .ok (.agg zeroPk.toArray) w := by kernel_rfl
theorem clear_pk (w : World) (b o c ty : Nat) (hc : ∀ j, j < 19 → (w.cell? ⟨b, o + j, none⟩).isSome = true) (hf : ∀ j, j < 19 → w.frozen? ⟨b, o + j, none⟩ = false) :
    (Builtin.clear_ #[50] ty #[.slice (some ⟨b, o, none⟩) 1 c]).run Try.prog w = .ok (.tuple #[]) (w.setCells b o zeroPk) := by
  have hst := run_storeCells_cells (P := Try.prog) b o zeroPk 0 w (fun j hj => by have := hc j hj; simpa using this) (fun j hj => by have := hf j hj; simpa using this) (by intro v hv; simp only [zeroPk, List.mem_cons, List.not_mem_nil, or_false] at hv; rcases hv with rfl | rfl | rfl | rfl | rfl | rfl | rfl | rfl | rfl | rfl | rfl | rfl | rfl | rfl | rfl | rfl | rfl | rfl | rfl <;> rfl)
  simp only [Nat.add_zero] at hst
  have hz : (Builtin.zeroCells (Value.agg zeroPk.toArray).cells 1).toList = zeroPk := by kernel_rfl
  have hv := zeroPk_run
  generalize Value.agg zeroPk.toArray = Z at hz hv
  generalize zeroPk = zp at *
  simp [Builtin.clear_, run_underlying Try.underlying50, hv, hz, hst]
theorem owns_beyond {w : World} {B e s n m c g : Nat} {xs : List Value} (h : w.ownsRow B e s (.slice (some ⟨g, 0, none⟩) n c) n xs) {j : Nat} (hj : n * s ≤ j) (u : Value) : (w.setCell ⟨g, j, none⟩ u).ownsRow B e s (.slice (some ⟨g, 0, none⟩) n c) n xs := by
  refine ⟨h.1, ?_⟩
  rcases h.2 with hn | ⟨k, cap, cur, hv, hb, hk, h1, h2, h3, h4⟩
  · exact .inl hn
  · injection hv with hv hv2 hv3
    injection hv with hv
    injection hv with hv
    subst hv
    subst hv3
    refine .inr ⟨g, c, cur.setIfInBounds j u, rfl, hb, blk_set hk j u, h1, h2, by simpa using h3, ?_⟩
    rw [Array.toList_setIfInBounds, List.take_set, h4]
    rw [List.set_eq_of_length_le (by rw [← h4, List.length_take]; omega)]
theorem owns_beyonds {B e s n c g : Nat} {xs : List Value} : ∀ (vs : List Value) {w : World} {j : Nat}, w.ownsRow B e s (.slice (some ⟨g, 0, none⟩) n c) n xs → n * s ≤ j → (w.setCells g j vs).ownsRow B e s (.slice (some ⟨g, 0, none⟩) n c) n xs
  | [], w, j, h, _ => h
  | v :: r, w, j, h, hj => owns_beyonds r (owns_beyond (m := 0) h hj v) (by omega)
theorem keep_sets {X : Nat → Prop} {g : Nat} (hg : X g) : ∀ (vs : List Value) {w w1 : World} {j : Nat}, Keep X w w1 → Keep X w (w1.setCells g j vs)
  | [], w, w1, j, h => h
  | v :: r, w, w1, j, h => keep_sets hg r (h.set (.inr hg) j v)
theorem owns_pre {w : World} {B e s n m c g : Nat} {xs : List Value} (h : w.ownsRow B e s (.slice (some ⟨g, 0, none⟩) n c) n xs) (hm : m ≤ n) : w.ownsRow B e s (.slice (some ⟨g, 0, none⟩) m c) m (xs.take (m * s)) := by
  have hms : m * s ≤ n * s := Nat.mul_le_mul_right _ hm
  refine ⟨by rw [List.length_take, h.1]; omega, ?_⟩
  rcases h.2 with ⟨hv, _⟩ | ⟨k, cap, cur, hv, hb, hk, h1, h2, h3, h4⟩
  · cases hv
  · injection hv with hv hv2 hv3
    subst hv3
    exact .inr ⟨k, c, cur, by rw [hv], hb, hk, by omega, h2, h3, by rw [← h4, List.take_take]; congr 1; omega⟩
theorem owns_cell {w : World} {B e s n c g : Nat} {xs : List Value} (h : w.ownsRow B e s (.slice (some ⟨g, 0, none⟩) n c) n xs) : n ≤ c ∧ ∃ cur, w.heap[g]? = some (.cells cur e (0, 0)) ∧ cur.size = c * s ∧ ∀ j u, xs[j]? = some u → w.cell? ⟨g, j, none⟩ = some u := by
  rcases h.2 with ⟨hv, _⟩ | ⟨k, cap, cur, hv, hb, hk, h1, h2, h3, h4⟩
  · cases hv
  · injection hv with hv hv2 hv3
    injection hv with hv
    injection hv with hv
    subst hv
    subst hv3
    refine ⟨h1, cur, hk, h3, fun j u hj => ?_⟩
    rw [blk_cell hk, ← hj, ← h4]
    have hlt : j < (cur.toList.take (n * s)).length := by rw [h4]; exact (List.getElem?_eq_some_iff.1 hj).1
    rw [List.length_take] at hlt
    rw [List.getElem?_take_of_lt (by omega)]
    simp
def delR (g k n c : Nat) : Nat → World → Value → Prop
  | 0 => fun _ v => v = .slice (some ⟨g, 0, none⟩) n c
  | 1 => fun _ v => v = .int .i64 (k : Int)
  | 2 => fun _ v => v = .slice (some ⟨g, 0, none⟩) k c
  | 3 => fun _ v => v = .slice (some ⟨g, 0, none⟩) n c
  | 4 => fun _ v => v = .int .i64 ((k : Int) + 1)
  | 5 => fun _ v => v = .slice (if c = k + 1 then some ⟨g, 0, none⟩ else some ⟨g, (k + 1) * 19, none⟩) (n - (k + 1)) (c - (k + 1))
  | _ => fun _ _ => False
theorem delR_stab {g k n c : Nat} : ∀ j w w' v, delR g k n c j w v → Below w.heap.size w w' → delR g k n c j w' v
  | 0, w, w', v, h, hb => h
  | 1, w, w', v, h, hb => h
  | 2, w, w', v, h, hb => h
  | 3, w, w', v, h, hb => h
  | 4, w, w', v, h, hb => h
  | 5, w, w', v, h, hb => h
  | _ + 6, w, w', v, h, hb => h

set_option maxHeartbeats 2000000 in
theorem del_any (B g n c k : Nat) (xs : List Value) (w : World) (ho : w.ownsRow B 56 19 (.slice (some ⟨g, 0, none⟩) n c) n xs) (hk : k < n) (h1 : ∀ u ∈ xs, u.oneCell' = true) (hc : c ≤ 9223372036854775807) :
    Calls Try.prog 77 #[.slice (some ⟨g, 0, none⟩) n c, .int .i64 (k : Int), .int .i64 ((k : Int) + 1)] w fun r w' => r = .returned (.slice (some ⟨g, 0, none⟩) (n - 1) c) ∧
      w'.ownsRow B 56 19 (.slice (some ⟨g, 0, none⟩) (n - 1) c) (n - 1) (xs.take (k * 19) ++ xs.drop ((k + 1) * 19)) ∧ Keep (fun z => z = g) w w' := by
  obtain ⟨ii, hii, hz0, hz1, hz2⟩ := info_parts info_pk
  obtain ⟨hnc, cur, hg, hsz, hcell⟩ := owns_cell ho
  have HO := Lib.hid ho; have H1 := Lib.hid h1; have HC := Lib.hid hcell
  have hn0 : (0 : Int) ≤ (k : Int) := by omega
  have hn1 : (k : Int) < (n : Int) := by omega
  have hne : ((k : Int) == (k : Int) + 1) = false := by simp; omega
  clear ho h1 hcell hg hsz
  go_enter Try.func77, Try.ntmps77
  have hkn : (k : Int) + 1 ≤ (n : Int) := by omega
  have hk00 : (0 : Int) ≤ (k : Int) + 1 := by omega
  have hkc : (k : Int) ≤ (c : Int) := by omega
  have hk2 : (k : Int) + 1 ≤ (c : Int) := by omega
  have hnn : (n : Int) ≤ (c : Int) := by omega
  have hw1 : IntKind.i64.wrap ((k : Int) + 1) = (k : Int) + 1 := IntWalk.i64_in _ (by omega)
  go_upto_region 5 with (fail)
  refine wp_region_made 6 (delR g k n c) (fun _ _ => none) rfl (by kernel_rfl) (by kernel_rfl) delR_stab (fun _ _ _ _ _ h => by cases h) (fun i oo hi ho => ?_) (fun vs w7 hb7 hs hne => ?_)
  · intro ac wa hba hE hF K hK
    have b7 := below_undrew hba
    have hno : ∀ k, (none : Option Nat) = some k → wa.heap.size ≤ k := fun _ h => by cases h
    have hi' : i = 0 ∨ i = 1 ∨ i = 2 ∨ i = 3 ∨ i = 4 ∨ i = 5 := by omega
    rcases hi' with rfl | rfl | rfl | rfl | rfl | rfl
    · obtain rfl := Option.some.inj ho
      have h1 : ac.eval (.tmp 0) = .slice (some ⟨g, 0, none⟩) n c := hE 0 (by decide)
      exact news_val rfl rfl (by generalize ac.eval = ρ at h1; simp only [execOp]; go_simp) (hK _ _ (Below.refl _ _) rfl hno)
    · obtain rfl := Option.some.inj ho
      have h1 : ac.eval (.tmp 1) = .int .i64 (k : Int) := hE 1 (by decide)
      exact news_val rfl rfl (by generalize ac.eval = ρ at h1; simp only [execOp]; go_simp) (hK _ _ (Below.refl _ _) rfl hno)
    · obtain rfl := Option.some.inj ho
      have h1 : ac.eval (.tmp 20) = .slice (some ⟨g, 0, none⟩) n c := hF ⟨0, .data⟩ (by simp) rfl 20 rfl
      have h2 : ac.eval (.tmp 21) = .int .i64 (k : Int) := hF ⟨1, .data⟩ (by simp) rfl 21 rfl
      exact news_val rfl rfl (by generalize ac.eval = ρ at h1 h2; simp only [execOp]; go_simp) (hK _ _ (Below.refl _ _) rfl hno)
    · obtain rfl := Option.some.inj ho
      have h1 : ac.eval (.tmp 0) = .slice (some ⟨g, 0, none⟩) n c := hE 0 (by decide)
      exact news_val rfl rfl (by generalize ac.eval = ρ at h1; simp only [execOp]; go_simp) (hK _ _ (Below.refl _ _) rfl hno)
    · obtain rfl := Option.some.inj ho
      have h1 : ac.eval (.tmp 2) = .int .i64 ((k : Int) + 1) := hE 2 (by decide)
      exact news_val rfl rfl (by generalize ac.eval = ρ at h1; simp only [execOp]; go_simp) (hK _ _ (Below.refl _ _) rfl hno)
    · obtain rfl := Option.some.inj ho
      have h1 : ac.eval (.tmp 23) = .slice (some ⟨g, 0, none⟩) n c := hF ⟨3, .data⟩ (by simp) rfl 23 rfl
      have h2 : ac.eval (.tmp 24) = .int .i64 ((k : Int) + 1) := hF ⟨4, .data⟩ (by simp) rfl 24 rfl
      exact news_val rfl rfl (by generalize ac.eval = ρ at h1 h2; simp only [execOp]; go_simp) (hK _ _ (Below.refl _ _) rfl hno)
  · have e0 : vs 0 = _ := hs 0 (by omega)
    have e1 : vs 1 = _ := hs 1 (by omega)
    have e2 : vs 2 = _ := hs 2 (by omega)
    have e3 : vs 3 = _ := hs 3 (by omega)
    have e4 : vs 4 = _ := hs 4 (by omega)
    have e5 : vs 5 = _ := hs 5 (by omega)
    show wpList _ _ _ _ ((((((Act.put _ (some 20) (vs 0)).put (some 21) (vs 1)).put (some 22) (vs 2)).put (some 23) (vs 3)).put (some 24) (vs 4)).put (some 25) (vs 5)) _
    rw [e0, e1, e2, e3, e4, e5]
    clear e0 e1 e2 e3 e4 e5 hs hne vs
    have HO7 := owns_old HO.out hb7
    obtain ⟨_, cur7, hg7, hsz7, hcell7⟩ := owns_cell HO7
    have K7 : Keep (fun z => z = g) w w7 := Keep.of_below hb7
    have hx : (xs.drop ((k + 1) * 19)).length = (n - (k + 1)) * 19 := by rw [List.length_drop, HO.out.1, Nat.sub_mul]
    obtain ⟨ad, had, hnews⟩ : ∃ ad : Addr, (if c = k + 1 then some (⟨g, 0, none⟩ : Addr) else some ⟨g, (k + 1) * 19, none⟩) = some ad ∧ ∀ j u, (xs.drop ((k + 1) * 19))[j]? = some u → w7.cell? (ad.add j) = some u := by
      by_cases hck : c = k + 1
      · refine ⟨⟨g, 0, none⟩, by rw [if_pos hck], fun j u hj => ?_⟩
        rw [List.drop_of_length_le (by rw [HO.out.1, show n = k + 1 by omega]; exact Nat.le_refl _)] at hj
        cases hj
      · refine ⟨⟨g, (k + 1) * 19, none⟩, by rw [if_neg hck], fun j u hj => ?_⟩
        rw [Addr.add_lit]
        exact hcell7 _ _ (by rw [List.getElem?_drop] at hj; exact hj)
    rw [had]
    clear had
    simp only [List.drop_succ_cons, List.drop_zero, Act.put, List.setIfInBounds_toArray, List.set_cons_succ, List.set_cons_zero]
    go_wp2_with (first | (at_builtin; refine wpList_append_own_spare _ rfl (.tmp 22) (.tmp 25) 50 rfl B 56 ii 19 Try.underlying50 hii hz1 g k c (xs.take (k * 19)) rfl (owns_pre HO7 (by omega)) ad (n - (k + 1)) (c - (k + 1)) (xs.drop ((k + 1) * 19)) rfl hx hnews (fun u hu => H1.out u (List.mem_of_mem_drop hu)) (by omega) ?_) | fail)
    intro w8 ho8 hg8
    rw [show k + (n - (k + 1)) = n - 1 by omega] at ho8
    have K8 : Keep (fun z => z = g) w w8 := K7.grown hg8 (fun z hz => by injection hz with hz; exact .inr hz.symm)
    obtain ⟨hnc8, cur8, hg8', hsz8, _⟩ := owns_cell ho8
    have hcl0 := fun ty => clear_pk w8 g ((n - 1) * 19) (c - (n - 1)) ty (fun j hj => by
      rw [blk_cell hg8', Option.isSome_iff_exists]
      exact ⟨_, Array.getElem?_eq_getElem (by rw [hsz8]; have : (n - 1 + 1) * 19 ≤ c * 19 := Nat.mul_le_mul_right _ (by omega); omega)⟩) (fun j hj => blk_frozen hg8' _)
    have hcl : ∀ ty, (Builtin.clear_ #[50] ty #[.slice (some ⟨g, (n - 1) * 19, none⟩) (n - (n - 1)) (c - (n - 1))]).run Try.prog w8 = .ok (.tuple #[]) (w8.setCells g ((n - 1) * 19) zeroPk) := fun ty => by rw [show n - (n - 1) = 1 by omega]; exact hcl0 ty
    clear hcl0
    have H8 := Lib.hid (owns_beyonds zeroPk ho8 (Nat.le_refl _))
    have KF := Lib.hid (keep_sets (X := fun z => z = g) (g := g) (j := (n - 1) * 19) rfl zeroPk K8)
    have hcast : (k : Int) + ((n : Int) - ((k : Int) + 1)) = (n : Int) - 1 := by omega
    rw [show k + (n - (k + 1)) = n - 1 by omega]
    have hn10 : ((n - 1 : Nat) : Int) = (n : Int) - 1 := by omega
    have h0n : (0 : Int) ≤ (n : Int) - 1 := by omega
    have hnn1 : (n : Int) - 1 ≤ (n : Int) := by omega
    generalize zeroPk = zp at *
    clear ho8 hg8 K8 hg8' hsz8 K7 HO7 hg7 hsz7 hcell7 hx hnews
    go_wp2_with fail
    go_ret
    exact ⟨rfl, H8.out, KF.out⟩
end Go.Proofs.Ytijeieamodjgbaa
