
/- slices.Delete of one packet: what it leaves of a row. -/
import Derived.Test.YtijeieamodjgbaaNews3
import Derived.Test.YtijeieamodjgbaaVw
import Derived.Deep.DeepAppendRoom
import Derived.Lib.SliceRun
import Derived.Deep.DeepCutAuto
import Derived.IntWalk
import Derived.Test.YtijeieamodjgbaaWt
import Derived.Test.YtijeieamodjgbaaBk
import Derived.Test.YtijeieamodjgbaaKp
import Derived.Laws.IdiomCopy
import Derived.Deep.MidRow

namespace Go.Proofs.Ytijeieamodjgbaa
set_option maxRecDepth 100000
open Go.RowKit
set_option linter.unusedVariables false
set_option linter.unusedSimpArgs false

def zeroPk : List Value := [.int .i64 0, .int .i64 0, .int .i64 0, .int .i64 0, .int .i64 0, .int .i64 0, .int .i64 0, .int .i64 0, .int .i64 0, .string ⟨#[]⟩, .float .f64 0, .int .i64 0, .int .i64 0, .float .f64 0, .string ⟨#[]⟩, .slice none 0 0, .slice none 0 0, .slice none 0 0, .slice none 0 0]
theorem info_pk : (Try.prog.info? 56).map (fun i => (i.zero, i.size, i.bytes)) = some (some (.agg zeroPk.toArray), 19, 232) := by kernel_rfl
theorem zeroPk_run (w : World) : (zeroValue 56).run Try.prog w = .ok (.agg zeroPk.toArray) w := by kernel_rfl
theorem clear_pk (w : World) (b o c ty : Nat) (hc : ∀ j, j < 19 → (w.cell? ⟨b, o + j, none⟩).isSome = true) (hf : ∀ j, j < 19 → w.frozen? ⟨b, o + j, none⟩ = false) :
    (Builtin.clear_ #[50] ty #[.slice (some ⟨b, o, none⟩) 1 c]).run Try.prog w = .ok (.tuple #[]) (w.setCells b o zeroPk) := by
  have hst := run_storeCells_cells (P := Try.prog) b o zeroPk 0 w (fun j hj => by have := hc j hj; simpa using this) (fun j hj => by have := hf j hj; simpa using this) (by intro v hv; simp only [zeroPk, List.mem_cons, List.not_mem_nil, or_false] at hv; rcases hv with rfl | rfl | rfl | rfl | rfl | rfl | rfl | rfl | rfl | rfl | rfl | rfl | rfl | rfl | rfl | rfl | rfl | rfl | rfl <;> rfl)
  simp only [Nat.add_zero] at hst
  have hz : (Builtin.zeroCells (Value.agg zeroPk.toArray).cells 1).toList = zeroPk := by kernel_rfl
  have hv := zeroPk_run
  generalize Value.agg zeroPk.toArray = Z at hz hv
  generalize zeroPk = zp at *
  simp [Builtin.clear_, run_underlying Try.underlying50, hv, hz, hst]
theorem owns_beyond {w : World} {B e s n m c g : Nat} {xs : List Value} (h : w.ownsRow B e s (.slice (some ⟨g, 0, none⟩) n c) n xs) {j : Nat} (hj : n * s ≤ j) (u : Value) : (w.setCell ⟨g, j, none⟩ u).ownsRow B e s (.slice (some ⟨g, 0, none⟩) n c) n xs := by
  refine ⟨h.1, ?_⟩
  rcases h.2 with hn | ⟨k, cap, cur, hv, hb, hk, h1, h2, h3, h4⟩
  · exact .inl hn
  · injection hv with hv hv2 hv3
    injection hv with hv
    injection hv with hv
    subst hv
    subst hv3
    refine .inr ⟨g, c, cur.setIfInBounds j u, rfl, hb, blk_set hk j u, h1, h2, by simpa using h3, ?_⟩
    rw [Array.toList_setIfInBounds, List.take_set, h4]
    rw [List.set_eq_of_length_le (by rw [← h4, List.length_take]; omega)]
theorem owns_beyonds {B e s n c g : Nat} {xs : List Value} : ∀ (vs : List Value) {w : World} {j : Nat}, w.ownsRow B e s (.slice (some ⟨g, 0, none⟩) n c) n xs → n * s ≤ j → (w.setCells g j vs).ownsRow B e s (.slice (some ⟨g, 0, none⟩) n c) n xs
  | [], w, j, h, _ => h
  | v :: r, w, j, h, hj => owns_beyonds r (owns_beyond (m := 0) h hj v) (by omega)
theorem keep_sets {X : Nat → Prop} {g : Nat} (hg : X g) : ∀ (vs : List Value) {w w1 : World} {j : Nat}, Keep X w w1 → Keep X w (w1.setCells g j vs)
  | [], w, w1, j, h => h
  | v :: r, w, w1, j, h => keep_sets hg r (h.set (.inr hg) j v)
theorem owns_pre {w : World} {B e s n m c g : Nat} {xs : List Value} (h : w.ownsRow B e s (.slice (some ⟨g, 0, none⟩) n c) n xs) (hm : m ≤ n) : w.ownsRow B e s (.slice (some ⟨g, 0, none⟩) m c) m (xs.take (m * s)) := by
  have hms : m * s ≤ n * s := Nat.mul_le_mul_right _ hm
  refine ⟨by rw [List.length_take, h.1]; omega, ?_⟩
  rcases h.2 with ⟨hv, _⟩ | ⟨k, cap, cur, hv, hb, hk, h1, h2, h3, h4⟩
  · cases hv
  · injection hv with hv hv2 hv3
    subst hv3
    exact .inr ⟨k, c, cur, by rw [hv], hb, hk, by omega, h2, h3, by rw [← h4, List.take_take]; congr 1; omega⟩
theorem owns_cell {w : World} {B e s n c g : Nat} {xs : List Value} (h : w.ownsRow B e s (.slice (some ⟨g, 0, none⟩) n c) n xs) : n ≤ c ∧ ∃ cur, w.heap[g]? = some (.cells cur e (0, 0)) ∧ cur.size = c * s ∧ ∀ j u, xs[j]? = some u → w.cell? ⟨g, j, none⟩ = some u := by
  rcases h.2 with ⟨hv, _⟩ | ⟨k, cap, cur, hv, hb, hk, h1, h2, h3, h4⟩
  · cases hv
  · injection hv with hv hv2 hv3
    injection hv with hv
    injection hv with hv
    subst hv
    subst hv3
    refine ⟨h1, cur, hk, h3, fun j u hj => ?_⟩
    rw [blk_cell hk, ← hj, ← h4]
    have hlt : j < (cur.toList.take (n * s)).length := by rw [h4]; exact (List.getElem?_eq_some_iff.1 hj).1
    rw [List.length_take] at hlt
    rw [List.getElem?_take_of_lt (by omega)]
    simp
def delR (g k n c : Nat) : Nat → World → Value → Prop
  | 0 => fun _ v => v = .slice (some ⟨g, 0, none⟩) n c
  | 1 => fun _ v => v = .int .i64 (k : Int)
  | 2 => fun _ v => v = .slice (some ⟨g, 0, none⟩) k c
  | 3 => fun _ v => v = .slice (some ⟨g, 0, none⟩) n c
  | 4 => fun _ v => v = .int .i64 ((k : Int) + 1)
  | 5 => fun _ v => v = .slice (if c = k + 1 then some ⟨g, 0, none⟩ else some ⟨g, (k + 1) * 19, none⟩) (n - (k + 1)) (c - (k + 1))
  | _ => fun _ _ => False
theorem delR_stab {g k n c : Nat} : ∀ j w w' v, delR g k n c j w v → Below w.heap.size w w' → delR g k n c j w' v
  | 0, w, w', v, h, hb => h
  | 1, w, w', v, h, hb => h
  | 2, w, w', v, h, hb => h
  | 3, w, w', v, h, hb => h
  | 4, w, w', v, h, hb => h
  | 5, w, w', v, h, hb => h
  | _ + 6, w, w', v, h, hb => h

set_option maxHeartbeats 2000000 in
theorem del_any (B g n c k : Nat) (xs : List Value) (w : World) (ho : w.ownsRow B 56 19 (.slice (some ⟨g, 0, none⟩) n c) n xs) (hk : k < n) (h1 : ∀ u ∈ xs, u.oneCell' = true) (hc : c ≤ 9223372036854775807) :
    Calls Try.prog 77 #[.slice (some ⟨g, 0, none⟩) n c, .int .i64 (k : Int), .int .i64 ((k : Int) + 1)] w fun r w' => r = .returned (.slice (some ⟨g, 0, none⟩) (n - 1) c) ∧
      w'.ownsRow B 56 19 (.slice (some ⟨g, 0, none⟩) (n - 1) c) (n - 1) (xs.take (k * 19) ++ xs.drop ((k + 1) * 19)) ∧ Keep (fun z => z = g) w w' := by
  obtain ⟨ii, hii, hz0, hz1, hz2⟩ := info_parts info_pk
  obtain ⟨hnc, cur, hg, hsz, hcell⟩ := owns_cell ho
  have HO := Lib.hid ho; have H1 := Lib.hid h1; have HC := Lib.hid hcell
  have hn0 : (0 : Int) ≤ (k : Int) := by omega
  have hn1 : (k : Int) < (n : Int) := by omega
  have hne : ((k : Int) == (k : Int) + 1) = false := by simp; omega
  clear ho h1 hcell hg hsz
  go_enter Try.func77, Try.ntmps77
  have hkn : (k : Int) + 1 ≤ (n : Int) := by omega
  have hk00 : (0 : Int) ≤ (k : Int) + 1 := by omega
  have hkc : (k : Int) ≤ (c : Int) := by omega
  have hk2 : (k : Int) + 1 ≤ (c : Int) := by omega
  have hnn : (n : Int) ≤ (c : Int) := by omega
  have hw1 : IntKind.i64.wrap ((k : Int) + 1) = (k : Int) + 1 := IntWalk.i64_in _ (by omega)
  go_upto_region 5 with (fail)
  refine wp_region_made 6 (delR g k n c) (fun _ _ => none) rfl (by kernel_rfl) (by kernel_rfl) delR_stab (fun _ _ _ _ _ h => by cases h) (fun i oo hi ho => ?_) (fun vs w7 hb7 hs hne => ?_)
  · intro ac wa hba hE hF K hK
    have b7 := below_undrew hba
    have hno : ∀ k, (none : Option Nat) = some k → wa.heap.size ≤ k := fun _ h => by cases h
    have hi' : i = 0 ∨ i = 1 ∨ i = 2 ∨ i = 3 ∨ i = 4 ∨ i = 5 := by omega
    rcases hi' with rfl | rfl | rfl | rfl | rfl | rfl
    · obtain rfl := Option.some.inj ho
      have h1 : ac.eval (.tmp 0) = .slice (some ⟨g, 0, none⟩) n c := hE 0 (by decide)
      exact news_val rfl rfl (by generalize ac.eval = ρ at h1; simp only [execOp]; go_simp) (hK _ _ (Below.refl _ _) rfl hno)
    · obtain rfl := Option.some.inj ho
      have h1 : ac.eval (.tmp 1) = .int .i64 (k : Int) := hE 1 (by decide)
      exact news_val rfl rfl (by generalize ac.eval = ρ at h1; simp only [execOp]; go_simp) (hK _ _ (Below.refl _ _) rfl hno)
    · obtain rfl := Option.some.inj ho
      have h1 : ac.eval (.tmp 20) = .slice (some ⟨g, 0, none⟩) n c := hF ⟨0, .data⟩ (by simp) rfl 20 rfl
      have h2 : ac.eval (.tmp 21) = .int .i64 (k : Int) := hF ⟨1, .data⟩ (by simp) rfl 21 rfl
      exact news_val rfl rfl (by generalize ac.eval = ρ at h1 h2; simp only [execOp]; go_simp) (hK _ _ (Below.refl _ _) rfl hno)
    · obtain rfl := Option.some.inj ho
      have h1 : ac.eval (.tmp 0) = .slice (some ⟨g, 0, none⟩) n c := hE 0 (by decide)
      exact news_val rfl rfl (by generalize ac.eval = ρ at h1; simp only [execOp]; go_simp) (hK _ _ (Below.refl _ _) rfl hno)
    · obtain rfl := Option.some.inj ho
      have h1 : ac.eval (.tmp 2) = .int .i64 ((k : Int) + 1) := hE 2 (by decide)
      exact news_val rfl rfl (by generalize ac.eval = ρ at h1; simp only [execOp]; go_simp) (hK _ _ (Below.refl _ _) rfl hno)
    · obtain rfl := Option.some.inj ho
      have h1 : ac.eval (.tmp 23) = .slice (some ⟨g, 0, none⟩) n c := hF ⟨3, .data⟩ (by simp) rfl 23 rfl
      have h2 : ac.eval (.tmp 24) = .int .i64 ((k : Int) + 1) := hF ⟨4, .data⟩ (by simp) rfl 24 rfl
      exact news_val rfl rfl (by generalize ac.eval = ρ at h1 h2; simp only [execOp]; go_simp) (hK _ _ (Below.refl _ _) rfl hno)
  · have e0 : vs 0 = _ := hs 0 (by omega)
    have e1 : vs 1 = _ := hs 1 (by omega)
    have e2 : vs 2 = _ := hs 2 (by omega)
    have e3 : vs 3 = _ := hs 3 (by omega)
    have e4 : vs 4 = _ := hs 4 (by omega)
    have e5 : vs 5 = _ := hs 5 (by omega)
    show wpList _ _ _ _ ((((((Act.put _ (some 20) (vs 0)).put (some 21) (vs 1)).put (some 22) (vs 2)).put (some 23) (vs 3)).put (some 24) (vs 4)).put (some 25) (vs 5)) _
    rw [e0, e1, e2, e3, e4, e5]
    clear e0 e1 e2 e3 e4 e5 hs hne vs
    have HO7 := owns_old HO.out hb7
    obtain ⟨_, cur7, hg7, hsz7, hcell7⟩ := owns_cell HO7
    have K7 : Keep (fun z => z = g) w w7 := Keep.of_below hb7
    have hx : (xs.drop ((k + 1) * 19)).length = (n - (k + 1)) * 19 := by rw [List.length_drop, HO.out.1, Nat.sub_mul]
    obtain ⟨ad, had, hnews⟩ : ∃ ad : Addr, (if c = k + 1 then some (⟨g, 0, none⟩ : Addr) else some ⟨g, (k + 1) * 19, none⟩) = some ad ∧ ∀ j u, (xs.drop ((k + 1) * 19))[j]? = some u → w7.cell? (ad.add j) = some u := by
      by_cases hck : c = k + 1
      · refine ⟨⟨g, 0, none⟩, by rw [if_pos hck], fun j u hj => ?_⟩
        rw [List.drop_of_length_le (by rw [HO.out.1, show n = k + 1 by omega]; exact Nat.le_refl _)] at hj
        cases hj
      · refine ⟨⟨g, (k + 1) * 19, none⟩, by rw [if_neg hck], fun j u hj => ?_⟩
        rw [Addr.add_lit]
        exact hcell7 _ _ (by rw [List.getElem?_drop] at hj; exact hj)
    rw [had]
    clear had
    simp only [List.drop_succ_cons, List.drop_zero, Act.put, List.setIfInBounds_toArray, List.set_cons_succ, List.set_cons_zero]
    go_wp2_with (first | (at_builtin; refine wpList_append_own_spare _ rfl (.tmp 22) (.tmp 25) 50 rfl B 56 ii 19 Try.underlying50 hii hz1 g k c (xs.take (k * 19)) rfl (owns_pre HO7 (by omega)) ad (n - (k + 1)) (c - (k + 1)) (xs.drop ((k + 1) * 19)) rfl hx hnews (fun u hu => H1.out u (List.mem_of_mem_drop hu)) (by omega) ?_) | fail)
    intro w8 ho8 hg8
    rw [show k + (n - (k + 1)) = n - 1 by omega] at ho8
    have K8 : Keep (fun z => z = g) w w8 := K7.grown hg8 (fun z hz => by injection hz with hz; exact .inr hz.symm)
    obtain ⟨hnc8, cur8, hg8', hsz8, _⟩ := owns_cell ho8
    have hcl0 := fun ty => clear_pk w8 g ((n - 1) * 19) (c - (n - 1)) ty (fun j hj => by
      rw [blk_cell hg8', Option.isSome_iff_exists]
      exact ⟨_, Array.getElem?_eq_getElem (by rw [hsz8]; have : (n - 1 + 1) * 19 ≤ c * 19 := Nat.mul_le_mul_right _ (by omega); omega)⟩) (fun j hj => blk_frozen hg8' _)
    have hcl : ∀ ty, (Builtin.clear_ #[50] ty #[.slice (some ⟨g, (n - 1) * 19, none⟩) (n - (n - 1)) (c - (n - 1))]).run Try.prog w8 = .ok (.tuple #[]) (w8.setCells g ((n - 1) * 19) zeroPk) := fun ty => by rw [show n - (n - 1) = 1 by omega]; exact hcl0 ty
    clear hcl0
    have H8 := Lib.hid (owns_beyonds zeroPk ho8 (Nat.le_refl _))
    have KF := Lib.hid (keep_sets (X := fun z => z = g) (g := g) (j := (n - 1) * 19) rfl zeroPk K8)
    have hcast : (k : Int) + ((n : Int) - ((k : Int) + 1)) = (n : Int) - 1 := by omega
    rw [show k + (n - (k + 1)) = n - 1 by omega]
    have hn10 : ((n - 1 : Nat) : Int) = (n : Int) - 1 := by omega
    have h0n : (0 : Int) ≤ (n : Int) - 1 := by omega
    have hnn1 : (n : Int) - 1 ≤ (n : Int) := by omega
    generalize zeroPk = zp at *
    clear ho8 hg8 K8 hg8' hsz8 K7 HO7 hg7 hsz7 hcell7 hx hnews
    go_wp2_with fail
    go_ret
    exact ⟨rfl, H8.out, KF.out⟩
end Go.Proofs.Ytijeieamodjgbaa

/- Lanes: packets and lanes in memory. No walk yet but of New, full, Len. -/
namespace Go.Proofs.Ytijeieamodjgbaa
set_option maxRecDepth 100000
open Go.RowKit Go.Deep
set_option linter.unusedVariables false
set_option linter.unusedSimpArgs false

/-- A packet: from whom, to whom, the message. -/
structure Pk where
  fr : Int
  tt : Int
  m : Mg
def shPk : Sh Pk := ((Sh.int.pair (Sh.int.pair shMsg)).bytes 232).map fun y => (y.fr, y.tt, y.m)
def pkCs (y : Pk) (a1 : Option Addr) (n1 c1 : Nat) (a2 : Option Addr) (n2 c2 : Nat) (a3 : Option Addr) (n3 c3 : Nat) (a4 : Option Addr) (n4 c4 : Nat) : List Value := .int .i64 y.fr :: .int .i64 y.tt :: mgCs y.m a1 n1 c1 a2 n2 c2 a3 n3 c3 a4 n4 c4
theorem pk_open {w : World} {y : Pk} {cs : List Value} (h : shPk.E w y cs) : ∃ a1 n1 c1 a2 n2 c2 a3 n3 c3 a4 n4 c4, cs = pkCs y a1 n1 c1 a2 n2 c2 a3 n3 c3 a4 n4 c4 ∧ i64 y.fr ∧ i64 y.tt ∧ MsgIn w y.m a1 n1 c1 a2 n2 c2 a3 n3 c3 a4 n4 c4 := by
  obtain ⟨_, _, rfl, ⟨rfl, h1⟩, _, _, rfl, ⟨rfl, h2⟩, h3⟩ := h
  obtain ⟨a1, n1, c1, a2, n2, c2, a3, n3, c3, a4, n4, c4, rfl, h4⟩ := msg_open h3
  exact ⟨a1, n1, c1, a2, n2, c2, a3, n3, c3, a4, n4, c4, rfl, h1, h2, h4⟩
theorem pk_one {w : World} {y : Pk} {cs : List Value} (h : shPk.E w y cs) : ∀ u ∈ cs, u.oneCell' = true := by
  obtain ⟨a1, n1, c1, a2, n2, c2, a3, n3, c3, a4, n4, c4, rfl, _⟩ := pk_open h
  intro u hu
  simp only [pkCs, mgCs, List.mem_cons, List.not_mem_nil, or_false] at hu
  rcases hu with rfl | rfl | rfl | rfl | rfl | rfl | rfl | rfl | rfl | rfl | rfl | rfl | rfl | rfl | rfl | rfl | rfl | rfl | rfl <;> rfl
section
variable {α : Type} {S : Sh α} {X : Nat → Prop} {w : World}
theorem rowOf.all {Q : Value → Prop} (hS : ∀ y cs, S.E w y cs → ∀ u ∈ cs, Q u) : ∀ {l : List α} {xs : List Value}, rowOf S X w l xs → ∀ u ∈ xs, Q u
  | [], xs, h, u, hu => by rw [show xs = [] from h] at hu; cases hu
  | y :: r, xs, ⟨cs, xs', he, _, hr, h⟩, u, hu => by
    rw [he, List.mem_append] at hu
    rcases hu with hu | hu
    · exact hS y cs hr.self u hu
    · exact rowOf.all hS h u hu
theorem rowOf.erase : ∀ {l : List α} {xs : List Value} {k : Nat}, rowOf S X w l xs → k < l.length → rowOf S X w (l.eraseIdx k) (xs.take (k * S.k) ++ xs.drop ((k + 1) * S.k))
  | y :: r, xs, 0, ⟨cs, xs', he, hc, hr, h⟩, _ => by
    rw [he, Nat.zero_mul, List.take_zero, List.nil_append, Nat.zero_add, Nat.one_mul, List.drop_append_of_le_length (by omega), List.drop_of_length_le (by omega), List.nil_append]
    exact h
  | y :: r, xs, k + 1, ⟨cs, xs', he, hc, hr, h⟩, hk => by
    have ih := rowOf.erase h (k := k) (by simpa using hk)
    refine ⟨cs, _, ?_, hc, hr, ih⟩
    rw [he, List.take_append, List.drop_append, List.take_of_length_le (by rw [hc, Nat.add_mul]; omega), List.drop_of_length_le (l := cs) (by rw [hc, Nat.add_mul, Nat.add_mul]; omega), List.nil_append, hc, List.append_assoc,
      show (k + 1) * S.k - S.k = k * S.k by rw [Nat.add_mul]; omega, show (k + 1 + 1) * S.k - S.k = (k + 1) * S.k by simp only [Nat.add_mul]; omega]
end

/-- A lane: who is bad, what is under way, what was signed; its memory is M, all from W on. -/
structure Ln (W : Nat) (M : Nat → Prop) (w : World) (p : Nat) (bad : List Int) (row : List Pk) (book : List Sg) (NB : Nat) : Prop where
  lt : ∀ k, M k → k < w.heap.size
  ge : ∀ k, M k → W ≤ k
  mine : M p
  cap : row.length ≤ 4096
  ex : ∃ ba bn bc v xs pb m N, w.heap[p]? = some (.cells #[.slice ba bn bc, v, .pointer (some ⟨pb, 0, none⟩)] 137 (0, 0)) ∧
    (w.ownsRow W 3 1 (.slice ba bn bc) bn (intsV bad) ∧ bad.length = bn ∧ (∀ x ∈ bad, i64 x) ∧ bn * 8 ≤ 140737488355328 ∧ ∀ k, (Value.slice ba bn bc).ownBlock = some k → M k) ∧
    (w.ownsRow W 56 19 v row.length xs ∧ (∀ k, v.ownBlock = some k → M k) ∧ rowOf shPk (fun k => W ≤ k) w row xs) ∧ BookAt w pb m book N ∧ N ≤ NB ∧ M pb ∧ M m
theorem Ln.keep {W : Nat} {M Y : Nat → Prop} {w w' : World} {p : Nat} {bad : List Int} {row : List Pk} {book : List Sg} {NB : Nat} (h : Ln W M w p bad row book NB) (hk : Keep Y w w') (hY : ∀ k, Y k → ¬ M k ∧ W ≤ k) : Ln W M w' p bad row book NB := by
  obtain ⟨ba, bn, bc, v, xs, pb, m, N, h1, ⟨h2, h3, h4, h5, h6⟩, ⟨h7, h8, h9⟩, h10, h11, h12, h13⟩ := h.ex
  exact ⟨fun k hm => Nat.lt_of_lt_of_le (h.lt k hm) hk.size, h.ge, h.mine, h.cap, ba, bn, bc, v, xs, pb, m, N, by rw [hk.block p (blk_lt h1) (fun hy => (hY p hy).1 h.mine)]; exact h1, ⟨owns_keep h2 hk (fun k hk' hy => (hY k hy).1 (h6 k hk')), h3, h4, h5, h6⟩,
    ⟨owns_keep h7 hk (fun k hk' hy => (hY k hy).1 (h8 k hk')), h8, h9.step hk (fun k _ hy => (hY k hy).2) (fun _ _ h => h)⟩, h10.keep hk (fun hy => (hY _ hy).1 h12) (fun hy => (hY _ hy).1 h13), h11, h12, h13⟩
theorem Ln.old {W : Nat} {M : Nat → Prop} {w w' : World} {p : Nat} {bad : List Int} {row : List Pk} {book : List Sg} {NB : Nat} (h : Ln W M w p bad row book NB) (hb : Below w.heap.size w w') : Ln W M w' p bad row book NB := h.keep (Y := fun _ => False) (Keep.of_below hb) (fun _ h => h.elim)
/-- What a read of a lane meets. -/
theorem Ln.view {W : Nat} {M : Nat → Prop} {w : World} {p : Nat} {bad : List Int} {row : List Pk} {book : List Sg} {NB : Nat} (h : Ln W M w p bad row book NB) :
    ∃ ba bn bc a c pb, w.heap[p]? = some (.cells #[.slice ba bn bc, .slice a row.length c, .pointer (some ⟨pb, 0, none⟩)] 137 (0, 0)) ∧ SlAt Sh.int w ba bn bc bad ∧ SlAt shPk w a row.length c row := by
  obtain ⟨ba, bn, bc, v, xs, pb, m, N, h1, ⟨h2, h3, h4, h5, h6⟩, ⟨h7, h8, h9⟩, h10, h11, h12, h13⟩ := h.ex
  obtain ⟨a, c, rfl⟩ := owns_form h7
  have hcp := h.cap
  exact ⟨ba, bn, bc, a, c, pb, h1, ints_row h2 h3 h4 h5, sl_of_row (B := W) (e := 56) (xs := xs) h7 h9 (by show row.length * 232 ≤ _; omega)⟩
set_option maxHeartbeats 400000 in
theorem lanelen_any (W : Nat) (M : Nat → Prop) (p : Nat) (bad : List Int) (row : List Pk) (book : List Sg) (NB : Nat) (w : World) (h : Ln W M w p bad row book NB) :
    Calls Try.prog 27 #[.pointer (some ⟨p, 0, none⟩)] w fun r w' => r = .returned (.int .i64 row.length) ∧ w = w' := by
  obtain ⟨ba, bn, bc, a, c, pb, hp, _⟩ := h.view
  have x1 : w.cell? ⟨p, 1, none⟩ = some (.slice a row.length c) := by rw [blk_cell hp]; rfl
  have lp := blk_lt hp
  clear hp h
  generalize row.length = n at *
  go_enter Try.func27, Try.ntmps27
  go_wp2_with fail
  go_ret
  exact ⟨rfl, rfl⟩
end Go.Proofs.Ytijeieamodjgbaa

/- Lanes: what a packet more and a packet less leave; walk of at, Take. -/
namespace Go.Proofs.Ytijeieamodjgbaa
set_option maxRecDepth 100000
open Go.RowKit Go.Deep
set_option linter.unusedVariables false
set_option linter.unusedSimpArgs false
attribute [local go_sem] run_store_float

theorem own_ne13 {w : World} {B e s n g : Nat} {v : Value} {xs : List Value} {cs : Array Value} {t : TypeId} {fr : Nat × Nat} (h : w.ownsRow B e s v n xs) (hg : w.heap[g]? = some (.cells cs t fr)) (hne : e ≠ t) : v.ownBlock ≠ some g := fun hk => by
  rcases h.2 with ⟨h0, _⟩ | ⟨g', cap, cur, h0, _, hg', _⟩
  · rw [h0] at hk; cases hk
  · rw [h0] at hk
    have h1 : g' = g := by simpa [Value.ownBlock] using hk
    rw [h1, hg] at hg'
    injection hg' with hg'
    injection hg' with _ hg' _
    exact hne hg'.symm
theorem own_map13 {w : World} {B e s n p m : Nat} {v : Value} {xs : List Value} {l : List Sg} {N : Nat} (h : w.ownsRow B e s v n xs) (hb : BookAt w p m l N) : v.ownBlock ≠ some m := fun hk => by
  obtain ⟨_, _, ⟨es, clock, hm, _⟩, _⟩ := hb.mp
  rcases h.2 with ⟨h0, _⟩ | ⟨g', cap, cur, h0, _, hg', _⟩
  · rw [h0] at hk; cases hk
  · rw [h0] at hk
    have h1 : g' = m := by simpa [Value.ownBlock] using hk
    rw [h1, hm] at hg'
    cases hg'
theorem blk_map13 {w : World} {p m q : Nat} {l : List Sg} {N : Nat} {cs : Array Value} {t : TypeId} {fr : Nat × Nat} (hq : w.heap[q]? = some (.cells cs t fr)) (hb : BookAt w p m l N) : q ≠ m := fun hk => by
  obtain ⟨_, _, ⟨es, clock, hm, _⟩, _⟩ := hb.mp
  rw [hk, hm] at hq
  cases hq
theorem rows_ne13 {w : World} {B B' e e' s s' n n' : Nat} {v v' : Value} {xs xs' : List Value} (h : w.ownsRow B e s v n xs) (h' : w.ownsRow B' e' s' v' n' xs') (hne : e ≠ e') : ∀ k, v.ownBlock = some k → v'.ownBlock ≠ some k := fun k hk hk' => by
  rcases h'.2 with ⟨h0', _⟩ | ⟨g', cap', cur', h0', _, hg', _⟩
  · rw [h0'] at hk'; cases hk'
  · rw [h0'] at hk'
    have h2 : g' = k := by simpa [Value.ownBlock] using hk'
    rw [h2] at hg'
    exact own_ne13 h hg' hne hk
theorem keep_mono13 {X Y : Nat → Prop} {w w' : World} (h : Keep X w w') (hX : ∀ k, X k → Y k) : Keep Y w w' := ⟨h.os, h.tape, h.output, h.size, fun k hk hy => h.block k hk (fun hx => hy (hX k hx))⟩
/-- Another row is laid into the lane: its own block as before, or new. -/
theorem ln_row {W : Nat} {M : Nat → Prop} {w w8 : World} {p : Nat} {bad : List Int} {row row' : List Pk} {book : List Sg} {NB : Nat} {xs' : List Value} {ba a : Option Addr} {bn bc c pb m N : Nat} {xs : List Value} {v' : Value}
    (h : Ln W M w p bad row book NB) (h1 : w.heap[p]? = some (.cells #[.slice ba bn bc, .slice a row.length c, .pointer (some ⟨pb, 0, none⟩)] 137 (0, 0)))
    (h2 : w.ownsRow W 3 1 (.slice ba bn bc) bn (intsV bad) ∧ bad.length = bn ∧ (∀ x ∈ bad, i64 x) ∧ bn * 8 ≤ 140737488355328 ∧ ∀ k, (Value.slice ba bn bc).ownBlock = some k → M k)
    (h7 : w.ownsRow W 56 19 (.slice a row.length c) row.length xs) (h8 : ∀ k, (Value.slice a row.length c).ownBlock = some k → M k) (h10 : BookAt w pb m book N) (h11 : N ≤ NB) (h12 : M pb) (h13 : M m)
    (hk : Keep (fun k => (Value.slice a row.length c).ownBlock = some k) w w8) (ho : w8.ownsRow W 56 19 v' row'.length xs') (hor : v'.ownBlock = none ∨ v'.ownBlock = (Value.slice a row.length c).ownBlock ∨ ∃ k, v'.ownBlock = some k ∧ w.heap.size ≤ k)
    (hr : rowOf shPk (fun k => W ≤ k) w row' xs') (hW : W ≤ w.heap.size) (hcap : row'.length ≤ 4096) :
    (∃ M' : Nat → Prop, (∀ k, M k → M' k) ∧ (∀ k, M' k → M k ∨ w.heap.size ≤ k) ∧ Ln W M' (w8.setCell ⟨p, 1, none⟩ v') p bad row' book NB) ∧ Keep M w (w8.setCell ⟨p, 1, none⟩ v') := by
  have hpl := blk_lt h1
  have hp8 : w8.heap[p]? = _ := (hk.block p hpl (own_ne13 h7 h1 (by decide))).trans h1
  have K9 : Keep (fun k => k = p ∨ (Value.slice a row.length c).ownBlock = some k) w (w8.setCell ⟨p, 1, none⟩ v') :=
    (show Keep (fun k => k = p ∨ (Value.slice a row.length c).ownBlock = some k) w w8 from ⟨hk.os, hk.tape, hk.output, hk.size, fun k hkk hx => hk.block k hkk (fun hc => hx (.inr hc))⟩).set (p := p) (.inr (.inl rfl)) 1 v'
  have hz : (w8.setCell ⟨p, 1, none⟩ v').heap.size = w8.heap.size := by simp [World.setCell]
  have k2 := blk_set hp8 1 v'
  simp only [List.setIfInBounds_toArray, List.set_cons_zero, List.set_cons_succ] at k2
  have hge : ∀ k, k = p ∨ (Value.slice a row.length c).ownBlock = some k → W ≤ k := fun k hk => by
    rcases hk with rfl | hk
    · exact h.ge _ h.mine
    · exact h.ge _ (h8 k hk)
  refine ⟨⟨fun k => M k ∨ v'.ownBlock = some k, fun k hk => .inl hk, fun k hk => ?_, ⟨fun k hk => ?_, fun k hk => ?_, .inl h.mine, hcap, ba, bn, bc, v', xs', pb, m, N, k2, ⟨?_, h2.2.1, h2.2.2.1, h2.2.2.2.1, fun k hk => .inl (h2.2.2.2.2 k hk)⟩, ⟨?_, fun k hk => .inr hk, ?_⟩, ?_, h11, .inl h12, .inl h13⟩⟩, ?_⟩
  · rcases hk with hk | hk
    · exact .inl hk
    · rcases hor with h0 | h0 | ⟨g, h0, hg⟩
      · rw [h0] at hk; cases hk
      · exact .inl (h8 k (by rw [← h0]; exact hk))
      · rw [h0] at hk; injection hk with hk; exact .inr (by omega)
  · rw [hz]
    rcases hk with hk | hk
    · have := h.lt k hk; have := K9.size; omega
    · exact (ho.lt k hk).2
  · rcases hk with hk | hk
    · exact h.ge k hk
    · exact (ho.lt k hk).1
  · exact owns_keep h2.1 K9 (fun k hk' hx => by
      rcases hx with rfl | hx
      · exact own_ne13 h2.1 h1 (by decide) hk'
      · exact rows_ne13 h2.1 h7 (by decide) k hk' hx)
  · exact owns_setother ho (own_ne13 ho hp8 (by decide)) _ _
  · exact hr.step K9 (fun k _ hy => hge k hy) (fun _ _ h => h)
  · exact h10.keep K9 (fun hx => by
      rcases hx with hx | hx
      · have := h10.box; rw [hx, h1] at this; injection this with this; injection this with _ this _; revert this; decide
      · exact own_ne13 h7 h10.box (by decide) hx) (fun hx => by
      rcases hx with hx | hx
      · exact blk_map13 h1 h10 hx.symm
      · exact own_map13 h7 h10 hx)
  · exact keep_mono13 K9 (fun k hk => by
      rcases hk with rfl | hk
      · exact h.mine
      · exact h8 k hk)

/-- The place of the packet n. -/
def plc (n : Int) (s : Nat) : Nat := (n % (s : Int)).toNat
theorem plc_lt {n : Int} {s : Nat} (h : 0 < s) : plc n s < s := by
  have h1 := Int.emod_nonneg n (show (s : Int) ≠ 0 by omega)
  have h2 := Int.emod_lt_of_pos n (show (0 : Int) < s by omega)
  unfold plc; omega
theorem plc_rem {n : Int} {s : Nat} (h : 0 < s) : (n.tmod (s : Int) + (s : Int)).tmod (s : Int) = (plc n s : Int) := by
  have h1 := Int.emod_nonneg n (show (s : Int) ≠ 0 by omega)
  have h2 := Int.emod_lt_of_pos n (show (0 : Int) < s by omega)
  have h3 : n.tmod (s : Int) = n % (s : Int) ∨ n.tmod (s : Int) = n % (s : Int) - (s : Int) := by
    rw [Int.tmod_eq_emod]
    split
    · exact .inl (by omega)
    · exact .inr (by omega)
  have h4 : (plc n s : Int) = n % (s : Int) := by unfold plc; omega
  rw [h4]
  rcases h3 with h3 | h3
  · rw [h3, Int.tmod_eq_emod_of_nonneg (by omega), Int.add_emod_right, Int.emod_emod_of_dvd _ (Int.dvd_refl _)]
  · rw [h3, Int.sub_add_cancel, Int.tmod_eq_emod_of_nonneg h1, Int.emod_emod_of_dvd _ (Int.dvd_refl _)]

set_option maxHeartbeats 1000000 in
theorem laneat_any (W : Nat) (M : Nat → Prop) (p : Nat) (bad : List Int) (row : List Pk) (book : List Sg) (NB : Nat) (n : Int) (w : World) (h : Ln W M w p bad row book NB) (hn : i64 n) :
    Calls Try.prog 76 #[.pointer (some ⟨p, 0, none⟩), .int .i64 n] w fun r w' => r = .returned (if row.length = 0 then .tuple #[.int .i64 0, .bool false] else .tuple #[.int .i64 (plc n row.length), .bool true]) ∧ w = w' := by
  obtain ⟨ba, bn, bc, a, c, pb, hp, _⟩ := h.view
  have x1 : w.cell? ⟨p, 1, none⟩ = some (.slice a row.length c) := by rw [blk_cell hp]; rfl
  have lp := blk_lt hp
  have hcap := h.cap
  clear hp h
  generalize row.length = s at *
  by_cases hs : s = 0
  · subst hs
    have hz : ((0 : Int) == 0) = true := rfl
    rw [if_pos rfl]
    go_enter Try.func76, Try.ntmps76
    go_wp2_with fail
    go_ret2
    exact ⟨rfl, rfl⟩
  · have hz : ((s : Int) == 0) = false := by simp; omega
    have hz2 : ¬ (s : Int) = 0 := by omega
    have hb := Int.tmod_eq_emod (a := n) (b := (s : Int))
    have h1 := Int.emod_nonneg n (show (s : Int) ≠ 0 by omega)
    have h2 := Int.emod_lt_of_pos n (show (0 : Int) < s by omega)
    have h3 : -(s : Int) ≤ n.tmod (s : Int) ∧ n.tmod (s : Int) ≤ (s : Int) := by rw [hb]; split <;> omega
    have HR := Lib.hid (show (wrap64 (n.tmod (s : Int) + (s : Int))).tmod (s : Int) = (plc n s : Int) by rw [show wrap64 (n.tmod (s : Int) + (s : Int)) = n.tmod (s : Int) + (s : Int) from IntWalk.wrap64_in _ (by omega)]; exact plc_rem (by omega))
    clear hb h1 h2 h3
    rw [if_neg hs]
    go_enter Try.func76, Try.ntmps76
    go_wp2_with fail
    go_ret2
    exact ⟨by rw [HR.out]; rfl, rfl⟩
end Go.Proofs.Ytijeieamodjgbaa

/- A struct of many cells, stored and loaded at once: run equations to lay ahead of a walk. No program in sight. -/
namespace Go.Proofs.Ytijeieamodjgbaa
set_option maxRecDepth 100000
open Go.RowKit
set_option linter.unusedVariables false
set_option linter.unusedSimpArgs false

end Go.Proofs.Ytijeieamodjgbaa

/- Lanes: walk of Take. (printed by mkLc.py) -/
namespace Go.Proofs.Ytijeieamodjgbaa
set_option maxRecDepth 100000
open Go.RowKit Go.Deep
set_option linter.unusedVariables false
set_option linter.unusedSimpArgs false
attribute [local go_sem] run_store_float

theorem blk_sets {b : Nat} {t : TypeId} {fr : Nat × Nat} : ∀ (vs : List Value) (w : World) (pre : List Value) (cur : List Value), w.heap[b]? = some (.cells (pre ++ cur).toArray t fr) → cur.length = vs.length → (w.setCells b pre.length vs).heap[b]? = some (.cells (pre ++ vs).toArray t fr)
  | [], w, pre, cur, h, hl => by
    have : cur = [] := List.eq_nil_of_length_eq_zero (by simpa using hl)
    subst this
    exact h
  | v :: r, w, pre, cur, h, hl => by
    cases cur with
    | nil => cases hl
    | cons u cur =>
      have h1 := blk_set h pre.length v
      have h2 := blk_sets (t := t) (fr := fr) r (w.setCell ⟨b, pre.length, none⟩ v) (pre ++ [v]) cur (by
        rw [h1]
        simp [List.set_append]) (by simpa using hl)
      rw [List.length_append, List.append_assoc] at h2
      exact h2
theorem wpList_val {P : Program} {ops : Array Oper} {rest : List Oper} {o : Oper} {a : Act} {w w' : World} {Q : Exit → Act → World → Prop} {v : Value} (hg : o.guard = none) (hrun : (execOp a.eval o).run P w = .ok (.value v) w') (h : wpList P ops Q rest (a.put o.dst v) w') : wpList P ops Q (o :: rest) a w :=
  wpList_plain hg fun K hK => by unfold Oper.wp; rw [hrun]; exact hK _ _ h
theorem sets_below {B : Nat} {w0 : World} {b : Nat} (hb : B ≤ b) : ∀ (vs : List Value) {w : World} {j : Nat}, Below B w0 w → Below B w0 (w.setCells b j vs)
  | [], w, j, h => h
  | v :: r, w, j, h => sets_below hb r (h.setCell hb v)
theorem sets_size {b : Nat} : ∀ (vs : List Value) {w : World} {j : Nat}, (w.setCells b j vs).heap.size = w.heap.size
  | [], w, j => rfl
  | v :: r, w, j => by rw [World.setCells, sets_size r]; simp [World.setCell]
/-- What Take leaves: the packet's parts lie in old memory; the lane without it. -/
def TakePost20 (W : Nat) (M : Nat → Prop) (p : Nat) (bad : List Int) (row : List Pk) (book : List Sg) (NB : Nat) (n : Int) (w : World) (r : Ending) (w' : World) : Prop :=
  Keep M w w' ∧ ∃ M' : Nat → Prop, (∀ k, M k → M' k) ∧ (∀ k, M' k → M k ∨ w.heap.size ≤ k) ∧
    match row[plc n row.length]? with
    | none => r = .returned (.tuple #[.agg zeroPk.toArray, .bool false]) ∧ Ln W M' w' p bad row book NB
    | some y => (∃ cs, r = .returned (.tuple #[.agg cs.toArray, .bool true]) ∧ Rob (fun k => W ≤ k) (fun w' => shPk.E w' y cs) w') ∧ Ln W M' w' p bad (row.eraseIdx (plc n row.length)) book NB

set_option maxHeartbeats 4000000 in
theorem lanetake_any (W : Nat) (M : Nat → Prop) (p : Nat) (bad : List Int) (row : List Pk) (book : List Sg) (NB : Nat) (n : Int) (w : World) (h : Ln W M w p bad row book NB) (hn : i64 n) (hW : W ≤ w.heap.size) :
    Calls Try.prog 25 #[.pointer (some ⟨p, 0, none⟩), .int .i64 n] w (TakePost20 W M p bad row book NB n w) := by
  obtain ⟨w1, hw1⟩ : ∃ w1, w1 = w.alloc (.cells #[.int .i64 0, .int .i64 0, .int .i64 0, .int .i64 0, .int .i64 0, .int .i64 0, .int .i64 0, .int .i64 0, .int .i64 0, .string ⟨#[]⟩, .float .f64 0, .int .i64 0, .int .i64 0, .float .f64 0, .string ⟨#[]⟩, .slice none 0 0, .slice none 0 0, .slice none 0 0, .slice none 0 0] 56 (0, 0)) := ⟨_, rfl⟩
  have b1 : Below w.heap.size w w1 := by rw [hw1]; exact below_alloc _ _
  have hz1 : w1.heap.size = w.heap.size + 1 := by rw [hw1]; simp
  have KZ := Lib.hid (show w1.heap[w.heap.size]? = some (.cells #[.int .i64 0, .int .i64 0, .int .i64 0, .int .i64 0, .int .i64 0, .int .i64 0, .int .i64 0, .int .i64 0, .int .i64 0, .string ⟨#[]⟩, .float .f64 0, .int .i64 0, .int .i64 0, .float .f64 0, .string ⟨#[]⟩, .slice none 0 0, .slice none 0 0, .slice none 0 0, .slice none 0 0] 56 (0, 0)) by rw [hw1]; exact blk_alloc _ _)
  have H1 := Lib.hid (h.old b1)
  have HL := Lib.hid h
  have B1 := Lib.hid b1
  have CA := Lib.hid (laneat_any W M p bad row book NB n w1 (h.old b1) hn)
  have hcap := h.cap
  clear h b1 hz1
  go_enter Try.func25, Try.ntmps25
  go_upto_region 1 with (fail)
  rw [← hw1]
  clear hw1
  go_wp2_with fail
  refine CA.out.mono ?_
  rintro r w1' ⟨rfl, rfl⟩
  clear CA
  have lz := blk_lt KZ.out
  by_cases hs : row.length = 0
  · rw [if_pos hs]
    have hth : w1.there w.heap.size 0 19 := fun j hj => ⟨by rw [blk_cell KZ.out, Option.isSome_iff_exists]; exact ⟨_, Array.getElem?_eq_getElem (by simpa using hj)⟩, blk_frozen KZ.out _⟩
    obtain ⟨w9, hw9⟩ : ∃ u, u = World.setCells w1 w.heap.size 0 [.int .i64 0, .int .i64 0, .int .i64 0, .int .i64 0, .int .i64 0, .int .i64 0, .int .i64 0, .int .i64 0, .int .i64 0, .string ⟨#[]⟩, .float .f64 0, .int .i64 0, .int .i64 0, .float .f64 0, .string ⟨#[]⟩, .slice none 0 0, .slice none 0 0, .slice none 0 0, .slice none 0 0] := ⟨_, rfl⟩
    have K9 := Lib.hid (show w9.heap[w.heap.size]? = some (.cells #[.int .i64 0, .int .i64 0, .int .i64 0, .int .i64 0, .int .i64 0, .int .i64 0, .int .i64 0, .int .i64 0, .int .i64 0, .string ⟨#[]⟩, .float .f64 0, .int .i64 0, .int .i64 0, .float .f64 0, .string ⟨#[]⟩, .slice none 0 0, .slice none 0 0, .slice none 0 0, .slice none 0 0] 56 (0, 0)) from by rw [hw9]; exact blk_sets [.int .i64 0, .int .i64 0, .int .i64 0, .int .i64 0, .int .i64 0, .int .i64 0, .int .i64 0, .int .i64 0, .int .i64 0, .string ⟨#[]⟩, .float .f64 0, .int .i64 0, .int .i64 0, .float .f64 0, .string ⟨#[]⟩, .slice none 0 0, .slice none 0 0, .slice none 0 0, .slice none 0 0] w1 [] [.int .i64 0, .int .i64 0, .int .i64 0, .int .i64 0, .int .i64 0, .int .i64 0, .int .i64 0, .int .i64 0, .int .i64 0, .string ⟨#[]⟩, .float .f64 0, .int .i64 0, .int .i64 0, .float .f64 0, .string ⟨#[]⟩, .slice none 0 0, .slice none 0 0, .slice none 0 0, .slice none 0 0] KZ.out rfl)
    have B9 := Lib.hid (show Below w.heap.size w w9 from by rw [hw9]; exact sets_below (Nat.le_refl _) _ B1.out)
    go_upto_region 3 with (fail)
    refine wp_region_lit ?_
    refine wpList_val (w' := w1) rfl (v := .agg #[.int .i64 0, .int .i64 0, .int .i64 0, .int .i64 0, .int .i64 0, .int .i64 0, .int .i64 0, .int .i64 0, .int .i64 0, .string ⟨#[]⟩, .float .f64 0, .int .i64 0, .int .i64 0, .float .f64 0, .string ⟨#[]⟩, .slice none 0 0, .slice none 0 0, .slice none 0 0, .slice none 0 0]) (by simp only [execOp]; go_simp) ?_
    refine wpList_store_mid rfl 56 (.tmp 4) (.tmp 17) rfl w.heap.size 0 #[.int .i64 0, .int .i64 0, .int .i64 0, .int .i64 0, .int .i64 0, .int .i64 0, .int .i64 0, .int .i64 0, .int .i64 0, .string ⟨#[]⟩, .float .f64 0, .int .i64 0, .int .i64 0, .float .f64 0, .string ⟨#[]⟩, .slice none 0 0, .slice none 0 0, .slice none 0 0, .slice none 0 0] rfl rfl hth (by kernel_rfl) (by simp [Value.oneCell']) ?_
    rw [show World.setCells w1 w.heap.size 0 (#[.int .i64 0, .int .i64 0, .int .i64 0, .int .i64 0, .int .i64 0, .int .i64 0, .int .i64 0, .int .i64 0, .int .i64 0, .string ⟨#[]⟩, .float .f64 0, .int .i64 0, .int .i64 0, .float .f64 0, .string ⟨#[]⟩, .slice none 0 0, .slice none 0 0, .slice none 0 0, .slice none 0 0] : Array Value).toList = w9 from hw9.symm]
    clear hw9
    go_wp2_with fail
    have hld := run_loadVar_row (P := Try.prog) w9 w.heap.size 56 56 #[.int .i64 0, .int .i64 0, .int .i64 0, .int .i64 0, .int .i64 0, .int .i64 0, .int .i64 0, .int .i64 0, .int .i64 0, .string ⟨#[]⟩, .float .f64 0, .int .i64 0, .int .i64 0, .float .f64 0, .string ⟨#[]⟩, .slice none 0 0, .slice none 0 0, .slice none 0 0, .slice none 0 0] (0, 0) _ K9.out Try.underlying56 rfl (by kernel_rfl)
    generalize hV : (Value.agg #[.int .i64 0, .int .i64 0, .int .i64 0, .int .i64 0, .int .i64 0, .int .i64 0, .int .i64 0, .int .i64 0, .int .i64 0, .string ⟨#[]⟩, .float .f64 0, .int .i64 0, .int .i64 0, .float .f64 0, .string ⟨#[]⟩, .slice none 0 0, .slice none 0 0, .slice none 0 0, .slice none 0 0]) = V at hld
    refine bodyPost_ret (v := .tuple #[V, .bool false]) (by simp [results, Try.results25, asAddr, hld]) rfl ?_
    rw [← hV]
    refine ⟨Keep.of_below B9.out, M, fun _ h => h, fun _ h => .inl h, ?_⟩
    rw [List.getElem?_eq_none (by rw [hs]; exact Nat.zero_le _)]
    exact ⟨rfl, HL.out.old B9.out⟩
  · rw [if_neg hs]
    have hpl := plc_lt (n := n) (s := row.length) (by omega)
    obtain ⟨ba, bn, bc, v, xs, pb, m, N, hp, h2, ⟨h7, h8, h9⟩, h10, h11, h12, h13⟩ := H1.out.ex
    obtain ⟨a, c, rfl⟩ := owns_form h7
    obtain ⟨g, rfl⟩ : ∃ g, a = some ⟨g, 0, none⟩ := by
      rcases h7.2 with ⟨_, h0⟩ | ⟨g, cap, cur, hv, _⟩
      · exact absurd h0 hs
      · injection hv with hv; exact ⟨g, hv⟩
    obtain ⟨y, hy⟩ : ∃ y, row[plc n row.length]? = some y := ⟨_, List.getElem?_eq_getElem hpl⟩
    obtain ⟨cs, hcl, hE, hxc⟩ := h9.get hy
    obtain ⟨hnc, cur, hg, hsz, hcell⟩ := owns_cell h7
    have hcl19 : cs.length = 19 := hcl
    have hone := pk_one hE.self
    have hrange : w1.rangeAt g (plc n row.length * 19) cs := fun j u hj => hcell _ _ (hxc j u hj)
    have hinfo : (Try.prog.info? 56).map (·.size) = some cs.length := by rw [hcl19]; kernel_rfl
    have hinfo2 : (Try.prog.info? 56).map (·.size) = some cs.toArray.size := by rw [List.size_toArray, hcl19]; kernel_rfl
    have hone2 := all_oneCell_toArray hone
    have x1 : w1.cell? ⟨p, 1, none⟩ = some (.slice (some ⟨g, 0, none⟩) row.length c) := by rw [blk_cell hp]; rfl
    have lp := blk_lt hp
    have hk0 : (0 : Int) ≤ (plc n row.length : Int) := by omega
    have hk1 : (plc n row.length : Int) < (row.length : Int) := by omega
    obtain ⟨w2, hw2⟩ : ∃ u, u = w1.alloc (.cells #[.int .i64 0, .int .i64 0, .int .i64 0, .int .i64 0, .int .i64 0, .int .i64 0, .int .i64 0, .int .i64 0, .int .i64 0, .string ⟨#[]⟩, .float .f64 0, .int .i64 0, .int .i64 0, .float .f64 0, .string ⟨#[]⟩, .slice none 0 0, .slice none 0 0, .slice none 0 0, .slice none 0 0] 56 (0, 0)) := ⟨_, rfl⟩
    have ka := blk_alloc w1 (.cells #[.int .i64 0, .int .i64 0, .int .i64 0, .int .i64 0, .int .i64 0, .int .i64 0, .int .i64 0, .int .i64 0, .int .i64 0, .string ⟨#[]⟩, .float .f64 0, .int .i64 0, .int .i64 0, .float .f64 0, .string ⟨#[]⟩, .slice none 0 0, .slice none 0 0, .slice none 0 0, .slice none 0 0] 56 (0, 0))
    rw [← hw2] at ka
    have b2 : Below w1.heap.size w1 w2 := by rw [hw2]; exact below_alloc _ _
    have hth2 : w2.there w1.heap.size 0 cs.toArray.size := fun j hj => ⟨by rw [blk_cell ka, Option.isSome_iff_exists]; exact ⟨_, Array.getElem?_eq_getElem (by rw [List.size_toArray, hcl19] at hj; simpa using hj)⟩, blk_frozen ka _⟩
    obtain ⟨w3, hw3⟩ : ∃ u, u = w2.setCells w1.heap.size 0 cs.toArray.toList := ⟨_, rfl⟩
    have K3 : w3.heap[w1.heap.size]? = some (.cells cs.toArray 56 (0, 0)) := by rw [hw3]; exact blk_sets cs.toArray.toList w2 [] [.int .i64 0, .int .i64 0, .int .i64 0, .int .i64 0, .int .i64 0, .int .i64 0, .int .i64 0, .int .i64 0, .int .i64 0, .string ⟨#[]⟩, .float .f64 0, .int .i64 0, .int .i64 0, .float .f64 0, .string ⟨#[]⟩, .slice none 0 0, .slice none 0 0, .slice none 0 0, .slice none 0 0] ka (by simp [hcl19])
    have B3 : Below w1.heap.size w1 w3 := by rw [hw3]; exact sets_below (Nat.le_refl _) _ b2
    generalize hk : plc n row.length = k at *
    go_upto_region 4 with (fail)
    refine wp_region_lit ?_
    refine wpList_val (w' := w1) rfl (v := .pointer (some ⟨p, 0, none⟩)) (by simp only [execOp]; go_simp) ?_
    simp only [Act.put, List.setIfInBounds_toArray, List.set_cons_succ, List.set_cons_zero]
    refine wpList_val (w' := w1) rfl (v := .pointer (some ⟨p, 0, none⟩)) (by simp only [execOp]; go_simp) ?_
    simp only [Act.put, List.setIfInBounds_toArray, List.set_cons_succ, List.set_cons_zero]
    refine wpList_val (w' := w1) rfl (v := .pointer (some ⟨p, 1, none⟩)) (by simp only [execOp]; go_simp) ?_
    simp only [Act.put, List.setIfInBounds_toArray, List.set_cons_succ, List.set_cons_zero]
    refine wpList_val (w' := w1) rfl (v := .slice (some ⟨g, 0, none⟩) row.length c) (by simp only [execOp]; go_simp) ?_
    simp only [Act.put, List.setIfInBounds_toArray, List.set_cons_succ, List.set_cons_zero]
    refine wpList_val (w' := w1) rfl (v := .int .i64 (k : Int)) (by simp only [execOp]; go_simp) ?_
    simp only [Act.put, List.setIfInBounds_toArray, List.set_cons_succ, List.set_cons_zero]
    refine wpList_val (w' := w1) rfl (v := .pointer (some ⟨g, k * 19, none⟩)) (by simp only [execOp]; go_simp) ?_
    simp only [Act.put, List.setIfInBounds_toArray, List.set_cons_succ, List.set_cons_zero]
    refine wpList_load_mid rfl 56 (.tmp 23) rfl g (k * 19) rfl cs _ hrange Try.underlying56 rfl hinfo ?_
    simp only [Act.put, List.setIfInBounds_toArray, List.set_cons_succ, List.set_cons_zero]
    refine wpList_val (w' := w2) rfl (v := .pointer (some ⟨w1.heap.size, 0, none⟩)) (by rw [hw2]; simp only [execOp]; go_simp) ?_
    simp only [Act.put, List.setIfInBounds_toArray, List.set_cons_succ, List.set_cons_zero]
    refine wpList_store_mid rfl 56 (.tmp 8) (.tmp 24) rfl w1.heap.size 0 cs.toArray rfl rfl hth2 hinfo2 hone2 ?_
    rw [← hw3]
    simp only [Act.put, List.setIfInBounds_toArray, List.set_cons_succ, List.set_cons_zero]
    clear hw2 hw3 hth2 ka b2
    have hM := HL.out.lt
    have hgM := hM g (h8 g rfl)
    have hpM := hM p HL.out.mine
    have hlast : ∀ u ∈ xs, u.oneCell' = true := h9.all (fun y cs h => pk_one h)
    have hcm : c ≤ 9223372036854775807 := by
      rcases h7.2 with ⟨hv, _⟩ | ⟨_, cap, _, hv, _, _, _, hm, _⟩
      · cases hv
      · injection hv with _ _ hv; subst hv; exact hm
    have H3 := Lib.hid (H1.out.old B3)
    have hp3 := blk_below hp B3
    have h73 := owns_old h7 B3
    have h103 := h10.old B3
    have h23 := owns_old h2.1 B3
    have x13 : w3.cell? ⟨p, 1, none⟩ = some (.slice (some ⟨g, 0, none⟩) row.length c) := by rw [blk_cell hp3]; rfl
    have lp3 := blk_lt hp3
    have hkw : IntKind.i64.wrap ((k : Int) + 1) = (k : Int) + 1 := IntWalk.i64_in _ (by omega)
    have CD := Lib.hid (del_any W g row.length c k xs w3 h73 hpl hlast hcm)
    have h93 := h9.step (Y := fun _ => False) (Keep.of_below B3) (fun _ _ h => h.elim) (fun _ _ h => h)
    have HB1 := Lib.hid B1.out.size
    clear x1 hrange hcell hxc hg hsz
    go_wp2_with fail
    refine CD.out.mono ?_
    rintro r w4 ⟨rfl, ho4, k4⟩
    have hlen' : (row.eraseIdx k).length = row.length - 1 := by rw [List.length_eraseIdx, if_pos hpl]
    have hrow := ln_row (row' := row.eraseIdx k) (v' := .slice (some ⟨g, 0, none⟩) (row.length - 1) c) H3.out hp3 ⟨h23, h2.2⟩ h73 h8 h103 h11 h12 h13 (keep_mono13 k4 (fun z hz => by rw [hz]; rfl)) (by rw [hlen']; exact ho4) (.inr (.inl rfl)) (h93.erase hpl) (by have := B3.size; have := B1.out.size; omega) (by omega)
    have hpg : p ≠ g := fun hc => by have := own_ne13 h73 hp3 (by decide); exact this (by rw [hc]; rfl)
    have hp4 : w4.heap[p]? = _ := (k4.block p lp3 hpg).trans hp3
    have x14 : w4.cell? ⟨p, 1, none⟩ = some (.slice (some ⟨g, 0, none⟩) row.length c) := by rw [blk_cell hp4]; rfl
    have f14 := blk_frozen hp4 1
    have lp4 := blk_lt hp4
    have K4 : w4.heap[w1.heap.size]? = some (.cells cs.toArray 56 (0, 0)) := (k4.block _ (blk_lt K3) (by omega)).trans K3
    have KZ4 : w4.heap[w.heap.size]? = _ := (k4.block _ (blk_lt (blk_below KZ.out B3)) (by omega)).trans (blk_below KZ.out B3)
    have K5 := blk_set_other K4 p 1 (.slice (some ⟨g, 0, none⟩) (row.length - 1) c) (by omega)
    have KZ5 := blk_set_other KZ4 p 1 (.slice (some ⟨g, 0, none⟩) (row.length - 1) c) (by omega)
    obtain ⟨⟨M', hM1, hM2, hL5⟩, hK5⟩ := hrow
    clear x13 CD H3 hp3 h73 h103 h23 ho4 k4 hp4 K4 KZ4 h7 h9 h93
    go_upto_region 6 with (fail)
    generalize hw5 : w4.setCell ⟨p, 1, none⟩ (.slice (some ⟨g, 0, none⟩) (row.length - 1) c) = w5 at *
    clear hw5 x14 f14
    have hth5 : w5.there w.heap.size 0 cs.toArray.size := fun j hj => ⟨by rw [blk_cell KZ5, Option.isSome_iff_exists]; exact ⟨_, Array.getElem?_eq_getElem (by rw [List.size_toArray, hcl19] at hj; simpa using hj)⟩, blk_frozen KZ5 _⟩
    have hr5 : w5.rangeAt w1.heap.size 0 cs := fun j u hj => by rw [blk_cell K5]; simpa using hj
    obtain ⟨w6, hw6⟩ : ∃ u, u = w5.setCells w.heap.size 0 cs.toArray.toList := ⟨_, rfl⟩
    have K6 : w6.heap[w.heap.size]? = some (.cells cs.toArray 56 (0, 0)) := by rw [hw6]; exact blk_sets cs.toArray.toList w5 [] [.int .i64 0, .int .i64 0, .int .i64 0, .int .i64 0, .int .i64 0, .int .i64 0, .int .i64 0, .int .i64 0, .int .i64 0, .string ⟨#[]⟩, .float .f64 0, .int .i64 0, .int .i64 0, .float .f64 0, .string ⟨#[]⟩, .slice none 0 0, .slice none 0 0, .slice none 0 0, .slice none 0 0] KZ5 (by simp [hcl19])
    have k56 : Keep (fun z => z = w.heap.size) w5 w6 := by rw [hw6]; exact keep_sets (X := fun z => z = w.heap.size) (g := w.heap.size) (j := 0) rfl cs.toArray.toList (Keep.refl _ w5)
    refine wp_region_lit ?_
    refine wpList_load_mid rfl 56 (.tmp 8) rfl w1.heap.size 0 rfl cs _ hr5 Try.underlying56 rfl hinfo ?_
    simp only [Act.put, List.setIfInBounds_toArray, List.set_cons_succ, List.set_cons_zero]
    refine wpList_store_mid rfl 56 (.tmp 4) (.tmp 36) rfl w.heap.size 0 cs.toArray rfl rfl hth5 hinfo2 hone2 ?_
    rw [← hw6]
    simp only [Act.put, List.setIfInBounds_toArray, List.set_cons_succ, List.set_cons_zero]
    clear hth5 hr5 hw6
    go_wp2_with fail
    have hld := run_loadVar_row (P := Try.prog) w6 w.heap.size 56 56 cs.toArray (0, 0) _ K6 Try.underlying56 rfl hinfo2
    refine bodyPost_ret (v := .tuple #[.agg cs.toArray, .bool true]) (by simp [results, Try.results25, asAddr, hld]) rfl ?_
    have hz3 := B3.size
    have hz13 := B1.out.size
    have K15 : Keep M w w5 := ((Keep.of_below (bthen B1.out B3)).trans hK5 (fun _ _ h => h))
    refine ⟨K15.trans k56 (fun k hk hx => by omega), M', hM1, fun k hk => (hM2 k hk).elim .inl (fun h => .inr (by omega)), ?_⟩
    rw [hk, hy]
    refine ⟨⟨cs, rfl, ?_⟩, hL5.keep k56 (fun z hz => ⟨fun hm => ?_, by omega⟩)⟩
    · exact hE.step ((Keep.of_below (X := fun k => W ≤ k) B3).trans (X' := fun k => W ≤ k) ((keep_mono13 hK5 (fun k hk => HL.out.ge k hk)).trans (X' := fun k => W ≤ k) (keep_mono13 k56 (fun z hz => by omega)) (fun _ _ h => h)) (fun _ _ h => h)) (fun _ _ h => h) (fun _ _ h => h)
    · rcases hM2 z hm with h | h
      · have := hM z h; omega
      · omega
end Go.Proofs.Ytijeieamodjgbaa

/- Lanes: walk of Send. (printed by mkLe.py) -/
namespace Go.Proofs.Ytijeieamodjgbaa
set_option maxRecDepth 100000
open Go.RowKit Go.Deep
set_option linter.unusedVariables false
set_option linter.unusedSimpArgs false
attribute [local go_sem] run_store_float

/-- A load of many cells at a step of a drawn region. -/
theorem news_load {P : Program} {ops : Array Oper} {Q : Exit → Act → World → Prop} {i : Nat} {o : Oper} {a : Act} {w : World} {v : Value} {K : Act → World → Prop} (ho : ops[i]? = some o) (hg : o.guard = none) (ty : TypeId) (x : Operand) (hop : o.op = .load ty x)
    (b off : Nat) (hx : a.eval x = .pointer (some ⟨b, off, none⟩)) (hld : (loadVar ty ⟨b, off, none⟩).run P w = .ok v w) (hk : K (a.put o.dst v) w) : wpOp P ops Q i K a w :=
  news_val ho hg (by unfold execOp; simp only [hop, hx, Instr.loadAt, Instr.sureAddr, Sem.run_bind, Sem.run_pure, Result.andThen_ok, hld]) hk
theorem keep_undrew13 {Y : Nat → Prop} {w w' : World} (h : Keep Y w.drew w') : Keep Y w w' := ⟨h.os, h.tape, h.output, h.size, h.block⟩
end Go.Proofs.Ytijeieamodjgbaa
