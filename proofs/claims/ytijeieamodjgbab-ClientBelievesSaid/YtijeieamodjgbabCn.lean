
/- The client: New, Accepted, Results. -/
import Derived.Test.YtijeieamodjgbabCi

namespace Go.Proofs.Ytijeieamodjgbab
set_option maxRecDepth 100000
open Go.RowKit Go.Maps
set_option linter.unusedVariables false
set_option linter.unusedSimpArgs false
attribute [local go_sem] run_store_float

def Rq.z : Rq := ⟨0, 0, 0, ⟨#[]⟩, 0, 0⟩
theorem rqz_ok : Rq.z.Ok := ⟨by unfold i64 Rq.z; decide, by unfold i64 Rq.z; decide, by unfold i64 Rq.z; decide, by unfold i64 Rq.z; decide, by unfold Rq.z; decide, by unfold Rq.z; decide⟩
def cst0 (id e : Int) (l : List Int) : Cst := ⟨id, (e, l), [], [], 0, Rq.z, [], [], [], 0⟩
def CNewPost (id e : Int) (l : List Int) (w : World) (r : Ending) (w' : World) : Prop :=
  Below w.heap.size w w' ∧ ((∃ p Z, r = .returned (.tuple #[.pointer (some ⟨p, 0, none⟩), .int .i64 0]) ∧ Cli Z w' w.heap.size p (cst0 id e l) ∧ rightB e l = true ∧ e = 0 ∧ 1 ≤ id ∧ id ≤ 8) ∨ (¬ (rightB e l = true ∧ e = 0 ∧ 1 ≤ id ∧ id ≤ 8) ∧ r = .returned (.tuple #[.pointer none, .int .i64 1])))
theorem cli_new {X : Nat → Prop} {w w1 : World} {q : Nat} {oc : Option Nat} {id e : Int} {l : List Int} (hb : Below w.heap.size w w1) (hq : w.heap.size ≤ q) (ht : Trk X w1 w.heap.size q oc none [(e, l)] []) (hi : 1 ≤ id ∧ id ≤ 8) (hr : rightB e l = true) :
    ∃ Z, Cli Z (w1.alloc (.cells #[.int .i64 id, .pointer (some ⟨q, 0, none⟩), .int .i64 0, .int .i64 0, .int .i64 0, .int .i64 0, .string ⟨#[]⟩, .float .f64 0, .int .i64 0, .map none, .slice none 0 0, .slice none 0 0] 79 (0, 0))) w.heap.size w1.heap.size (cst0 id e l) := by
  have hl := ht.lt
  refine ⟨_, X, q, oc, none, none, none, none, ⟨ht.old (below_alloc _ _), ⟨rfl, Nat.zero_le _, hi, ⟨Int.le_refl _, (show (0 : Int) ≤ 1048576 by decide)⟩, rqz_ok, fun c hc => ?_, fun h => absurd h (show ¬ (0 : Int) < 0 by decide), (show ((0 : Nat) : Int) = if (0 : Int) < 0 then (0 : Int) - 1 else 0 by decide), rfl, fun k x h => (by cases h), Nat.le_refl _⟩, hb.size, fun k h => (by cases h), fun k hk => ?_, ⟨by simp, by simp, by simp⟩, fun k h => (by cases h), fun k h => (by cases h), ⟨.slice none 0 0, .slice none 0 0, ?_, World.ownsRow_nil _ _ _ _, rfl, World.ownsRow_nil _ _ _ _, rfl⟩, fun h => absurd h (show ¬ (0 : Int) < 0 by decide)⟩, fun k => Iff.rfl⟩
  · have hc : c = (e, l) := by simpa [cst0] using hc
    subst hc; exact hr
  · rcases hk with rfl | hk | hk | hk
    · refine ⟨ht.new _ (Nat.le_refl _), fun h => ?_⟩
      rcases h with h | h | h
      · omega
      · have := (hl.2.1 _ h).2; omega
      · cases h
    · cases hk
    · cases hk
    · cases hk
  · exact blk_alloc _ _
set_option maxHeartbeats 2000000 in
theorem cnew_any (id e : Int) (a : Option Addr) (n c : Nat) (l : List Int) (w : World) (h : IntsAt w a n l) (hn : a = none → c = 0 ∧ n = 0) (hb : n * 8 ≤ 140737488355328) (he : i64 e) :
    Calls Try.prog 6 #[.int .i64 id, .agg #[.int .i64 e, .slice a n c]] w (CNewPost id e l w) := by
  have b0 := below_alloc w (.cells #[.int .i64 e, .slice a n c] 24 (0, 0))
  have CN := Lib.hid (new_any e a n c l (w.alloc (.cells #[.int .i64 e, .slice a n c] 24 (0, 0))) (h.below b0) hn hb he)
  have B0 := Lib.hid b0
  clear h hn hb b0
  go_enter Try.func6, Try.ntmps6
  go_wp2_with fail
  refine CN.out.mono ?_
  rintro r w2 ⟨hb2, hh⟩
  have B2 := Lib.hid (bthen B0.out hb2)
  rcases hh with ⟨hr, rfl, X, q, oc, rfl, hq, hX, ht⟩ | ⟨hno, rfl⟩
  · have HT := Lib.hid ht
    clear ht hX hb2 CN
    by_cases h1 : 1 ≤ id
    · have d1 : decide (id < 1) = false := by simp; omega
      by_cases h2 : id ≤ 8
      · have d2 : decide (8 < id) = false := by simp; omega
        have HC := Lib.hid (cli_new (w := w) B2.out (by have := (World.size_alloc w (.cells #[.int .i64 0, .slice a n c] 24 (0, 0))); omega) ⟨Nat.le_trans (by simp) HT.out.hB, HT.out.noc, HT.out.nos, HT.out.ncs, HT.out.own, HT.out.new, (by
          obtain ⟨vc, vs, xc, xs, hp, g1, g2, g3, g4, g5⟩ := HT.out.ex
          exact ⟨vc, vs, xc, xs, hp, owns_lower g1 (by simp), g2, g3, owns_lower g4 (by simp), g5⟩)⟩ ⟨h1, h2⟩ hr)
        have B3 := Lib.hid (bthen B2.out (below_alloc w2 (.cells #[.int .i64 id, .pointer (some ⟨q, 0, none⟩), .int .i64 0, .int .i64 0, .int .i64 0, .int .i64 0, .string ⟨#[]⟩, .float .f64 0, .int .i64 0, .map none, .slice none 0 0, .slice none 0 0] 79 (0, 0))))
        clear HT hq
        go_wp2_with fail
        go_ret2
        obtain ⟨Z, hZ⟩ := HC.out
        exact ⟨B3.out, .inl ⟨_, Z, rfl, hZ, hr, rfl, h1, h2⟩⟩
      · have d2 : decide (8 < id) = true := by simp; omega
        clear HT hq
        go_wp2_with fail
        go_ret2
        exact ⟨B2.out, .inr ⟨fun hc => by have := hc.2.2.2; omega, rfl⟩⟩
    · have d1 : decide (id < 1) = true := by simp; omega
      clear HT hq
      go_wp2_with fail
      go_ret2
      exact ⟨B2.out, .inr ⟨fun hc => by have := hc.2.2.1; omega, rfl⟩⟩
  · clear hb2 CN
    go_wp2_with fail
    go_ret2
    exact ⟨B2.out, .inr ⟨fun hc => hno ⟨hc.1, hc.2.1⟩, rfl⟩⟩

theorem info_ent : (Try.prog.info? 57).map (fun i => (i.zero, i.size, i.bytes)) = some (some (.agg #[.int .i64 0, .int .i64 0, .int .i64 0, .int .i64 0, .string ⟨#[]⟩, .float .f64 0, .int .i64 0]), 7, 64) := by kernel_rfl
set_option maxHeartbeats 1000000 in
theorem clone_ent {B n : Nat} {v : Value} {xs : List Value} (w : World) (ho : w.ownsRow B 57 7 v n xs) (h1 : ∀ u ∈ xs, u.oneCell' = true) (hn : n ≤ 1048576) :
    Calls Try.prog 25 #[v] w fun r w' => ∃ v', r = .returned v' ∧ w'.ownsRow w.heap.size 57 7 v' n xs ∧ Below w.heap.size w w' := by
  obtain ⟨ii, hi, hz0, hz1, hz2⟩ := info_parts info_ent
  have hx := ho.1
  rcases ho.2 with ⟨rfl, h0⟩ | ⟨g, cap, cur, rfl, hB, hg, hnc, hcm, _, _⟩
  · subst h0
    have hnil := fun (w : World) => Lib.run_eql_slice_nil (P := Try.prog) w 38 57 none 0 0 0 0 Try.underlying38
    obtain rfl : xs = [] := List.eq_nil_of_length_eq_zero (by rw [hx, Nat.zero_mul])
    clear ho hx
    go_enter Try.func25, Try.ntmps25
    go_wp2_with fail
    go_ret
    exact ⟨_, rfl, World.ownsRow_nil _ _ _ _, Below.refl _ _⟩
  · have hnil := fun (w : World) => Lib.run_eql_slice_nil (P := Try.prog) w 38 57 (some ⟨g, 0, none⟩) n cap 0 0 Try.underlying38
    have k1 : 0 + n ≤ maxLen := by simp only [maxLen]; omega
    have k2 : (0 + n) * 64 ≤ 140737488355328 := by omega
    have hcell : ∀ ad', (some ⟨g, 0, none⟩ : Option Addr) = some ad' → ∀ j u, xs[j]? = some u → (w.alloc (.cells #[] 57)).cell? (ad'.add j) = some u := fun ad' had j u hu => by
      injection had with had; subst had
      have := ho.cells (g := g) rfl j u hu
      rw [Addr.add_lit] at this ⊢
      exact below_cell (below_alloc w (.cells #[] 57)) this
    have kl := Lib.hid (show xs.length = n * 7 from hx)
    have H1 := Lib.hid h1
    replace hcell := Lib.hid hcell
    have Hown := Lib.hid (empty_owned w 57 7 57 rfl)
    clear ho hx hB hg hnc hcm h1
    go_enter Try.func25, Try.ntmps25
    go_wp2_with (refine wpList_append_any _ rfl (.tmp 5) (.tmp 6) 38 rfl w.heap.size 57 ii (.agg #[.int .i64 0, .int .i64 0, .int .i64 0, .int .i64 0, .string ⟨#[]⟩, .float .f64 0, .int .i64 0]) 7 64 Try.underlying38 hi hz0 hz1 hz2 rfl (by decide) _ 0 [] rfl Hown.out (some ⟨g, 0, none⟩) n cap xs rfl kl.out (fun h => by cases h) hcell.out H1.out k1 k2 (by simp) ?_)
    intro v' w2 hown2 hg2 _
    have HB := Lib.hid (show Below w.heap.size w w2 from (below_alloc w _).grown hg2 (by simp) (fun k hk => Nat.le_of_eq (by simpa [Value.ownBlock] using hk)))
    obtain ⟨a', c', rfl⟩ := owns_form hown2
    have HO := Lib.hid (show w2.ownsRow w.heap.size 57 7 (.slice a' n c') n xs by simpa using hown2)
    clear hown2 hg2 hcell Hown hnil
    go_wp2_with fail
    go_ret
    exact ⟨_, rfl, HO.out, HB.out⟩

theorem info_res : (Try.prog.info? 45).map (fun i => (i.zero, i.size, i.bytes)) = some (some (.agg #[.int .i64 0, .float .f64 0]), 2, 16) := by kernel_rfl
set_option maxHeartbeats 1000000 in
theorem clone_res {B n : Nat} {v : Value} {xs : List Value} (w : World) (ho : w.ownsRow B 45 2 v n xs) (h1 : ∀ u ∈ xs, u.oneCell' = true) (hn : n ≤ 1048576) :
    Calls Try.prog 26 #[v] w fun r w' => ∃ v', r = .returned v' ∧ w'.ownsRow w.heap.size 45 2 v' n xs ∧ Below w.heap.size w w' := by
  obtain ⟨ii, hi, hz0, hz1, hz2⟩ := info_parts info_res
  have hx := ho.1
  rcases ho.2 with ⟨rfl, h0⟩ | ⟨g, cap, cur, rfl, hB, hg, hnc, hcm, _, _⟩
  · subst h0
    have hnil := fun (w : World) => Lib.run_eql_slice_nil (P := Try.prog) w 53 45 none 0 0 0 0 Try.underlying53
    obtain rfl : xs = [] := List.eq_nil_of_length_eq_zero (by rw [hx, Nat.zero_mul])
    clear ho hx
    go_enter Try.func26, Try.ntmps26
    go_wp2_with fail
    go_ret
    exact ⟨_, rfl, World.ownsRow_nil _ _ _ _, Below.refl _ _⟩
  · have hnil := fun (w : World) => Lib.run_eql_slice_nil (P := Try.prog) w 53 45 (some ⟨g, 0, none⟩) n cap 0 0 Try.underlying53
    have k1 : 0 + n ≤ maxLen := by simp only [maxLen]; omega
    have k2 : (0 + n) * 16 ≤ 140737488355328 := by omega
    have hcell : ∀ ad', (some ⟨g, 0, none⟩ : Option Addr) = some ad' → ∀ j u, xs[j]? = some u → (w.alloc (.cells #[] 45)).cell? (ad'.add j) = some u := fun ad' had j u hu => by
      injection had with had; subst had
      have := ho.cells (g := g) rfl j u hu
      rw [Addr.add_lit] at this ⊢
      exact below_cell (below_alloc w (.cells #[] 45)) this
    have kl := Lib.hid (show xs.length = n * 2 from hx)
    have H1 := Lib.hid h1
    replace hcell := Lib.hid hcell
    have Hown := Lib.hid (empty_owned w 45 2 45 rfl)
    clear ho hx hB hg hnc hcm h1
    go_enter Try.func26, Try.ntmps26
    go_wp2_with (refine wpList_append_any _ rfl (.tmp 5) (.tmp 6) 53 rfl w.heap.size 45 ii (.agg #[.int .i64 0, .float .f64 0]) 2 16 Try.underlying53 hi hz0 hz1 hz2 rfl (by decide) _ 0 [] rfl Hown.out (some ⟨g, 0, none⟩) n cap xs rfl kl.out (fun h => by cases h) hcell.out H1.out k1 k2 (by simp) ?_)
    intro v' w2 hown2 hg2 _
    have HB := Lib.hid (show Below w.heap.size w w2 from (below_alloc w _).grown hg2 (by simp) (fun k hk => Nat.le_of_eq (by simpa [Value.ownBlock] using hk)))
    obtain ⟨a', c', rfl⟩ := owns_form hown2
    have HO := Lib.hid (show w2.ownsRow w.heap.size 45 2 (.slice a' n c') n xs by simpa using hown2)
    clear hown2 hg2 hcell Hown hnil
    go_wp2_with fail
    go_ret
    exact ⟨_, rfl, HO.out, HB.out⟩

theorem entsV_one (l : List (Int × Rq)) : ∀ u ∈ entsV l, u.oneCell' = true := by
  intro u hu
  obtain ⟨x, hx, h⟩ := List.mem_flatMap.1 hu
  simp only [Rq.cs, List.mem_cons, List.not_mem_nil, or_false] at h
  rcases h with rfl | rfl | rfl | rfl | rfl | rfl | rfl <;> rfl
theorem ressV_one (l : List (Int × Nat)) : ∀ u ∈ ressV l, u.oneCell' = true := by
  intro u hu
  obtain ⟨x, hx, h⟩ := List.mem_flatMap.1 hu
  simp only [List.mem_cons, List.not_mem_nil, or_false] at h
  rcases h with rfl | rfl <;> rfl
theorem CInv.acl {s : Cst} (h : CInv s) : s.ac.length ≤ 1048576 := by
  have h1 := h.na
  have h2 := h.st
  split at h1 <;> omega
set_option maxHeartbeats 1000000 in
theorem accepted_any {Z : Nat → Prop} {B p : Nat} {s : Cst} (w : World) (h : Cli Z w B p s) :
    Calls Try.prog 8 #[.pointer (some ⟨p, 0, none⟩)] w fun r w' => ∃ v', r = .returned v' ∧ w'.ownsRow w.heap.size 57 7 v' s.ac.length (entsV s.ac) ∧ Below w.heap.size w w' := by
  obtain ⟨X, t, oc, os, om, oa, ob, h, hz⟩ := h.ex
  obtain ⟨va, vb, hp, h1, -⟩ := h.ex
  have p5 : w.cell? ⟨p, 10, none⟩ = some va := by rw [blk_cell hp]; rfl
  have CE := Lib.hid (clone_ent w h1 (entsV_one _) h.inv.acl)
  obtain ⟨a, c, rfl⟩ := owns_form h1
  clear h hp hz h1
  generalize entsV s.ac = xs at *
  generalize s.ac.length = n at *
  go_enter Try.func8, Try.ntmps8
  go_wp2_with fail
  refine CE.out.mono ?_
  rintro r w1 ⟨v', rfl, ho, hb⟩
  obtain ⟨a', c', rfl⟩ := owns_form ho
  have HO := Lib.hid ho; have HB := Lib.hid hb
  clear ho hb
  go_wp2_with fail
  go_ret
  exact ⟨_, rfl, HO.out, HB.out⟩
set_option maxHeartbeats 1000000 in
theorem results_any {Z : Nat → Prop} {B p : Nat} {s : Cst} (w : World) (h : Cli Z w B p s) :
    Calls Try.prog 10 #[.pointer (some ⟨p, 0, none⟩)] w fun r w' => ∃ v', r = .returned v' ∧ w'.ownsRow w.heap.size 45 2 v' s.rs.length (ressV s.rs) ∧ Below w.heap.size w w' := by
  obtain ⟨X, t, oc, os, om, oa, ob, h, hz⟩ := h.ex
  obtain ⟨va, vb, hp, -, -, h1, -⟩ := h.ex
  have p5 : w.cell? ⟨p, 11, none⟩ = some vb := by rw [blk_cell hp]; rfl
  have CE := Lib.hid (clone_res w h1 (ressV_one _) (by rw [h.inv.nr]; exact h.inv.acl))
  obtain ⟨a, c, rfl⟩ := owns_form h1
  clear h hp hz h1
  generalize ressV s.rs = xs at *
  generalize s.rs.length = n at *
  go_enter Try.func10, Try.ntmps10
  go_wp2_with fail
  refine CE.out.mono ?_
  rintro r w1 ⟨v', rfl, ho, hb⟩
  obtain ⟨a', c', rfl⟩ := owns_form ho
  have HO := Lib.hid ho; have HB := Lib.hid hb
  clear ho hb
  go_wp2_with fail
  go_ret
  exact ⟨_, rfl, HO.out, HB.out⟩
end Go.Proofs.Ytijeieamodjgbab
