
/- Wire: walks of the reference's SameCerts, SameChanges, Same. (printed by mkWsm.py) -/
import Derived.Test.YtijeieamodjgbaaWp1
import Derived.Test.YtijeieamodjgbaaTr9
namespace Go.Proofs.Ytijeieamodjgbaa
set_option maxRecDepth 100000
open Go.RowKit Go.Deep
attribute [local irreducible] wpQuiet
set_option linter.unusedVariables false
set_option linter.unusedSimpArgs false
attribute [local go_sem] run_store_float

theorem whole_iff (x y : Rq) : wholeB x y = true ↔ x.canon = y.canon := by
  obtain ⟨c, s, k, t, b, i⟩ := x
  obtain ⟨c', s', k', t', b', i'⟩ := y
  simp only [wholeB, Rq.canon, Bool.and_eq_true, decide_eq_true_eq, Rq.mk.injEq]
  constructor
  · rintro ⟨⟨⟨⟨⟨h1, h2⟩, h3⟩, h4⟩, h5⟩, h6⟩; exact ⟨h1, h2, h3, h4, h6, h5⟩
  · rintro ⟨h1, h2, h3, h4, h6, h5⟩; exact ⟨⟨⟨⟨⟨h1, h2⟩, h3⟩, h4⟩, h5⟩, h6⟩
theorem ceCanon_iff (x y : Ce) : x.canon = y.canon ↔ x.v = y.v ∧ x.s = y.s ∧ wholeB x.q y.q = true ∧ x.sg = y.sg := by
  obtain ⟨v, s, q, g⟩ := x
  obtain ⟨v', s', q', g'⟩ := y
  simp only [Ce.canon, whole_iff, Ce.mk.injEq]
theorem chCanon_iff (x y : Ch) : x.canon = y.canon ↔ x.fr = y.fr ∧ x.v = y.v ∧ x.sg = y.sg ∧ x.ce.map Ce.canon = y.ce.map Ce.canon := by
  obtain ⟨v, s, q, g⟩ := x
  obtain ⟨v', s', q', g'⟩ := y
  simp only [Ch.canon, Ch.mk.injEq]
  constructor
  · rintro ⟨h1, h2, h3, h4⟩; exact ⟨h1, h2, h4, h3⟩
  · rintro ⟨h1, h2, h4, h3⟩; exact ⟨h1, h2, h3, h4⟩
instance : DecidableEq Rq := fun x y => decidable_of_iff (x.c = y.c ∧ x.s = y.s ∧ x.kind = y.kind ∧ x.key = y.key ∧ x.b = y.b ∧ x.id = y.id) (by cases x; cases y; simp)
instance : DecidableEq Ce := fun x y => decidable_of_iff (x.v = y.v ∧ x.s = y.s ∧ x.q = y.q ∧ x.sg = y.sg) (by cases x; cases y; simp)
instance : DecidableEq Ch := fun x y => decidable_of_iff (x.fr = y.fr ∧ x.v = y.v ∧ x.ce = y.ce ∧ x.sg = y.sg) (by cases x; cases y; simp)
instance : DecidableEq Mg := fun x y => decidable_of_iff (x.k = y.k ∧ x.e = y.e ∧ x.v = y.v ∧ x.s = y.s ∧ x.q = y.q ∧ x.c = y.c ∧ x.r = y.r ∧ x.t = y.t ∧ x.nx = y.nx ∧ x.sg = y.sg ∧ x.ch = y.ch ∧ x.lk = y.lk) (by cases x; cases y; simp)
theorem map_take_snoc {α β : Type} {f : α → β} {l l' : List α} {k : Nat} {x y : α} (h : (l.take k).map f = (l'.take k).map f) (hx : l[k]? = some x) (hy : l'[k]? = some y) (he : f x = f y) : (l.take (k + 1)).map f = (l'.take (k + 1)).map f := by
  rw [List.take_add_one, List.take_add_one, hx, hy, List.map_append, List.map_append, h]
  simp [he]
theorem map_ne {α β : Type} {f : α → β} {l l' : List α} {k : Nat} {x y : α} (hx : l[k]? = some x) (hy : l'[k]? = some y) (he : f x ≠ f y) : ¬ l.map f = l'.map f := fun hc => by
  have h := congrArg (fun z => z[k]?) hc
  simp only [List.getElem?_map, hx, hy, Option.map_some, Option.some.injEq] at h
  exact he h

set_option maxHeartbeats 2000000 in
theorem samecerts_any (a : Option Addr) (n c : Nat) (l : List Ce) (a' : Option Addr) (n' c' : Nat) (l' : List Ce) (w : World) (h : SlAt shCert w a n c l) (h' : SlAt shCert w a' n' c' l') :
    Calls Try.prog 130 #[.slice a n c, .slice a' n' c'] w fun e w' => e = .returned (.bool (decide (l.map Ce.canon = l'.map Ce.canon))) ∧ Below w.heap.size w w' := by
  have hmax := h.max
  have hcap := h.cap
  have hmax' := h'.max
  have hcap' := h'.cap
  have hlen := h.len
  have hlen' := h'.len
  have H := Lib.hid h; clear h
  have H' := Lib.hid h'; clear h'
  by_cases hnn : n = n'
  · subst hnn
    have hn0 : ((n : Int) != n) = false := by simp
    have hfin : ∀ k, k = n → (l.take k).map Ce.canon = (l'.take k).map Ce.canon → decide (l.map Ce.canon = l'.map Ce.canon) = true := fun k hk ht => by
      rw [List.take_of_length_le (by omega), List.take_of_length_le (by omega)] at ht
      simp [ht]
    have Hfin := Lib.hid hfin; have Hlen := Lib.hid hlen; have Hlen' := Lib.hid hlen'
    clear hfin hlen hlen'
    go_enter Try.func130, Try.ntmps130
    go_wp2_with fail
    go_loopw [5] (fun i wr => ∃ k : Nat, k ≤ n ∧ i = .int .i64 k ∧ Hid (Below w.heap.size w wr) ∧ Hid ((l.take k).map Ce.canon = (l'.take k).map Ce.canon)) (fun i _ => n - (intOf i).toNat)
    case atStart => exact ⟨0, by omega, rfl, Lib.hid (Below.refl _ _), Lib.hid (by simp)⟩
    case round =>
      obtain ⟨k, hk, rfl, Hb, ht⟩ := hrel
      by_cases hlt : k < n
      · obtain ⟨b, o, ⟨v1, s1, ⟨qc, qs, qk, qt, qb, qi⟩, g1⟩, sa, sn, sc, rfl, hx, m0, m1, m2, m3, m4, m5, m6, m7, m8, hv1, hs1, hq1, hg1⟩ := cert_cells H.out hlt
        obtain ⟨b', o', ⟨v2, s2, ⟨qc', qs', qk', qt', qb', qi'⟩, g2⟩, sa', sn', sc', rfl, hx', m0', m1', m2', m3', m4', m5', m6', m7', m8', hv2, hs2, hq2, hg2⟩ := cert_cells H'.out hlt
        replace m0 := below_cell Hb.out m0
        replace m1 := below_cell Hb.out m1
        replace m2 := below_cell Hb.out m2
        replace m3 := below_cell Hb.out m3
        replace m4 := below_cell Hb.out m4
        replace m5 := below_cell Hb.out m5
        replace m6 := below_cell Hb.out m6
        replace m7 := below_cell Hb.out m7
        replace m8 := below_cell Hb.out m8
        replace m0' := below_cell Hb.out m0'
        replace m1' := below_cell Hb.out m1'
        replace m2' := below_cell Hb.out m2'
        replace m3' := below_cell Hb.out m3'
        replace m4' := below_cell Hb.out m4'
        replace m5' := below_cell Hb.out m5'
        replace m6' := below_cell Hb.out m6'
        replace m7' := below_cell Hb.out m7'
        replace m8' := below_cell Hb.out m8'
        have lb := World.block_lt m0
        have lb' := World.block_lt m0'
        have hj0 : (0 : Int) ≤ (k : Int) := by omega
        have hj1 : (k : Int) < (n : Int) := by omega
        have CW := fun (w' : World) (hb : Below wr.heap.size wr w') => whole_rq ⟨qc, qs, qk, qt, qb, qi⟩ ⟨qc', qs', qk', qt', qb', qi'⟩ hq1.b hq2.b w'
        simp only [Rq.v] at CW
        have CS := fun (w' : World) (hb : Below wr.heap.size wr w') => samesigs_any sa sn sc g1 sa' sn' sc' g2 w' (hg1.old (bthen Hb.out hb)) (hg2.old (bthen Hb.out hb))
        have HX := Lib.hid hx; have HX' := Lib.hid hx'
        dsimp only at m0 m1 m2 m3 m4 m5 m6 m7 m0' m1' m2' m3' m4' m5' m6' m7'
        clear hx hx' hv1 hs1 hq1 hg1 hv2 hs2 hq2 hg2
        by_cases hE0 : ¬ (v1 = v2)
        · have hno := Lib.hid (show decide (l.map Ce.canon = l'.map Ce.canon) = false from decide_eq_false (map_ne HX.out HX'.out (fun hc => hE0 ((ceCanon_iff _ _).1 hc).1)))
          have d0 : (v1 != v2) = true := by simpa using hE0
          clear CW CS
          clear ht hE0
          go_wp2_with fail
          refine wp_region_below (by kernel_rfl) (by kernel_rfl) ?_
          repeat (refine wpQuiet_step (fun K hK => ?_); go_simp; first | (refine hK _ ?_; clear hK K) | (apply Exists.intro; refine ⟨fun w' hw' => ?_, hK _ ?_⟩; (first | (go_at_call 67; exact Calls.quiet_below hw' (CW.out _ hw')) | (go_at_call 20; exact Calls.quiet_below_drawn hw' (CS.out _ hw')) | (with_reducible rfl) | (obtain ⟨cc, dd⟩ := bcell hw'; go_simp; rfl)); clear hK K))
          refine wpQuiet_nil ?_
          intro w7 h7
          have B7 := Lib.hid (bthen Hb.out h7)
          clear h7 m0 m1 m2 m3 m4 m5 m6 m7 m8 m0' m1' m2' m3' m4' m5' m6' m7' m8'
          go_wp2_with fail
          go_ret
          exact ⟨by rw [hno.out]; rfl, B7.out⟩
        replace hE0 := Classical.not_not.1 hE0
        have d0 : (v1 != v2) = false := by simpa using hE0
        by_cases hE1 : ¬ (s1 = s2)
        · have hno := Lib.hid (show decide (l.map Ce.canon = l'.map Ce.canon) = false from decide_eq_false (map_ne HX.out HX'.out (fun hc => hE1 ((ceCanon_iff _ _).1 hc).2.1)))
          have d1 : (s1 != s2) = true := by simpa using hE1
          clear CW CS
          clear ht hE0 hE1
          go_wp2_with fail
          refine wp_region_below (by kernel_rfl) (by kernel_rfl) ?_
          repeat (refine wpQuiet_step (fun K hK => ?_); go_simp; first | (refine hK _ ?_; clear hK K) | (apply Exists.intro; refine ⟨fun w' hw' => ?_, hK _ ?_⟩; (first | (go_at_call 67; exact Calls.quiet_below hw' (CW.out _ hw')) | (go_at_call 20; exact Calls.quiet_below_drawn hw' (CS.out _ hw')) | (with_reducible rfl) | (obtain ⟨cc, dd⟩ := bcell hw'; go_simp; rfl)); clear hK K))
          refine wpQuiet_nil ?_
          intro w7 h7
          have B7 := Lib.hid (bthen Hb.out h7)
          clear h7 m0 m1 m2 m3 m4 m5 m6 m7 m8 m0' m1' m2' m3' m4' m5' m6' m7' m8'
          go_wp2_with fail
          go_ret
          exact ⟨by rw [hno.out]; rfl, B7.out⟩
        replace hE1 := Classical.not_not.1 hE1
        have d1 : (s1 != s2) = false := by simpa using hE1
        by_cases hE2 : ¬ (wholeB ⟨qc, qs, qk, qt, qb, qi⟩ ⟨qc', qs', qk', qt', qb', qi'⟩ = true)
        · have hno := Lib.hid (show decide (l.map Ce.canon = l'.map Ce.canon) = false from decide_eq_false (map_ne HX.out HX'.out (fun hc => hE2 ((ceCanon_iff _ _).1 hc).2.2.1)))
          rw [Bool.eq_false_iff.2 hE2] at CW
          have CW := Lib.hid CW
          clear CS
          clear ht hE0 hE1 hE2
          go_wp2_with fail
          refine wp_region_below (by kernel_rfl) (by kernel_rfl) ?_
          repeat (refine wpQuiet_step (fun K hK => ?_); go_simp; first | (refine hK _ ?_; clear hK K) | (apply Exists.intro; refine ⟨fun w' hw' => ?_, hK _ ?_⟩; (first | (go_at_call 67; exact Calls.quiet_below hw' (CW.out _ hw')) | (go_at_call 20; exact Calls.quiet_below_drawn hw' (CS.out _ hw')) | (with_reducible rfl) | (obtain ⟨cc, dd⟩ := bcell hw'; go_simp; rfl)); clear hK K))
          refine wpQuiet_nil ?_
          intro w7 h7
          have B7 := Lib.hid (bthen Hb.out h7)
          clear h7 m0 m1 m2 m3 m4 m5 m6 m7 m8 m0' m1' m2' m3' m4' m5' m6' m7' m8'
          go_wp2_with fail
          go_ret
          exact ⟨by rw [hno.out]; rfl, B7.out⟩
        replace hE2 := Classical.not_not.1 hE2
        rw [hE2] at CW
        have CW := Lib.hid CW
        by_cases hE3 : ¬ (g1 = g2)
        · have hno := Lib.hid (show decide (l.map Ce.canon = l'.map Ce.canon) = false from decide_eq_false (map_ne HX.out HX'.out (fun hc => hE3 ((ceCanon_iff _ _).1 hc).2.2.2)))
          rw [decide_eq_false hE3] at CS
          have CS := Lib.hid CS
          clear ht hE0 hE1 hE2 hE3
          go_wp2_with fail
          refine wp_region_below (by kernel_rfl) (by kernel_rfl) ?_
          repeat (refine wpQuiet_step (fun K hK => ?_); go_simp; first | (refine hK _ ?_; clear hK K) | (apply Exists.intro; refine ⟨fun w' hw' => ?_, hK _ ?_⟩; (first | (go_at_call 67; exact Calls.quiet_below hw' (CW.out _ hw')) | (go_at_call 20; exact Calls.quiet_below_drawn hw' (CS.out _ hw')) | (with_reducible rfl) | (obtain ⟨cc, dd⟩ := bcell hw'; go_simp; rfl)); clear hK K))
          refine wpQuiet_nil ?_
          intro w7 h7
          have B7 := Lib.hid (bthen Hb.out h7)
          clear h7 m0 m1 m2 m3 m4 m5 m6 m7 m8 m0' m1' m2' m3' m4' m5' m6' m7' m8'
          go_wp2_with fail
          go_ret
          exact ⟨by rw [hno.out]; rfl, B7.out⟩
        replace hE3 := Classical.not_not.1 hE3
        rw [decide_eq_true hE3] at CS
        have CS := Lib.hid CS
        have ht' := Lib.hid (map_take_snoc ht.out HX.out HX'.out ((ceCanon_iff _ _).2 ⟨hE0, hE1, hE2, hE3⟩))
        clear ht hE0 hE1 hE2 hE3
        go_wp2_with fail
        refine wp_region_below (by kernel_rfl) (by kernel_rfl) ?_
        repeat (refine wpQuiet_step (fun K hK => ?_); go_simp; first | (refine hK _ ?_; clear hK K) | (apply Exists.intro; refine ⟨fun w' hw' => ?_, hK _ ?_⟩; (first | (go_at_call 67; exact Calls.quiet_below hw' (CW.out _ hw')) | (go_at_call 20; exact Calls.quiet_below_drawn hw' (CS.out _ hw')) | (with_reducible rfl) | (obtain ⟨cc, dd⟩ := bcell hw'; go_simp; rfl)); clear hK K))
        refine wpQuiet_nil ?_
        intro w7 h7
        have B7 := Lib.hid (bthen Hb.out h7)
        clear h7 m0 m1 m2 m3 m4 m5 m6 m7 m8 m0' m1' m2' m3' m4' m5' m6' m7' m8'
        go_wp2_with fail
        go_roundw
        case rel => exact ⟨k + 1, by omega, by go_num, B7, ht'⟩
        case measure => simp [intOf]; omega
      · have hy := Lib.hid (Hfin.out k (by omega) ht.out)
        clear ht
        go_wp2_with fail
        go_ret
        exact ⟨by rw [hy.out]; rfl, Hb.out⟩
  · have hne : ((n : Int) != n') = true := by simp; omega
    have hno := Lib.hid (show decide (l.map Ce.canon = l'.map Ce.canon) = false from decide_eq_false (fun hc => by
      have := congrArg List.length hc
      simp at this
      omega))
    clear hlen hlen'
    go_enter Try.func130, Try.ntmps130
    go_wp2_with fail
    go_ret
    exact ⟨by rw [hno.out]; rfl, Below.refl _ _⟩

set_option maxHeartbeats 2000000 in
theorem samechanges_any (a : Option Addr) (n c : Nat) (l : List Ch) (a' : Option Addr) (n' c' : Nat) (l' : List Ch) (w : World) (h : SlAt shChange w a n c l) (h' : SlAt shChange w a' n' c' l') :
    Calls Try.prog 70 #[.slice a n c, .slice a' n' c'] w fun e w' => e = .returned (.bool (decide (l.map Ch.canon = l'.map Ch.canon))) ∧ Below w.heap.size w w' := by
  have hmax := h.max
  have hcap := h.cap
  have hmax' := h'.max
  have hcap' := h'.cap
  have hlen := h.len
  have hlen' := h'.len
  have H := Lib.hid h; clear h
  have H' := Lib.hid h'; clear h'
  by_cases hnn : n = n'
  · subst hnn
    have hn0 : ((n : Int) != n) = false := by simp
    have hfin : ∀ k, k = n → (l.take k).map Ch.canon = (l'.take k).map Ch.canon → decide (l.map Ch.canon = l'.map Ch.canon) = true := fun k hk ht => by
      rw [List.take_of_length_le (by omega), List.take_of_length_le (by omega)] at ht
      simp [ht]
    have Hfin := Lib.hid hfin; have Hlen := Lib.hid hlen; have Hlen' := Lib.hid hlen'
    clear hfin hlen hlen'
    go_enter Try.func70, Try.ntmps70
    go_wp2_with fail
    go_loopw [5] (fun i wr => ∃ k : Nat, k ≤ n ∧ i = .int .i64 k ∧ Hid (Below w.heap.size w wr) ∧ Hid ((l.take k).map Ch.canon = (l'.take k).map Ch.canon)) (fun i _ => n - (intOf i).toNat)
    case atStart => exact ⟨0, by omega, rfl, Lib.hid (Below.refl _ _), Lib.hid (by simp)⟩
    case round =>
      obtain ⟨k, hk, rfl, Hb, ht⟩ := hrel
      by_cases hlt : k < n
      · obtain ⟨b, o, ⟨f1, v1, ce1, ⟨x1, t1⟩⟩, sa, sn, sc, rfl, hx, m0, m1, m2, m3, m4, hf1, hv1, hc1, hx1, ht1⟩ := change_cells H.out hlt
        obtain ⟨b', o', ⟨f2, v2, ce2, ⟨x2, t2⟩⟩, sa', sn', sc', rfl, hx', m0', m1', m2', m3', m4', hf2, hv2, hc2, hx2, ht2⟩ := change_cells H'.out hlt
        replace m0 := below_cell Hb.out m0
        replace m1 := below_cell Hb.out m1
        replace m2 := below_cell Hb.out m2
        replace m3 := below_cell Hb.out m3
        replace m4 := below_cell Hb.out m4
        replace m0' := below_cell Hb.out m0'
        replace m1' := below_cell Hb.out m1'
        replace m2' := below_cell Hb.out m2'
        replace m3' := below_cell Hb.out m3'
        replace m4' := below_cell Hb.out m4'
        have lb := World.block_lt m0
        have lb' := World.block_lt m0'
        have hj0 : (0 : Int) ≤ (k : Int) := by omega
        have hj1 : (k : Int) < (n : Int) := by omega
        have CS := fun (w' : World) (hb : Below wr.heap.size wr w') => samecerts_any sa sn sc ce1 sa' sn' sc' ce2 w' (hc1.old (bthen Hb.out hb)) (hc2.old (bthen Hb.out hb))
        have HX := Lib.hid hx; have HX' := Lib.hid hx'
        have hq := fun w => run_neq_sig w x1 t1 x2 t2
        dsimp only at m0 m1 m2 m3 m4 m0' m1' m2' m3' m4'
        clear hx hx' hf1 hv1 hc1 hx1 ht1 hf2 hv2 hc2 hx2 ht2
        by_cases hE0 : ¬ (f1 = f2)
        · have hno := Lib.hid (show decide (l.map Ch.canon = l'.map Ch.canon) = false from decide_eq_false (map_ne HX.out HX'.out (fun hc => hE0 ((chCanon_iff _ _).1 hc).1)))
          have d0 : (f1 != f2) = true := by simpa using hE0
          clear CS
          clear ht hE0
          go_wp2_with fail
          refine wp_region_below (by kernel_rfl) (by kernel_rfl) ?_
          repeat (refine wpQuiet_step (fun K hK => ?_); go_simp; first | (refine hK _ ?_; clear hK K) | (apply Exists.intro; refine ⟨fun w' hw' => ?_, hK _ ?_⟩; (first | (go_at_call 130; exact Calls.quiet_below hw' (CS.out _ hw')) | (with_reducible rfl) | (obtain ⟨cc, dd⟩ := bcell hw'; go_simp; rfl)); clear hK K))
          refine wpQuiet_nil ?_
          intro w7 h7
          have B7 := Lib.hid (bthen Hb.out h7)
          clear h7 m0 m1 m2 m3 m4 m0' m1' m2' m3' m4'
          go_wp2_with fail
          go_ret
          exact ⟨by rw [hno.out]; rfl, B7.out⟩
        replace hE0 := Classical.not_not.1 hE0
        have d0 : (f1 != f2) = false := by simpa using hE0
        by_cases hE1 : ¬ (v1 = v2)
        · have hno := Lib.hid (show decide (l.map Ch.canon = l'.map Ch.canon) = false from decide_eq_false (map_ne HX.out HX'.out (fun hc => hE1 ((chCanon_iff _ _).1 hc).2.1)))
          have d1 : (v1 != v2) = true := by simpa using hE1
          clear CS
          clear ht hE0 hE1
          go_wp2_with fail
          refine wp_region_below (by kernel_rfl) (by kernel_rfl) ?_
          repeat (refine wpQuiet_step (fun K hK => ?_); go_simp; first | (refine hK _ ?_; clear hK K) | (apply Exists.intro; refine ⟨fun w' hw' => ?_, hK _ ?_⟩; (first | (go_at_call 130; exact Calls.quiet_below hw' (CS.out _ hw')) | (with_reducible rfl) | (obtain ⟨cc, dd⟩ := bcell hw'; go_simp; rfl)); clear hK K))
          refine wpQuiet_nil ?_
          intro w7 h7
          have B7 := Lib.hid (bthen Hb.out h7)
          clear h7 m0 m1 m2 m3 m4 m0' m1' m2' m3' m4'
          go_wp2_with fail
          go_ret
          exact ⟨by rw [hno.out]; rfl, B7.out⟩
        replace hE1 := Classical.not_not.1 hE1
        have d1 : (v1 != v2) = false := by simpa using hE1
        by_cases hE2 : ¬ (((x1, t1) : Sg) = (x2, t2))
        · have hno := Lib.hid (show decide (l.map Ch.canon = l'.map Ch.canon) = false from decide_eq_false (map_ne HX.out HX'.out (fun hc => hE2 ((chCanon_iff _ _).1 hc).2.2.1)))
          rw [decide_eq_false hE2] at hq
          clear CS
          clear ht hE0 hE1 hE2
          go_wp2_with fail
          refine wp_region_below (by kernel_rfl) (by kernel_rfl) ?_
          repeat (refine wpQuiet_step (fun K hK => ?_); go_simp; first | (refine hK _ ?_; clear hK K) | (apply Exists.intro; refine ⟨fun w' hw' => ?_, hK _ ?_⟩; (first | (go_at_call 130; exact Calls.quiet_below hw' (CS.out _ hw')) | (with_reducible rfl) | (obtain ⟨cc, dd⟩ := bcell hw'; go_simp; rfl)); clear hK K))
          refine wpQuiet_nil ?_
          intro w7 h7
          have B7 := Lib.hid (bthen Hb.out h7)
          clear h7 m0 m1 m2 m3 m4 m0' m1' m2' m3' m4'
          go_wp2_with fail
          go_ret
          exact ⟨by rw [hno.out]; rfl, B7.out⟩
        replace hE2 := Classical.not_not.1 hE2
        rw [decide_eq_true hE2] at hq
        by_cases hE3 : ¬ (ce1.map Ce.canon = ce2.map Ce.canon)
        · have hno := Lib.hid (show decide (l.map Ch.canon = l'.map Ch.canon) = false from decide_eq_false (map_ne HX.out HX'.out (fun hc => hE3 ((chCanon_iff _ _).1 hc).2.2.2)))
          rw [decide_eq_false hE3] at CS
          have CS := Lib.hid CS
          clear ht hE0 hE1 hE2 hE3
          go_wp2_with fail
          refine wp_region_below (by kernel_rfl) (by kernel_rfl) ?_
          repeat (refine wpQuiet_step (fun K hK => ?_); go_simp; first | (refine hK _ ?_; clear hK K) | (apply Exists.intro; refine ⟨fun w' hw' => ?_, hK _ ?_⟩; (first | (go_at_call 130; exact Calls.quiet_below hw' (CS.out _ hw')) | (with_reducible rfl) | (obtain ⟨cc, dd⟩ := bcell hw'; go_simp; rfl)); clear hK K))
          refine wpQuiet_nil ?_
          intro w7 h7
          have B7 := Lib.hid (bthen Hb.out h7)
          clear h7 m0 m1 m2 m3 m4 m0' m1' m2' m3' m4'
          go_wp2_with fail
          go_ret
          exact ⟨by rw [hno.out]; rfl, B7.out⟩
        replace hE3 := Classical.not_not.1 hE3
        rw [decide_eq_true hE3] at CS
        have CS := Lib.hid CS
        have ht' := Lib.hid (map_take_snoc ht.out HX.out HX'.out ((chCanon_iff _ _).2 ⟨hE0, hE1, hE2, hE3⟩))
        clear ht hE0 hE1 hE2 hE3
        go_wp2_with fail
        refine wp_region_below (by kernel_rfl) (by kernel_rfl) ?_
        repeat (refine wpQuiet_step (fun K hK => ?_); go_simp; first | (refine hK _ ?_; clear hK K) | (apply Exists.intro; refine ⟨fun w' hw' => ?_, hK _ ?_⟩; (first | (go_at_call 130; exact Calls.quiet_below hw' (CS.out _ hw')) | (with_reducible rfl) | (obtain ⟨cc, dd⟩ := bcell hw'; go_simp; rfl)); clear hK K))
        refine wpQuiet_nil ?_
        intro w7 h7
        have B7 := Lib.hid (bthen Hb.out h7)
        clear h7 m0 m1 m2 m3 m4 m0' m1' m2' m3' m4'
        go_wp2_with fail
        go_roundw
        case rel => exact ⟨k + 1, by omega, by go_num, B7, ht'⟩
        case measure => simp [intOf]; omega
      · have hy := Lib.hid (Hfin.out k (by omega) ht.out)
        clear ht
        go_wp2_with fail
        go_ret
        exact ⟨by rw [hy.out]; rfl, Hb.out⟩
  · have hne : ((n : Int) != n') = true := by simp; omega
    have hno := Lib.hid (show decide (l.map Ch.canon = l'.map Ch.canon) = false from decide_eq_false (fun hc => by
      have := congrArg List.length hc
      simp at this
      omega))
    clear hlen hlen'
    go_enter Try.func70, Try.ntmps70
    go_wp2_with fail
    go_ret
    exact ⟨by rw [hno.out]; rfl, Below.refl _ _⟩
end Go.Proofs.Ytijeieamodjgbaa
