
/- Wire: walks of the reference's SameCerts, SameChanges, Same. (printed by mkWsm.py) -/
import Derived.Test.YtijeieamodjgbaaGreatWp1
import Derived.Test.YtijeieamodjgbaaGreatTr9
import Derived.Test.YtijeieamodjgbaaGreatWa
import Derived.Test.YtijeieamodjgbaaGreatDr2
namespace Go.Proofs.YtijeieamodjgbaaGreat
set_option maxRecDepth 100000
open Go.RowKit Go.Deep
attribute [local irreducible] wpQuiet
set_option linter.unusedVariables false
set_option linter.unusedSimpArgs false
attribute [local go_sem] run_store_float
theorem whole_iff (x y : Rq) : wholeB x y = true ↔ x.canon = y.canon := by
  obtain ⟨c, s, k, t, b, i⟩ := x; obtain ⟨c', s', k', t', b', i'⟩ := y; simp only [wholeB, Rq.canon, Bool.and_eq_true, decide_eq_true_eq, Rq.mk.injEq]
  constructor
  · rintro ⟨⟨⟨⟨⟨h1, h2⟩, h3⟩, h4⟩, h5⟩, h6⟩; exact ⟨h1, h2, h3, h4, h6, h5⟩
  · rintro ⟨h1, h2, h3, h4, h6, h5⟩; exact ⟨⟨⟨⟨⟨h1, h2⟩, h3⟩, h4⟩, h5⟩, h6⟩
theorem ceCanon_iff (x y : Ce) : x.canon = y.canon ↔ x.v = y.v ∧ x.s = y.s ∧ wholeB x.q y.q = true ∧ x.sg = y.sg := by
  obtain ⟨v, s, q, g⟩ := x; obtain ⟨v', s', q', g'⟩ := y; simp only [Ce.canon, whole_iff, Ce.mk.injEq]
theorem chCanon_iff (x y : Ch) : x.canon = y.canon ↔ x.fr = y.fr ∧ x.v = y.v ∧ x.sg = y.sg ∧ x.ce.map Ce.canon = y.ce.map Ce.canon := by
  obtain ⟨v, s, q, g⟩ := x; obtain ⟨v', s', q', g'⟩ := y; simp only [Ch.canon, Ch.mk.injEq]
  constructor
  · rintro ⟨h1, h2, h3, h4⟩; exact ⟨h1, h2, h4, h3⟩
  · rintro ⟨h1, h2, h4, h3⟩; exact ⟨h1, h2, h3, h4⟩
instance : DecidableEq Rq := fun x y => decidable_of_iff (x.c = y.c ∧ x.s = y.s ∧ x.kind = y.kind ∧ x.key = y.key ∧ x.b = y.b ∧ x.id = y.id) (by cases x; cases y; simp)
instance : DecidableEq Ce := fun x y => decidable_of_iff (x.v = y.v ∧ x.s = y.s ∧ x.q = y.q ∧ x.sg = y.sg) (by cases x; cases y; simp)
instance : DecidableEq Ch := fun x y => decidable_of_iff (x.fr = y.fr ∧ x.v = y.v ∧ x.ce = y.ce ∧ x.sg = y.sg) (by cases x; cases y; simp)
instance : DecidableEq Mg := fun x y => decidable_of_iff (x.k = y.k ∧ x.e = y.e ∧ x.v = y.v ∧ x.s = y.s ∧ x.q = y.q ∧ x.c = y.c ∧ x.r = y.r ∧ x.t = y.t ∧ x.nx = y.nx ∧ x.sg = y.sg ∧ x.ch = y.ch ∧ x.lk = y.lk) (by cases x; cases y; simp)
theorem map_take_snoc {α β : Type} {f : α → β} {l l' : List α} {k : Nat} {x y : α} (h : (l.take k).map f = (l'.take k).map f) (hx : l[k]? = some x) (hy : l'[k]? = some y) (he : f x = f y) : (l.take (k + 1)).map f = (l'.take (k + 1)).map f := by
  rw [List.take_add_one, List.take_add_one, hx, hy, List.map_append, List.map_append, h]
  simp [he]
theorem map_ne {α β : Type} {f : α → β} {l l' : List α} {k : Nat} {x y : α} (hx : l[k]? = some x) (hy : l'[k]? = some y) (he : f x ≠ f y) : ¬ l.map f = l'.map f := fun hc => by
  have h := congrArg (fun z => z[k]?) hc
  simp only [List.getElem?_map, hx, hy, Option.map_some, Option.some.injEq] at h
  exact he h
set_option maxHeartbeats 2000000 in
theorem samecerts_any (a : Option Addr) (n c : Nat) (l : List Ce) (a' : Option Addr) (n' c' : Nat) (l' : List Ce) (w : World) (h : SlAt shCert w a n c l) (h' : SlAt shCert w a' n' c' l') :
    Calls Tryz.prog 96 #[.slice a n c, .slice a' n' c'] w fun e w' => e = .returned (.bool (decide (l.map Ce.canon = l'.map Ce.canon))) ∧ Below w.heap.size w w' := by
  have hmax := h.max; have hcap := h.cap; have hmax' := h'.max; have hcap' := h'.cap; have hlen := h.len; have hlen' := h'.len; have H := Lib.hid h; clear h; have H' := Lib.hid h'; clear h'
  by_cases hnn : n = n'
  · subst hnn
    have hn0 : ((n : Int) != n) = false := by simp
    have hfin : ∀ k, k = n → (l.take k).map Ce.canon = (l'.take k).map Ce.canon → decide (l.map Ce.canon = l'.map Ce.canon) = true := fun k hk ht => by
      rw [List.take_of_length_le (by omega), List.take_of_length_le (by omega)] at ht
      simp [ht]
    have Hfin := Lib.hid hfin; have Hlen := Lib.hid hlen; have Hlen' := Lib.hid hlen'; clear hfin hlen hlen'
    go_enter Tryz.func96, Tryz.ntmps96
    go_wp2_with fail
    go_loopw [5] (fun i wr => ∃ k : Nat, k ≤ n ∧ i = .int .i64 k ∧ Hid (Below w.heap.size w wr) ∧ Hid ((l.take k).map Ce.canon = (l'.take k).map Ce.canon)) (fun i _ => n - (intOf i).toNat)
    case atStart => exact ⟨0, by omega, rfl, Lib.hid (Below.refl _ _), Lib.hid (by simp)⟩
    case round =>
      obtain ⟨k, hk, rfl, Hb, ht⟩ := hrel
      by_cases hlt : k < n
      · obtain ⟨b, o, ⟨v1, s1, ⟨qc, qs, qk, qt, qb, qi⟩, g1⟩, sa, sn, sc, rfl, hx, m0, m1, m2, m3, m4, m5, m6, m7, m8, hv1, hs1, hq1, hg1⟩ := cert_cells H.out hlt
        obtain ⟨b', o', ⟨v2, s2, ⟨qc', qs', qk', qt', qb', qi'⟩, g2⟩, sa', sn', sc', rfl, hx', m0', m1', m2', m3', m4', m5', m6', m7', m8', hv2, hs2, hq2, hg2⟩ := cert_cells H'.out hlt
        replace m0 := below_cell Hb.out m0
        replace m1 := below_cell Hb.out m1
        replace m2 := below_cell Hb.out m2
        replace m3 := below_cell Hb.out m3
        replace m4 := below_cell Hb.out m4
        replace m5 := below_cell Hb.out m5
        replace m6 := below_cell Hb.out m6
        replace m7 := below_cell Hb.out m7
        replace m8 := below_cell Hb.out m8
        replace m0' := below_cell Hb.out m0'
        replace m1' := below_cell Hb.out m1'
        replace m2' := below_cell Hb.out m2'
        replace m3' := below_cell Hb.out m3'
        replace m4' := below_cell Hb.out m4'
        replace m5' := below_cell Hb.out m5'
        replace m6' := below_cell Hb.out m6'
        replace m7' := below_cell Hb.out m7'
        replace m8' := below_cell Hb.out m8'
        have lb := World.block_lt m0; have lb' := World.block_lt m0'
        have hj0 : (0 : Int) ≤ (k : Int) := by omega
        have hj1 : (k : Int) < (n : Int) := by omega
        have CW := fun (w' : World) (hb : Below wr.heap.size wr w') => whole_rq ⟨qc, qs, qk, qt, qb, qi⟩ ⟨qc', qs', qk', qt', qb', qi'⟩ hq1.b hq2.b w'
        simp only [Rq.v] at CW
        have CS := fun (w' : World) (hb : Below wr.heap.size wr w') => samesigs_any sa sn sc g1 sa' sn' sc' g2 w' (hg1.old (bthen Hb.out hb)) (hg2.old (bthen Hb.out hb))
        have HX := Lib.hid hx; have HX' := Lib.hid hx'
        dsimp only at m0 m1 m2 m3 m4 m5 m6 m7 m0' m1' m2' m3' m4' m5' m6' m7'
        clear hx hx' hv1 hs1 hq1 hg1 hv2 hs2 hq2 hg2
        by_cases hE0 : ¬ (v1 = v2)
        · have hno := Lib.hid (show decide (l.map Ce.canon = l'.map Ce.canon) = false from decide_eq_false (map_ne HX.out HX'.out (fun hc => hE0 ((ceCanon_iff _ _).1 hc).1)))
          have d0 : (v1 != v2) = true := by simpa using hE0
          clear CW CS; clear ht hE0
          go_wp2_with fail
          refine wp_region_below (by kernel_rfl) (by kernel_rfl) ?_
          repeat (refine wpQuiet_step (fun K hK => ?_); go_simp; first | (refine hK _ ?_; clear hK K) | (apply Exists.intro; refine ⟨fun w' hw' => ?_, hK _ ?_⟩; (first | (go_at_call 41; exact Calls.quiet_below hw' (CW.out _ hw')) | (go_at_call 40; exact Calls.quiet_below_drawn hw' (CS.out _ hw')) | (with_reducible rfl) | (obtain ⟨cc, dd⟩ := bcell hw'; go_simp; rfl)); clear hK K))
          refine wpQuiet_nil ?_
          intro w7 h7; have B7 := Lib.hid (bthen Hb.out h7); clear h7 m0 m1 m2 m3 m4 m5 m6 m7 m8 m0' m1' m2' m3' m4' m5' m6' m7' m8'
          go_wp2_with fail
          go_ret
          exact ⟨by rw [hno.out]; rfl, B7.out⟩
        replace hE0 := Classical.not_not.1 hE0
        have d0 : (v1 != v2) = false := by simpa using hE0
        by_cases hE1 : ¬ (s1 = s2)
        · have hno := Lib.hid (show decide (l.map Ce.canon = l'.map Ce.canon) = false from decide_eq_false (map_ne HX.out HX'.out (fun hc => hE1 ((ceCanon_iff _ _).1 hc).2.1)))
          have d1 : (s1 != s2) = true := by simpa using hE1
          clear CW CS; clear ht hE0 hE1
          go_wp2_with fail
          refine wp_region_below (by kernel_rfl) (by kernel_rfl) ?_
          repeat (refine wpQuiet_step (fun K hK => ?_); go_simp; first | (refine hK _ ?_; clear hK K) | (apply Exists.intro; refine ⟨fun w' hw' => ?_, hK _ ?_⟩; (first | (go_at_call 41; exact Calls.quiet_below hw' (CW.out _ hw')) | (go_at_call 40; exact Calls.quiet_below_drawn hw' (CS.out _ hw')) | (with_reducible rfl) | (obtain ⟨cc, dd⟩ := bcell hw'; go_simp; rfl)); clear hK K))
          refine wpQuiet_nil ?_
          intro w7 h7; have B7 := Lib.hid (bthen Hb.out h7); clear h7 m0 m1 m2 m3 m4 m5 m6 m7 m8 m0' m1' m2' m3' m4' m5' m6' m7' m8'
          go_wp2_with fail
          go_ret
          exact ⟨by rw [hno.out]; rfl, B7.out⟩
        replace hE1 := Classical.not_not.1 hE1
        have d1 : (s1 != s2) = false := by simpa using hE1
        by_cases hE2 : ¬ (wholeB ⟨qc, qs, qk, qt, qb, qi⟩ ⟨qc', qs', qk', qt', qb', qi'⟩ = true)
        · have hno := Lib.hid (show decide (l.map Ce.canon = l'.map Ce.canon) = false from decide_eq_false (map_ne HX.out HX'.out (fun hc => hE2 ((ceCanon_iff _ _).1 hc).2.2.1)))
          rw [Bool.eq_false_iff.2 hE2] at CW
          have CW := Lib.hid CW; clear CS; clear ht hE0 hE1 hE2
          go_wp2_with fail
          refine wp_region_below (by kernel_rfl) (by kernel_rfl) ?_
          repeat (refine wpQuiet_step (fun K hK => ?_); go_simp; first | (refine hK _ ?_; clear hK K) | (apply Exists.intro; refine ⟨fun w' hw' => ?_, hK _ ?_⟩; (first | (go_at_call 41; exact Calls.quiet_below hw' (CW.out _ hw')) | (go_at_call 40; exact Calls.quiet_below_drawn hw' (CS.out _ hw')) | (with_reducible rfl) | (obtain ⟨cc, dd⟩ := bcell hw'; go_simp; rfl)); clear hK K))
          refine wpQuiet_nil ?_
          intro w7 h7; have B7 := Lib.hid (bthen Hb.out h7); clear h7 m0 m1 m2 m3 m4 m5 m6 m7 m8 m0' m1' m2' m3' m4' m5' m6' m7' m8'
          go_wp2_with fail
          go_ret
          exact ⟨by rw [hno.out]; rfl, B7.out⟩
        replace hE2 := Classical.not_not.1 hE2
        rw [hE2] at CW
        have CW := Lib.hid CW
        by_cases hE3 : ¬ (g1 = g2)
        · have hno := Lib.hid (show decide (l.map Ce.canon = l'.map Ce.canon) = false from decide_eq_false (map_ne HX.out HX'.out (fun hc => hE3 ((ceCanon_iff _ _).1 hc).2.2.2)))
          rw [decide_eq_false hE3] at CS
          have CS := Lib.hid CS; clear ht hE0 hE1 hE2 hE3
          go_wp2_with fail
          refine wp_region_below (by kernel_rfl) (by kernel_rfl) ?_
          repeat (refine wpQuiet_step (fun K hK => ?_); go_simp; first | (refine hK _ ?_; clear hK K) | (apply Exists.intro; refine ⟨fun w' hw' => ?_, hK _ ?_⟩; (first | (go_at_call 41; exact Calls.quiet_below hw' (CW.out _ hw')) | (go_at_call 40; exact Calls.quiet_below_drawn hw' (CS.out _ hw')) | (with_reducible rfl) | (obtain ⟨cc, dd⟩ := bcell hw'; go_simp; rfl)); clear hK K))
          refine wpQuiet_nil ?_
          intro w7 h7; have B7 := Lib.hid (bthen Hb.out h7); clear h7 m0 m1 m2 m3 m4 m5 m6 m7 m8 m0' m1' m2' m3' m4' m5' m6' m7' m8'
          go_wp2_with fail
          go_ret
          exact ⟨by rw [hno.out]; rfl, B7.out⟩
        replace hE3 := Classical.not_not.1 hE3
        rw [decide_eq_true hE3] at CS
        have CS := Lib.hid CS; have ht' := Lib.hid (map_take_snoc ht.out HX.out HX'.out ((ceCanon_iff _ _).2 ⟨hE0, hE1, hE2, hE3⟩)); clear ht hE0 hE1 hE2 hE3
        go_wp2_with fail
        refine wp_region_below (by kernel_rfl) (by kernel_rfl) ?_
        repeat (refine wpQuiet_step (fun K hK => ?_); go_simp; first | (refine hK _ ?_; clear hK K) | (apply Exists.intro; refine ⟨fun w' hw' => ?_, hK _ ?_⟩; (first | (go_at_call 41; exact Calls.quiet_below hw' (CW.out _ hw')) | (go_at_call 40; exact Calls.quiet_below_drawn hw' (CS.out _ hw')) | (with_reducible rfl) | (obtain ⟨cc, dd⟩ := bcell hw'; go_simp; rfl)); clear hK K))
        refine wpQuiet_nil ?_
        intro w7 h7; have B7 := Lib.hid (bthen Hb.out h7); clear h7 m0 m1 m2 m3 m4 m5 m6 m7 m8 m0' m1' m2' m3' m4' m5' m6' m7' m8'
        go_wp2_with fail
        go_roundw
        case rel => exact ⟨k + 1, by omega, by go_num, B7, ht'⟩
        case measure => simp [intOf]; omega
      · have hy := Lib.hid (Hfin.out k (by omega) ht.out)
        clear ht
        go_wp2_with fail
        go_ret
        exact ⟨by rw [hy.out]; rfl, Hb.out⟩
  · have hne : ((n : Int) != n') = true := by simp; omega
    have hno := Lib.hid (show decide (l.map Ce.canon = l'.map Ce.canon) = false from decide_eq_false (fun hc => by
      have := congrArg List.length hc
      simp at this
      omega))
    clear hlen hlen'
    go_enter Tryz.func96, Tryz.ntmps96
    go_wp2_with fail
    go_ret
    exact ⟨by rw [hno.out]; rfl, Below.refl _ _⟩
set_option maxHeartbeats 2000000 in
theorem samechanges_any (a : Option Addr) (n c : Nat) (l : List Ch) (a' : Option Addr) (n' c' : Nat) (l' : List Ch) (w : World) (h : SlAt shChange w a n c l) (h' : SlAt shChange w a' n' c' l') :
    Calls Tryz.prog 44 #[.slice a n c, .slice a' n' c'] w fun e w' => e = .returned (.bool (decide (l.map Ch.canon = l'.map Ch.canon))) ∧ Below w.heap.size w w' := by
  have hmax := h.max; have hcap := h.cap; have hmax' := h'.max; have hcap' := h'.cap; have hlen := h.len; have hlen' := h'.len; have H := Lib.hid h; clear h; have H' := Lib.hid h'; clear h'
  by_cases hnn : n = n'
  · subst hnn
    have hn0 : ((n : Int) != n) = false := by simp
    have hfin : ∀ k, k = n → (l.take k).map Ch.canon = (l'.take k).map Ch.canon → decide (l.map Ch.canon = l'.map Ch.canon) = true := fun k hk ht => by
      rw [List.take_of_length_le (by omega), List.take_of_length_le (by omega)] at ht
      simp [ht]
    have Hfin := Lib.hid hfin; have Hlen := Lib.hid hlen; have Hlen' := Lib.hid hlen'; clear hfin hlen hlen'
    go_enter Tryz.func44, Tryz.ntmps44
    go_wp2_with fail
    go_loopw [5] (fun i wr => ∃ k : Nat, k ≤ n ∧ i = .int .i64 k ∧ Hid (Below w.heap.size w wr) ∧ Hid ((l.take k).map Ch.canon = (l'.take k).map Ch.canon)) (fun i _ => n - (intOf i).toNat)
    case atStart => exact ⟨0, by omega, rfl, Lib.hid (Below.refl _ _), Lib.hid (by simp)⟩
    case round =>
      obtain ⟨k, hk, rfl, Hb, ht⟩ := hrel
      by_cases hlt : k < n
      · obtain ⟨b, o, ⟨f1, v1, ce1, ⟨x1, t1⟩⟩, sa, sn, sc, rfl, hx, m0, m1, m2, m3, m4, hf1, hv1, hc1, hx1, ht1⟩ := change_cells H.out hlt
        obtain ⟨b', o', ⟨f2, v2, ce2, ⟨x2, t2⟩⟩, sa', sn', sc', rfl, hx', m0', m1', m2', m3', m4', hf2, hv2, hc2, hx2, ht2⟩ := change_cells H'.out hlt
        replace m0 := below_cell Hb.out m0
        replace m1 := below_cell Hb.out m1
        replace m2 := below_cell Hb.out m2
        replace m3 := below_cell Hb.out m3
        replace m4 := below_cell Hb.out m4
        replace m0' := below_cell Hb.out m0'
        replace m1' := below_cell Hb.out m1'
        replace m2' := below_cell Hb.out m2'
        replace m3' := below_cell Hb.out m3'
        replace m4' := below_cell Hb.out m4'
        have lb := World.block_lt m0; have lb' := World.block_lt m0'
        have hj0 : (0 : Int) ≤ (k : Int) := by omega
        have hj1 : (k : Int) < (n : Int) := by omega
        have CS := fun (w' : World) (hb : Below wr.heap.size wr w') => samecerts_any sa sn sc ce1 sa' sn' sc' ce2 w' (hc1.old (bthen Hb.out hb)) (hc2.old (bthen Hb.out hb))
        have HX := Lib.hid hx; have HX' := Lib.hid hx'
        have hq := fun w => run_neq_sig w x1 t1 x2 t2
        dsimp only at m0 m1 m2 m3 m4 m0' m1' m2' m3' m4'
        clear hx hx' hf1 hv1 hc1 hx1 ht1 hf2 hv2 hc2 hx2 ht2
        by_cases hE0 : ¬ (f1 = f2)
        · have hno := Lib.hid (show decide (l.map Ch.canon = l'.map Ch.canon) = false from decide_eq_false (map_ne HX.out HX'.out (fun hc => hE0 ((chCanon_iff _ _).1 hc).1)))
          have d0 : (f1 != f2) = true := by simpa using hE0
          clear CS; clear ht hE0
          go_wp2_with fail
          refine wp_region_below (by kernel_rfl) (by kernel_rfl) ?_
          repeat (refine wpQuiet_step (fun K hK => ?_); go_simp; first | (refine hK _ ?_; clear hK K) | (apply Exists.intro; refine ⟨fun w' hw' => ?_, hK _ ?_⟩; (first | (go_at_call 96; exact Calls.quiet_below hw' (CS.out _ hw')) | (with_reducible rfl) | (obtain ⟨cc, dd⟩ := bcell hw'; go_simp; rfl)); clear hK K))
          refine wpQuiet_nil ?_
          intro w7 h7; have B7 := Lib.hid (bthen Hb.out h7); clear h7 m0 m1 m2 m3 m4 m0' m1' m2' m3' m4'
          go_wp2_with fail
          go_ret
          exact ⟨by rw [hno.out]; rfl, B7.out⟩
        replace hE0 := Classical.not_not.1 hE0
        have d0 : (f1 != f2) = false := by simpa using hE0
        by_cases hE1 : ¬ (v1 = v2)
        · have hno := Lib.hid (show decide (l.map Ch.canon = l'.map Ch.canon) = false from decide_eq_false (map_ne HX.out HX'.out (fun hc => hE1 ((chCanon_iff _ _).1 hc).2.1)))
          have d1 : (v1 != v2) = true := by simpa using hE1
          clear CS; clear ht hE0 hE1
          go_wp2_with fail
          refine wp_region_below (by kernel_rfl) (by kernel_rfl) ?_
          repeat (refine wpQuiet_step (fun K hK => ?_); go_simp; first | (refine hK _ ?_; clear hK K) | (apply Exists.intro; refine ⟨fun w' hw' => ?_, hK _ ?_⟩; (first | (go_at_call 96; exact Calls.quiet_below hw' (CS.out _ hw')) | (with_reducible rfl) | (obtain ⟨cc, dd⟩ := bcell hw'; go_simp; rfl)); clear hK K))
          refine wpQuiet_nil ?_
          intro w7 h7; have B7 := Lib.hid (bthen Hb.out h7); clear h7 m0 m1 m2 m3 m4 m0' m1' m2' m3' m4'
          go_wp2_with fail
          go_ret
          exact ⟨by rw [hno.out]; rfl, B7.out⟩
        replace hE1 := Classical.not_not.1 hE1
        have d1 : (v1 != v2) = false := by simpa using hE1
        by_cases hE2 : ¬ (((x1, t1) : Sg) = (x2, t2))
        · have hno := Lib.hid (show decide (l.map Ch.canon = l'.map Ch.canon) = false from decide_eq_false (map_ne HX.out HX'.out (fun hc => hE2 ((chCanon_iff _ _).1 hc).2.2.1)))
          rw [decide_eq_false hE2] at hq
          clear CS; clear ht hE0 hE1 hE2
          go_wp2_with fail
          refine wp_region_below (by kernel_rfl) (by kernel_rfl) ?_
          repeat (refine wpQuiet_step (fun K hK => ?_); go_simp; first | (refine hK _ ?_; clear hK K) | (apply Exists.intro; refine ⟨fun w' hw' => ?_, hK _ ?_⟩; (first | (go_at_call 96; exact Calls.quiet_below hw' (CS.out _ hw')) | (with_reducible rfl) | (obtain ⟨cc, dd⟩ := bcell hw'; go_simp; rfl)); clear hK K))
          refine wpQuiet_nil ?_
          intro w7 h7; have B7 := Lib.hid (bthen Hb.out h7); clear h7 m0 m1 m2 m3 m4 m0' m1' m2' m3' m4'
          go_wp2_with fail
          go_ret
          exact ⟨by rw [hno.out]; rfl, B7.out⟩
        replace hE2 := Classical.not_not.1 hE2
        rw [decide_eq_true hE2] at hq
        by_cases hE3 : ¬ (ce1.map Ce.canon = ce2.map Ce.canon)
        · have hno := Lib.hid (show decide (l.map Ch.canon = l'.map Ch.canon) = false from decide_eq_false (map_ne HX.out HX'.out (fun hc => hE3 ((chCanon_iff _ _).1 hc).2.2.2)))
          rw [decide_eq_false hE3] at CS
          have CS := Lib.hid CS; clear ht hE0 hE1 hE2 hE3
          go_wp2_with fail
          refine wp_region_below (by kernel_rfl) (by kernel_rfl) ?_
          repeat (refine wpQuiet_step (fun K hK => ?_); go_simp; first | (refine hK _ ?_; clear hK K) | (apply Exists.intro; refine ⟨fun w' hw' => ?_, hK _ ?_⟩; (first | (go_at_call 96; exact Calls.quiet_below hw' (CS.out _ hw')) | (with_reducible rfl) | (obtain ⟨cc, dd⟩ := bcell hw'; go_simp; rfl)); clear hK K))
          refine wpQuiet_nil ?_
          intro w7 h7; have B7 := Lib.hid (bthen Hb.out h7); clear h7 m0 m1 m2 m3 m4 m0' m1' m2' m3' m4'
          go_wp2_with fail
          go_ret
          exact ⟨by rw [hno.out]; rfl, B7.out⟩
        replace hE3 := Classical.not_not.1 hE3
        rw [decide_eq_true hE3] at CS
        have CS := Lib.hid CS; have ht' := Lib.hid (map_take_snoc ht.out HX.out HX'.out ((chCanon_iff _ _).2 ⟨hE0, hE1, hE2, hE3⟩)); clear ht hE0 hE1 hE2 hE3
        go_wp2_with fail
        refine wp_region_below (by kernel_rfl) (by kernel_rfl) ?_
        repeat (refine wpQuiet_step (fun K hK => ?_); go_simp; first | (refine hK _ ?_; clear hK K) | (apply Exists.intro; refine ⟨fun w' hw' => ?_, hK _ ?_⟩; (first | (go_at_call 96; exact Calls.quiet_below hw' (CS.out _ hw')) | (with_reducible rfl) | (obtain ⟨cc, dd⟩ := bcell hw'; go_simp; rfl)); clear hK K))
        refine wpQuiet_nil ?_
        intro w7 h7; have B7 := Lib.hid (bthen Hb.out h7); clear h7 m0 m1 m2 m3 m4 m0' m1' m2' m3' m4'
        go_wp2_with fail
        go_roundw
        case rel => exact ⟨k + 1, by omega, by go_num, B7, ht'⟩
        case measure => simp [intOf]; omega
      · have hy := Lib.hid (Hfin.out k (by omega) ht.out)
        clear ht
        go_wp2_with fail
        go_ret
        exact ⟨by rw [hy.out]; rfl, Hb.out⟩
  · have hne : ((n : Int) != n') = true := by simp; omega
    have hno := Lib.hid (show decide (l.map Ch.canon = l'.map Ch.canon) = false from decide_eq_false (fun hc => by
      have := congrArg List.length hc
      simp at this
      omega))
    clear hlen hlen'
    go_enter Tryz.func44, Tryz.ntmps44
    go_wp2_with fail
    go_ret
    exact ⟨by rw [hno.out]; rfl, Below.refl _ _⟩
end Go.Proofs.YtijeieamodjgbaaGreat
/- Wire: walk of the reference's Same. (printed by mkWsa.py) -/
namespace Go.Proofs.YtijeieamodjgbaaGreat
set_option maxRecDepth 100000
open Go.RowKit Go.Deep
attribute [local irreducible] wpQuiet
set_option linter.unusedVariables false
set_option linter.unusedSimpArgs false
attribute [local go_sem] run_store_float
theorem mgCanon_iff (x y : Mg) : x.canon = y.canon ↔ x.k = y.k ∧ x.e = y.e ∧ x.v = y.v ∧ x.s = y.s ∧ x.t = y.t ∧ x.lk = y.lk ∧ wholeB x.q y.q = true ∧ sameResB x.c x.r y.c y.r = true ∧ x.nx = y.nx ∧ x.sg = y.sg ∧ x.ch.map Ch.canon = y.ch.map Ch.canon := by
  obtain ⟨k, e, v, s, q, c, r, t, nx, sg, ch, lk⟩ := x; obtain ⟨k', e', v', s', q', c', r', t', nx', sg', ch', lk'⟩ := y; simp only [Mg.canon, whole_iff, Mg.mk.injEq, sameResB, Bool.and_eq_true, decide_eq_true_eq]
  constructor
  · rintro ⟨h1, h2, h3, h4, h5, h6, h7, h8, h9, h10, h11, h12⟩; exact ⟨h1, h2, h3, h4, h8, h12, h5, ⟨h6, h7⟩, h9, h10, h11⟩
  · rintro ⟨h1, h2, h3, h4, h8, h12, h5, ⟨h6, h7⟩, h9, h10, h11⟩; exact ⟨h1, h2, h3, h4, h5, h6, h7, h8, h9, h10, h11, h12⟩
set_option maxHeartbeats 4000000 in
theorem samemsg_any (m : Mg) (a1 : Option Addr) (n1 c1 : Nat) (a2 : Option Addr) (n2 c2 : Nat) (a3 : Option Addr) (n3 c3 : Nat) (a4 : Option Addr) (n4 c4 : Nat) (m' : Mg) (a1' : Option Addr) (n1' c1' : Nat) (a2' : Option Addr) (n2' c2' : Nat) (a3' : Option Addr) (n3' c3' : Nat) (a4' : Option Addr) (n4' c4' : Nat) (w : World) (hm : MsgIn w m a1 n1 c1 a2 n2 c2 a3 n3 c3 a4 n4 c4) (hm' : MsgIn w m' a1' n1' c1' a2' n2' c2' a3' n3' c3' a4' n4' c4') :
    Calls Tryz.prog 8 #[.agg (mgCs m a1 n1 c1 a2 n2 c2 a3 n3 c3 a4 n4 c4).toArray, .agg (mgCs m' a1' n1' c1' a2' n2' c2' a3' n3' c3' a4' n4' c4').toArray] w fun e w' => e = .returned (.bool (decide (m.canon = m'.canon))) ∧ Below w.heap.size w w' := by
  obtain ⟨w1, hw1⟩ : ∃ u, u = w.alloc (.cells (mgCs m a1 n1 c1 a2 n2 c2 a3 n3 c3 a4 n4 c4).toArray 35 (0, 0)) := ⟨_, rfl⟩
  obtain ⟨w2, hw2⟩ : ∃ u, u = w1.alloc (.cells (mgCs m' a1' n1' c1' a2' n2' c2' a3' n3' c3' a4' n4' c4').toArray 35 (0, 0)) := ⟨_, rfl⟩
  have b1 : Below w.heap.size w w1 := by rw [hw1]; exact below_alloc _ _
  have hz1 : w1.heap.size = w.heap.size + 1 := by rw [hw1]; simp
  have b2 : Below w1.heap.size w1 w2 := by rw [hw2]; exact below_alloc _ _
  have K1 := Lib.hid (show w2.heap[w.heap.size]? = some (.cells (mgCs m a1 n1 c1 a2 n2 c2 a3 n3 c3 a4 n4 c4).toArray 35 (0, 0)) from blk_below (by rw [hw1]; exact blk_alloc _ _) b2); have K2 := Lib.hid (show w2.heap[w.heap.size + 1]? = some (.cells (mgCs m' a1' n1' c1' a2' n2' c2' a3' n3' c3' a4' n4' c4').toArray 35 (0, 0)) by rw [← hz1, hw2]; exact blk_alloc _ _); have B2 := Lib.hid (bthen b1 b2); have HM := Lib.hid (hm.old B2.out); have HM' := Lib.hid (hm'.old B2.out); have HD := Lib.hid (fun (h : ¬ (m.k = m'.k ∧ m.e = m'.e ∧ m.v = m'.v ∧ m.s = m'.s ∧ m.t = m'.t ∧ m.lk = m'.lk ∧ wholeB m.q m'.q = true ∧ sameResB m.c m.r m'.c m'.r = true ∧ m.nx = m'.nx ∧ m.sg = m'.sg ∧ m.ch.map Ch.canon = m'.ch.map Ch.canon)) => (decide_eq_false (fun hc => h ((mgCanon_iff m m').1 hc)) : decide (m.canon = m'.canon) = false)); have HY := Lib.hid (fun (h : m.k = m'.k ∧ m.e = m'.e ∧ m.v = m'.v ∧ m.s = m'.s ∧ m.t = m'.t ∧ m.lk = m'.lk ∧ wholeB m.q m'.q = true ∧ sameResB m.c m.r m'.c m'.r = true ∧ m.nx = m'.nx ∧ m.sg = m'.sg ∧ m.ch.map Ch.canon = m'.ch.map Ch.canon) => (decide_eq_true ((mgCanon_iff m m').2 h) : decide (m.canon = m'.canon) = true))
  generalize decide (m.canon = m'.canon) = R at HD HY ⊢
  obtain ⟨CS, hCS⟩ : ∃ CS, CS = (mgCs m a1 n1 c1 a2 n2 c2 a3 n3 c3 a4 n4 c4).toArray := ⟨_, rfl⟩
  obtain ⟨CT, hCT⟩ : ∃ CT, CT = (mgCs m' a1' n1' c1' a2' n2' c2' a3' n3' c3' a4' n4' c4').toArray := ⟨_, rfl⟩
  rw [← hCS] at hw1 ⊢
  rw [← hCT] at hw2 ⊢
  have x0 : w2.cell? ⟨w.heap.size, 0, none⟩ = some (.int .i64 m.k) := mgAt_blk K1.out 0 _ rfl; have y0 : w2.cell? ⟨w.heap.size + 1, 0, none⟩ = some (.int .i64 m'.k) := mgAt_blk K2.out 0 _ rfl; have x1 : w2.cell? ⟨w.heap.size, 1, none⟩ = some (.int .i64 m.e) := mgAt_blk K1.out 1 _ rfl; have y1 : w2.cell? ⟨w.heap.size + 1, 1, none⟩ = some (.int .i64 m'.e) := mgAt_blk K2.out 1 _ rfl; have x2 : w2.cell? ⟨w.heap.size, 2, none⟩ = some (.int .i64 m.v) := mgAt_blk K1.out 2 _ rfl; have y2 : w2.cell? ⟨w.heap.size + 1, 2, none⟩ = some (.int .i64 m'.v) := mgAt_blk K2.out 2 _ rfl; have x3 : w2.cell? ⟨w.heap.size, 3, none⟩ = some (.int .i64 m.s) := mgAt_blk K1.out 3 _ rfl; have y3 : w2.cell? ⟨w.heap.size + 1, 3, none⟩ = some (.int .i64 m'.s) := mgAt_blk K2.out 3 _ rfl; have x4 : w2.cell? ⟨w.heap.size, 4, none⟩ = some (.int .i64 m.q.c) := mgAt_blk K1.out 4 _ rfl; have y4 : w2.cell? ⟨w.heap.size + 1, 4, none⟩ = some (.int .i64 m'.q.c) := mgAt_blk K2.out 4 _ rfl; have x5 : w2.cell? ⟨w.heap.size, 5, none⟩ = some (.int .i64 m.q.s) := mgAt_blk K1.out 5 _ rfl; have y5 : w2.cell? ⟨w.heap.size + 1, 5, none⟩ = some (.int .i64 m'.q.s) := mgAt_blk K2.out 5 _ rfl; have x6 : w2.cell? ⟨w.heap.size, 6, none⟩ = some (.int .i64 m.q.kind) := mgAt_blk K1.out 6 _ rfl; have y6 : w2.cell? ⟨w.heap.size + 1, 6, none⟩ = some (.int .i64 m'.q.kind) := mgAt_blk K2.out 6 _ rfl; have x7 : w2.cell? ⟨w.heap.size, 7, none⟩ = some (.string m.q.key) := mgAt_blk K1.out 7 _ rfl; have y7 : w2.cell? ⟨w.heap.size + 1, 7, none⟩ = some (.string m'.q.key) := mgAt_blk K2.out 7 _ rfl; have x8 : w2.cell? ⟨w.heap.size, 8, none⟩ = some (.float .f64 m.q.b) := mgAt_blk K1.out 8 _ rfl; have y8 : w2.cell? ⟨w.heap.size + 1, 8, none⟩ = some (.float .f64 m'.q.b) := mgAt_blk K2.out 8 _ rfl; have x9 : w2.cell? ⟨w.heap.size, 9, none⟩ = some (.int .i64 m.q.id) := mgAt_blk K1.out 9 _ rfl; have y9 : w2.cell? ⟨w.heap.size + 1, 9, none⟩ = some (.int .i64 m'.q.id) := mgAt_blk K2.out 9 _ rfl; have x10 : w2.cell? ⟨w.heap.size, 10, none⟩ = some (.int .i64 m.c) := mgAt_blk K1.out 10 _ rfl; have y10 : w2.cell? ⟨w.heap.size + 1, 10, none⟩ = some (.int .i64 m'.c) := mgAt_blk K2.out 10 _ rfl; have x11 : w2.cell? ⟨w.heap.size, 11, none⟩ = some (.float .f64 m.r) := mgAt_blk K1.out 11 _ rfl; have y11 : w2.cell? ⟨w.heap.size + 1, 11, none⟩ = some (.float .f64 m'.r) := mgAt_blk K2.out 11 _ rfl; have x12 : w2.cell? ⟨w.heap.size, 12, none⟩ = some (.string m.t) := mgAt_blk K1.out 12 _ rfl; have y12 : w2.cell? ⟨w.heap.size + 1, 12, none⟩ = some (.string m'.t) := mgAt_blk K2.out 12 _ rfl; have x13 : w2.cell? ⟨w.heap.size, 13, none⟩ = some (.slice a1 n1 c1) := mgAt_blk K1.out 13 _ rfl; have y13 : w2.cell? ⟨w.heap.size + 1, 13, none⟩ = some (.slice a1' n1' c1') := mgAt_blk K2.out 13 _ rfl; have x14 : w2.cell? ⟨w.heap.size, 14, none⟩ = some (.slice a2 n2 c2) := mgAt_blk K1.out 14 _ rfl; have y14 : w2.cell? ⟨w.heap.size + 1, 14, none⟩ = some (.slice a2' n2' c2') := mgAt_blk K2.out 14 _ rfl; have x15 : w2.cell? ⟨w.heap.size, 15, none⟩ = some (.slice a3 n3 c3) := mgAt_blk K1.out 15 _ rfl; have y15 : w2.cell? ⟨w.heap.size + 1, 15, none⟩ = some (.slice a3' n3' c3') := mgAt_blk K2.out 15 _ rfl; have x16 : w2.cell? ⟨w.heap.size, 16, none⟩ = some (.slice a4 n4 c4) := mgAt_blk K1.out 16 _ rfl; have y16 : w2.cell? ⟨w.heap.size + 1, 16, none⟩ = some (.slice a4' n4' c4') := mgAt_blk K2.out 16 _ rfl; have lH := World.block_lt x0; have lH' := World.block_lt y0; clear hm hm' b1 b2 hCS hCT hz1
  go_enter Tryz.func8, Tryz.ntmps8
  go_upto_region 1 with (fail)
  rw [← hw1, ← hw2]; clear hw1 hw2
  by_cases g0 : ¬ m.k = m'.k
  · have hr := HD.out (fun h => g0 h.1)
    have d0 : (m.k != m'.k) = true := by simpa using g0
    clear g0
    go_wp2_with fail
    go_ret
    exact ⟨by rw [hr]; rfl, B2.out⟩
  replace g0 := Classical.not_not.1 g0
  have d0 : (m.k != m'.k) = false := by simpa using g0
  by_cases g1 : ¬ m.e = m'.e
  · have hr := HD.out (fun h => g1 h.2.1)
    have d1 : (m.e != m'.e) = true := by simpa using g1
    clear g0 g1
    go_wp2_with fail
    go_ret
    exact ⟨by rw [hr]; rfl, B2.out⟩
  replace g1 := Classical.not_not.1 g1
  have d1 : (m.e != m'.e) = false := by simpa using g1
  by_cases g2 : ¬ m.v = m'.v
  · have hr := HD.out (fun h => g2 h.2.2.1)
    have d2 : (m.v != m'.v) = true := by simpa using g2
    clear g0 g1 g2
    go_wp2_with fail
    go_ret
    exact ⟨by rw [hr]; rfl, B2.out⟩
  replace g2 := Classical.not_not.1 g2
  have d2 : (m.v != m'.v) = false := by simpa using g2
  by_cases g3 : ¬ m.s = m'.s
  · have hr := HD.out (fun h => g3 h.2.2.2.1)
    have d3 : (m.s != m'.s) = true := by simpa using g3
    clear g0 g1 g2 g3
    go_wp2_with fail
    go_ret
    exact ⟨by rw [hr]; rfl, B2.out⟩
  replace g3 := Classical.not_not.1 g3
  have d3 : (m.s != m'.s) = false := by simpa using g3
  by_cases g4 : ¬ m.t = m'.t
  · have hr := HD.out (fun h => g4 h.2.2.2.2.1)
    have d4 : (m.t.toList == m'.t.toList) = false := str_neq g4; clear g0 g1 g2 g3 g4
    go_wp2_with fail
    go_ret
    exact ⟨by rw [hr]; rfl, B2.out⟩
  replace g4 := Classical.not_not.1 g4
  have d4 : (m.t.toList == m'.t.toList) = true := by rw [g4]; simp
  have hl4 := HM.out.lk.len; have hl4' := HM'.out.lk.len
  by_cases g5 : ¬ n4 = n4'
  · have hr := HD.out (fun h => g5 (by rw [← hl4, ← hl4', h.2.2.2.2.2.1]))
    have d5 : ((n4 : Int) != n4') = true := by simp; omega
    clear g0 g1 g2 g3 g4 g5 hl4 hl4'
    go_wp2_with fail
    go_ret
    exact ⟨by rw [hr]; rfl, B2.out⟩
  replace g5 := Classical.not_not.1 g5
  subst g5
  have d5 : ((n4 : Int) != n4) = false := by simp
  have G := Lib.hid (⟨g0, g1, g2, g3, g4⟩ : m.k = m'.k ∧ m.e = m'.e ∧ m.v = m'.v ∧ m.s = m'.s ∧ m.t = m'.t); have hcap := HM.out.lk.cap; have hmx := HM.out.lk.max; have HL4 := Lib.hid hl4; have HL4' := Lib.hid hl4'; clear g0 g1 g2 g3 g4 hl4 hl4'
  go_wp2_with fail
  clear d0 d1 d2 d3 d4 d5
  go_loopw [5] (fun i wr => ∃ k : Nat, k ≤ n4 ∧ i = .int .i64 k ∧ Hid (Below w2.heap.size w2 wr) ∧ Hid (m.lk.take k = m'.lk.take k)) (fun i _ => n4 - (intOf i).toNat)
  case atStart => exact ⟨0, by omega, rfl, Lib.hid (Below.refl _ _), Lib.hid (by simp)⟩
  case round =>
    obtain ⟨k, hk, rfl, Hb, ht⟩ := hrel
    replace x4 := below_cell Hb.out x4
    replace y4 := below_cell Hb.out y4
    replace x5 := below_cell Hb.out x5
    replace y5 := below_cell Hb.out y5
    replace x6 := below_cell Hb.out x6
    replace y6 := below_cell Hb.out y6
    replace x7 := below_cell Hb.out x7
    replace y7 := below_cell Hb.out y7
    replace x8 := below_cell Hb.out x8
    replace y8 := below_cell Hb.out y8
    replace x9 := below_cell Hb.out x9
    replace y9 := below_cell Hb.out y9
    replace x10 := below_cell Hb.out x10
    replace y10 := below_cell Hb.out y10
    replace x11 := below_cell Hb.out x11
    replace y11 := below_cell Hb.out y11
    replace x13 := below_cell Hb.out x13
    replace y13 := below_cell Hb.out y13
    replace x14 := below_cell Hb.out x14
    replace y14 := below_cell Hb.out y14
    replace x15 := below_cell Hb.out x15
    replace y15 := below_cell Hb.out y15
    replace x16 := below_cell Hb.out x16
    replace y16 := below_cell Hb.out y16
    have lr := Hb.out.size; clear x0 x1 x2 x3 x12 y0 y1 y2 y3 y12
    by_cases hlt : k < n4
    · obtain ⟨⟨⟨e1, l1⟩, s1⟩, hx⟩ : ∃ y, m.lk[k]? = some y := ⟨_, List.getElem?_eq_getElem (by rw [HL4.out]; exact hlt)⟩
      obtain ⟨⟨⟨e2, l2⟩, s2⟩, hx'⟩ : ∃ y, m'.lk[k]? = some y := ⟨_, List.getElem?_eq_getElem (by rw [HL4'.out]; exact hlt)⟩
      obtain ⟨b, o, ia, im, ic, sa, sn, sc, rfl, m0, m1, m2, he1, hs1, hg1⟩ := link_cells HM.out.lk hx; obtain ⟨b', o', ia', im', ic', sa', sn', sc', rfl, m0', m1', m2', he2, hs2, hg2⟩ := link_cells HM'.out.lk hx'
      replace m0 := below_cell Hb.out m0
      replace m1 := below_cell Hb.out m1
      replace m2 := below_cell Hb.out m2
      replace m0' := below_cell Hb.out m0'
      replace m1' := below_cell Hb.out m1'
      replace m2' := below_cell Hb.out m2'
      have lb := World.block_lt m0; have lb' := World.block_lt m0'
      have hj0 : (0 : Int) ≤ (k : Int) := by omega
      have hj1 : (k : Int) < (n4 : Int) := by omega
      have lHr : w.heap.size < wr.heap.size := by omega
      have lHr' : w.heap.size + 1 < wr.heap.size := by omega
      have CC := fun (w' : World) (hb : Below wr.heap.size wr w') => samec_any e1 ia im ic l1 e2 ia' im' ic' l2 w' (ints_of_sl (hs1.old (bthen Hb.out hb))) (ints_of_sl (hs2.old (bthen Hb.out hb)))
      have CS := fun (w' : World) (hb : Below wr.heap.size wr w') => samesigs_any sa sn sc s1 sa' sn' sc' s2 w' (hg1.old (bthen Hb.out hb)) (hg2.old (bthen Hb.out hb))
      have HX := Lib.hid hx; have HX' := Lib.hid hx'; clear hx hx' hs1 hs2 hg1 hg2 he1 he2 x4 x5 x6 x7 x8 x9 x10 x11 x13 x14 x15 y4 y5 y6 y7 y8 y9 y10 y11 y13 y14 y15; have BT := Lib.hid (bthen B2.out Hb.out)
      have hno : ∀ (h : ¬ (((e1, l1) : Cf), s1) = ((e2, l2), s2)), R = false := fun h => HD.out (fun hc => by
        have h1 := HX.out
        rw [hc.2.2.2.2.2.1, HX'.out] at h1
        injection h1 with h1
        exact h h1.symm)
      have HNO := Lib.hid hno; clear hno
      by_cases hE : ¬ ((e1, l1) : Cf) = (e2, l2)
      · rw [decide_eq_false hE] at CC
        have CC := Lib.hid CC; have hr := HNO.out (fun hc => hE (congrArg Prod.fst hc)); clear ht hE CS
        go_wp2_with fail
        refine wp_region_below (by kernel_rfl) (by kernel_rfl) ?_
        repeat (refine wpQuiet_step (fun K hK => ?_); go_simp; first | (refine hK _ ?_; clear hK K) | (apply Exists.intro; refine ⟨fun w' hw' => ?_, hK _ ?_⟩; (first | (go_at_call 39; exact Calls.quiet_below hw' (CC.out _ hw')) | (with_reducible rfl) | (obtain ⟨cc, dd⟩ := bcell hw'; go_simp; rfl)); clear hK K))
        refine wpQuiet_nil ?_
        intro w7 h7; have B7 := Lib.hid (bthen BT.out h7); clear h7 m0 m1 m2 m0' m1' m2' x16 y16
        go_wp2_with fail
        go_ret
        exact ⟨by rw [hr]; rfl, B7.out⟩
      replace hE := Classical.not_not.1 hE
      rw [decide_eq_true hE] at CC
      have CC := Lib.hid CC
      by_cases hS : ¬ s1 = s2
      · rw [decide_eq_false hS] at CS
        have CS := Lib.hid CS; have hr := HNO.out (fun hc => hS (congrArg Prod.snd hc)); clear ht hE hS
        go_wp2_with fail
        refine wp_region_below (by kernel_rfl) (by kernel_rfl) ?_
        repeat (refine wpQuiet_step (fun K hK => ?_); go_simp; first | (refine hK _ ?_; clear hK K) | (apply Exists.intro; refine ⟨fun w' hw' => ?_, hK _ ?_⟩; (first | (go_at_call 39; exact Calls.quiet_below hw' (CC.out _ hw')) | (go_at_call 40; exact Calls.quiet_below_drawn hw' (CS.out _ hw')) | (with_reducible rfl) | (obtain ⟨cc, dd⟩ := bcell hw'; go_simp; rfl)); clear hK K))
        refine wpQuiet_nil ?_
        intro w7 h7; have B7 := Lib.hid (bthen BT.out h7); clear h7 m0 m1 m2 m0' m1' m2' x16 y16
        go_wp2_with fail
        go_ret
        exact ⟨by rw [hr]; rfl, B7.out⟩
      replace hS := Classical.not_not.1 hS
      rw [decide_eq_true hS] at CS
      have CS := Lib.hid CS; have ht' := Lib.hid (show m.lk.take (k + 1) = m'.lk.take (k + 1) by rw [List.take_add_one, List.take_add_one, ht.out, HX.out, HX'.out, hE, hS]); clear ht hE hS
      go_wp2_with fail
      refine wp_region_below (by kernel_rfl) (by kernel_rfl) ?_
      repeat (refine wpQuiet_step (fun K hK => ?_); go_simp; first | (refine hK _ ?_; clear hK K) | (apply Exists.intro; refine ⟨fun w' hw' => ?_, hK _ ?_⟩; (first | (go_at_call 39; exact Calls.quiet_below hw' (CC.out _ hw')) | (go_at_call 40; exact Calls.quiet_below_drawn hw' (CS.out _ hw')) | (with_reducible rfl) | (obtain ⟨cc, dd⟩ := bcell hw'; go_simp; rfl)); clear hK K))
      refine wpQuiet_nil ?_
      intro w7 h7; have B7 := Lib.hid (bthen Hb.out h7); clear h7 m0 m1 m2 m0' m1' m2' x16 y16
      go_wp2_with fail
      go_roundw
      case rel => exact ⟨k + 1, by omega, by go_num, B7, ht'⟩
      case measure => simp [intOf]; omega
    · have hkn : k = n4 := by omega
      have HLK := Lib.hid (show m.lk = m'.lk by
        have h1 := ht.out
        rw [List.take_of_length_le (by rw [HL4.out]; omega), List.take_of_length_le (by rw [HL4'.out]; omega)] at h1
        exact h1)
      have HMr := Lib.hid (HM.out.old Hb.out); have HMr' := Lib.hid (HM'.out.old Hb.out); have BT := Lib.hid (bthen B2.out Hb.out); have K1r := Lib.hid (blk_below K1.out Hb.out); have K2r := Lib.hid (blk_below K2.out Hb.out); have CW0 := whole_rq m.q m'.q HM.out.q.b HM'.out.q.b wr
      simp only [Rq.v] at CW0
      have CW := Lib.hid CW0
      have hd : decide ((k : Int) < (n4 : Int)) = false := by simp; omega
      clear CW0 ht hkn HM HM' K1 K2 B2 Hb HL4 HL4'
      go_wp2_with fail
      refine CW.out.mono ?_
      rintro r u1 ⟨rfl, b1⟩
      have B1 := Lib.hid (bthen BT.out b1); have Q1 := Lib.hid b1; clear b1 CW x16 y16 x4 x5 x6 x7 x8 x9 x10 x11 x13 x14 x15 y4 y5 y6 y7 y8 y9 y10 y11 y13 y14 y15
      cases hwb : wholeB m.q m'.q with
      | false =>
        have hr := HD.out (fun h => by rw [hwb] at h; cases h.2.2.2.2.2.2.1); clear hwb
        go_wp2_with fail
        go_ret
        exact ⟨by rw [hr]; rfl, B1.out⟩
      | true =>
      have p10 : u1.cell? ⟨w.heap.size, 10, none⟩ = some (.int .i64 m.c) := mgAt_blk (blk_below K1r.out Q1.out) 10 _ rfl; have q10 : u1.cell? ⟨w.heap.size + 1, 10, none⟩ = some (.int .i64 m'.c) := mgAt_blk (blk_below K2r.out Q1.out) 10 _ rfl; have p11 : u1.cell? ⟨w.heap.size, 11, none⟩ = some (.float .f64 m.r) := mgAt_blk (blk_below K1r.out Q1.out) 11 _ rfl; have q11 : u1.cell? ⟨w.heap.size + 1, 11, none⟩ = some (.float .f64 m'.r) := mgAt_blk (blk_below K2r.out Q1.out) 11 _ rfl; have C1 := Lib.hid (sameres_any m.c m.r m'.c m'.r u1 HMr.out.r HMr'.out.r)
      go_wp2_with fail
      refine C1.out.mono ?_
      rintro r u2 ⟨rfl, b⟩
      have B2 := Lib.hid (bthen B1.out b); have Q2 := Lib.hid (bthen Q1.out b); clear b C1 B1 Q1 p10 q10 p11 q11
      cases hrb : sameResB m.c m.r m'.c m'.r with
      | false =>
        have hr := HD.out (fun h => by rw [hrb] at h; cases h.2.2.2.2.2.2.2.1); clear hwb hrb
        go_wp2_with fail
        go_ret
        exact ⟨by rw [hr]; rfl, B2.out⟩
      | true =>
      have p13 : u2.cell? ⟨w.heap.size, 13, none⟩ = some (.slice a1 n1 c1) := mgAt_blk (blk_below K1r.out Q2.out) 13 _ rfl; have q13 : u2.cell? ⟨w.heap.size + 1, 13, none⟩ = some (.slice a1' n1' c1') := mgAt_blk (blk_below K2r.out Q2.out) 13 _ rfl; have C2 := Lib.hid (sameints_any _ _ c1 _ _ _ c1' _ u2 (ints_of_sl (HMr.out.nx.old Q2.out)) (ints_of_sl (HMr'.out.nx.old Q2.out)))
      go_wp2_with fail
      refine C2.out.mono ?_
      rintro r u3 ⟨rfl, nq, rfl⟩
      have b := below_drewN (B := u2.heap.size) (Below.refl _ u2) nq; have B3 := Lib.hid (bthen B2.out b); have Q3 := Lib.hid (bthen Q2.out b); clear b C2 B2 Q2 p13 q13
      cases hnb : (m.nx == m'.nx) with
      | false =>
        have hr := HD.out (fun h => by rw [h.2.2.2.2.2.2.2.2.1] at hnb; simp at hnb); clear hwb hrb hnb
        generalize u2.drewN nq = u3 at *
        go_wp2_with fail
        go_ret
        exact ⟨by rw [hr]; rfl, B3.out⟩
      | true =>
      generalize u2.drewN nq = u3 at *
      have p14 : u3.cell? ⟨w.heap.size, 14, none⟩ = some (.slice a2 n2 c2) := mgAt_blk (blk_below K1r.out Q3.out) 14 _ rfl; have q14 : u3.cell? ⟨w.heap.size + 1, 14, none⟩ = some (.slice a2' n2' c2') := mgAt_blk (blk_below K2r.out Q3.out) 14 _ rfl; have C3 := Lib.hid (samesigs_any a2 n2 c2 m.sg a2' n2' c2' m'.sg u3 (HMr.out.sg.old Q3.out) (HMr'.out.sg.old Q3.out))
      go_wp2_with fail
      refine C3.out.mono ?_
      rintro r u4 ⟨rfl, nq2, rfl⟩
      have b := below_drewN (B := u3.heap.size) (Below.refl _ u3) nq2; have B4 := Lib.hid (bthen B3.out b); have Q4 := Lib.hid (bthen Q3.out b); clear b C3 B3 Q3 p14 q14
      cases hsb : decide (m.sg = m'.sg) with
      | false =>
        have hr := HD.out (fun h => (of_decide_eq_false hsb) h.2.2.2.2.2.2.2.2.2.1); clear hwb hrb hnb hsb
        generalize u3.drewN nq2 = u4 at *
        go_wp2_with fail
        go_ret
        exact ⟨by rw [hr]; rfl, B4.out⟩
      | true =>
      generalize u3.drewN nq2 = u4 at *
      have p15 : u4.cell? ⟨w.heap.size, 15, none⟩ = some (.slice a3 n3 c3) := mgAt_blk (blk_below K1r.out Q4.out) 15 _ rfl; have q15 : u4.cell? ⟨w.heap.size + 1, 15, none⟩ = some (.slice a3' n3' c3') := mgAt_blk (blk_below K2r.out Q4.out) 15 _ rfl; have C4 := Lib.hid (samechanges_any a3 n3 c3 m.ch a3' n3' c3' m'.ch u4 (HMr.out.ch.old Q4.out) (HMr'.out.ch.old Q4.out))
      go_wp2_with fail
      refine C4.out.mono ?_
      rintro r u5 ⟨rfl, b⟩
      have B5 := Lib.hid (bthen B4.out b); have Q5 := Lib.hid (bthen Q4.out b); clear b C4 B4 Q4 p15 q15
      have hr : R = decide (m.ch.map Ch.canon = m'.ch.map Ch.canon) := by
        cases hcb : decide (m.ch.map Ch.canon = m'.ch.map Ch.canon) with
        | false => exact HD.out (fun h => (of_decide_eq_false hcb) h.2.2.2.2.2.2.2.2.2.2)
        | true => exact HY.out ⟨G.out.1, G.out.2.1, G.out.2.2.1, G.out.2.2.2.1, G.out.2.2.2.2, HLK.out, hwb, hrb, by simpa using hnb, of_decide_eq_true hsb, of_decide_eq_true hcb⟩
      have HR := Lib.hid hr; clear hr hwb hrb hnb hsb
      go_wp2_with fail
      go_ret
      exact ⟨by rw [HR.out]; rfl, B5.out⟩
end Go.Proofs.YtijeieamodjgbaaGreat
