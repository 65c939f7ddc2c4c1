
/- Lanes: walk of the reference's SamePackets. -/
import Derived.Test.YtijeieamodjgbaaGreatWsm
import Derived.Test.YtijeieamodjgbaaGreatLd
import Derived.Deep.MidRow
namespace Go.Proofs.YtijeieamodjgbaaGreat
set_option maxRecDepth 100000
open Go.RowKit Go.Deep
attribute [local irreducible] wpQuiet
set_option linter.unusedVariables false
set_option linter.unusedSimpArgs false
attribute [local go_sem] run_store_float
instance : DecidableEq Pk := fun x y => decidable_of_iff (x.fr = y.fr ∧ x.tt = y.tt ∧ x.m = y.m) (by cases x; cases y; simp)
def Pk.canon (y : Pk) : Pk := { y with m := y.m.canon }
theorem pkCanon_iff (x y : Pk) : x.canon = y.canon ↔ x.fr = y.fr ∧ x.tt = y.tt ∧ x.m.canon = y.m.canon := by
  obtain ⟨f, t, m⟩ := x; obtain ⟨f', t', m'⟩ := y; simp only [Pk.canon, Pk.mk.injEq]
theorem pk_cells {w : World} {a : Option Addr} {n c : Nat} {l : List Pk} (h : SlAt shPk w a n c l) {i : Nat} (hi : i < n) :
    ∃ b o y ms, a = some ⟨b, o, none⟩ ∧ l[i]? = some y ∧ w.cell? ⟨b, o + i * 19, none⟩ = some (.int .i64 y.fr) ∧ w.cell? ⟨b, o + i * 19 + 1, none⟩ = some (.int .i64 y.tt) ∧
      (∀ w', Below w.heap.size w w' → (loadVar 35 ⟨b, o + i * 19 + 2, none⟩).run Tryz.prog w' = .ok (.agg ms) w') ∧ i64 y.fr ∧ i64 y.tt ∧
      ∃ a1 n1 c1 a2 n2 c2 a3 n3 c3 a4 n4 c4, ms = (mgCs y.m a1 n1 c1 a2 n2 c2 a3 n3 c3 a4 n4 c4).toArray ∧ MsgIn w y.m a1 n1 c1 a2 n2 c2 a3 n3 c3 a4 n4 c4 := by
  obtain ⟨y, hy⟩ : ∃ y, l[i]? = some y := ⟨_, List.getElem?_eq_getElem (by rw [h.len]; exact hi)⟩
  obtain ⟨b, o, cs, ha, hE, hc⟩ := h.cell i y hy; obtain ⟨a1, n1, c1, a2, n2, c2, a3, n3, c3, a4, n4, c4, rfl, h1, h2, h3⟩ := pk_open hE; have hk : shPk.k = 19 := rfl
  rw [hk] at hc
  have hmlen : (Tryz.prog.info? 35).map (·.size) = some (mgCs y.m a1 n1 c1 a2 n2 c2 a3 n3 c3 a4 n4 c4).length := by kernel_rfl
  refine ⟨b, o, y, _, ha, hy, hc 0 _ rfl, hc 1 _ rfl, fun w' hb => ?_, h1, h2, a1, n1, c1, a2, n2, c2, a3, n3, c3, a4, n4, c4, rfl, h3⟩
  exact run_loadVar_mid (P := Tryz.prog) w' b (o + i * 19 + 2) 35 _ _ (fun j u hj => by
    have := hc (j + 2) u (by simpa [pkCs] using hj); rw [show o + i * 19 + 2 + j = o + i * 19 + (j + 2) by omega]
    exact below_cell hb this) Tryz.underlying35 rfl hmlen
theorem quiet_load {P : Program} {ops : Array Oper} {C : World → Prop} {Q : Act → Prop} {a : Act} {o : Oper} {rest : List Oper} (ty : TypeId) (x : Operand) (hop : o.op = .load ty x) (hw : Region.wanted o (yielded ops a.tmps) = true)
    (b off : Nat) (hx : a.eval x = .pointer (some ⟨b, off, none⟩)) (v : Value) (hld : ∀ w', C w' → (loadVar ty ⟨b, off, none⟩).run P w' = .ok v w') (h : wpQuiet P ops C Q rest (a.put o.dst v)) : wpQuiet P ops C Q (o :: rest) a :=
  wpQuiet_step fun K hK => by
    rw [if_pos hw]
    refine ⟨v, fun w' hw' => ?_, hK _ h⟩
    have : (execOp a.eval o).run P w' = .ok (.value v) w' := by unfold execOp; simp only [hop, hx, Instr.loadAt, Instr.sureAddr, Sem.run_bind, Sem.run_pure, Result.andThen_ok, hld w' hw']
    unfold Oper.quietAt
    rw [this]
    exact ⟨rfl, rfl⟩
set_option maxHeartbeats 2000000 in
theorem samepks_any (a : Option Addr) (n c : Nat) (l : List Pk) (a' : Option Addr) (n' c' : Nat) (l' : List Pk) (w : World) (h : SlAt shPk w a n c l) (h' : SlAt shPk w a' n' c' l') :
    Calls Tryz.prog 20 #[.slice a n c, .slice a' n' c'] w fun e w' => e = .returned (.bool (decide (l.map Pk.canon = l'.map Pk.canon))) ∧ Below w.heap.size w w' := by
  have hmax := h.max; have hcap := h.cap; have hmax' := h'.max; have hcap' := h'.cap; have hlen := h.len; have hlen' := h'.len; have H := Lib.hid h; clear h; have H' := Lib.hid h'; clear h'
  by_cases hnn : n = n'
  · subst hnn
    have hn0 : ((n : Int) != n) = false := by simp
    have hfin : ∀ k, k = n → (l.take k).map Pk.canon = (l'.take k).map Pk.canon → decide (l.map Pk.canon = l'.map Pk.canon) = true := fun k hk ht => by
      rw [List.take_of_length_le (by omega), List.take_of_length_le (by omega)] at ht
      simp [ht]
    have Hfin := Lib.hid hfin; have Hlen := Lib.hid hlen; have Hlen' := Lib.hid hlen'; clear hfin hlen hlen'
    go_enter Tryz.func20, Tryz.ntmps20
    go_wp2_with fail
    go_loopw [5] (fun i wr => ∃ k : Nat, k ≤ n ∧ i = .int .i64 k ∧ Hid (Below w.heap.size w wr) ∧ Hid ((l.take k).map Pk.canon = (l'.take k).map Pk.canon)) (fun i _ => n - (intOf i).toNat)
    case atStart => exact ⟨0, by omega, rfl, Lib.hid (Below.refl _ _), Lib.hid (by simp)⟩
    case round =>
      obtain ⟨k, hk, rfl, Hb, ht⟩ := hrel
      by_cases hlt : k < n
      · obtain ⟨b, o, ⟨fr, tt, m⟩, ms, rfl, hx, m0, m1, hld, hf1, ht1, a1, n1, c1, a2, n2, c2, a3, n3, c3, a4, n4, c4, hms, hmi⟩ := pk_cells (H.out.old Hb.out) hlt
        obtain ⟨b', o', ⟨fr', tt', m'⟩, ms', rfl, hx', m0', m1', hld', hf2, ht2, a1', n1', c1', a2', n2', c2', a3', n3', c3', a4', n4', c4', hms', hmi'⟩ := pk_cells (H'.out.old Hb.out) hlt; have HLD := Lib.hid hld; have HLD' := Lib.hid hld'; have HX := Lib.hid hx; have HX' := Lib.hid hx'
        have CS := Lib.hid (show ∀ w', Below wr.heap.size wr w' → Calls Tryz.prog 8 #[.agg ms, .agg ms'] w' fun e w'' => e = .returned (.bool (decide (m.canon = m'.canon))) ∧ Below w'.heap.size w' w'' from fun w' hb => by
          rw [hms, hms']
          exact samemsg_any m a1 n1 c1 a2 n2 c2 a3 n3 c3 a4 n4 c4 m' a1' n1' c1' a2' n2' c2' a3' n3' c3' a4' n4' c4' w' (hmi.old hb) (hmi'.old hb))
        have lb := World.block_lt m0; have lb' := World.block_lt m0'
        have hk0 : (0 : Int) ≤ (k : Int) := by omega
        have hk1 : (k : Int) < (n : Int) := by omega
        dsimp only at m0 m1 m0' m1'
        clear hld hld' hx hx' hms hms' hmi hmi' hf1 hf2 ht1 ht2
        by_cases hE0 : ¬ (fr = fr')
        · have hno := Lib.hid (show decide (l.map Pk.canon = l'.map Pk.canon) = false from decide_eq_false (map_ne HX.out HX'.out (fun hc => hE0 ((pkCanon_iff _ _).1 hc).1)))
          have d0 : (fr != fr') = true := by simpa using hE0
          clear ht hE0 CS
          go_wp2_with fail
          refine wp_region_below (by kernel_rfl) (by kernel_rfl) ?_
          repeat (first | (refine quiet_load _ _ rfl rfl _ _ rfl _ HLD.out ?_; simp only [Act.put, List.setIfInBounds_toArray, List.set_cons_succ, List.set_cons_zero]) | (refine quiet_load _ _ rfl rfl _ _ rfl _ HLD'.out ?_; simp only [Act.put, List.setIfInBounds_toArray, List.set_cons_succ, List.set_cons_zero]) | (refine wpQuiet_step (fun K hK => ?_); go_simp; first | (refine hK _ ?_; clear hK K) | (apply Exists.intro; refine ⟨fun w' hw' => ?_, hK _ ?_⟩; (first | (go_at_call 8; exact Calls.quiet_below hw' (CS.out _ hw')) | (with_reducible rfl) | (obtain ⟨cc, dd⟩ := bcell hw'; go_simp; rfl)); clear hK K)))
          refine wpQuiet_nil ?_
          intro w7 h7; have B7 := Lib.hid (bthen Hb.out h7); clear h7 m0 m1 m0' m1'
          go_wp2_with fail
          go_ret
          exact ⟨by rw [hno.out]; rfl, B7.out⟩
        replace hE0 := Classical.not_not.1 hE0
        have d0 : (fr != fr') = false := by simpa using hE0
        by_cases hE1 : ¬ (tt = tt')
        · have hno := Lib.hid (show decide (l.map Pk.canon = l'.map Pk.canon) = false from decide_eq_false (map_ne HX.out HX'.out (fun hc => hE1 ((pkCanon_iff _ _).1 hc).2.1)))
          have d1 : (tt != tt') = true := by simpa using hE1
          clear ht hE0 hE1 CS
          go_wp2_with fail
          refine wp_region_below (by kernel_rfl) (by kernel_rfl) ?_
          repeat (first | (refine quiet_load _ _ rfl rfl _ _ rfl _ HLD.out ?_; simp only [Act.put, List.setIfInBounds_toArray, List.set_cons_succ, List.set_cons_zero]) | (refine quiet_load _ _ rfl rfl _ _ rfl _ HLD'.out ?_; simp only [Act.put, List.setIfInBounds_toArray, List.set_cons_succ, List.set_cons_zero]) | (refine wpQuiet_step (fun K hK => ?_); go_simp; first | (refine hK _ ?_; clear hK K) | (apply Exists.intro; refine ⟨fun w' hw' => ?_, hK _ ?_⟩; (first | (go_at_call 8; exact Calls.quiet_below hw' (CS.out _ hw')) | (with_reducible rfl) | (obtain ⟨cc, dd⟩ := bcell hw'; go_simp; rfl)); clear hK K)))
          refine wpQuiet_nil ?_
          intro w7 h7; have B7 := Lib.hid (bthen Hb.out h7); clear h7 m0 m1 m0' m1'
          go_wp2_with fail
          go_ret
          exact ⟨by rw [hno.out]; rfl, B7.out⟩
        replace hE1 := Classical.not_not.1 hE1
        have d1 : (tt != tt') = false := by simpa using hE1
        by_cases hE2 : ¬ (m.canon = m'.canon)
        · have hno := Lib.hid (show decide (l.map Pk.canon = l'.map Pk.canon) = false from decide_eq_false (map_ne HX.out HX'.out (fun hc => hE2 ((pkCanon_iff _ _).1 hc).2.2)))
          rw [decide_eq_false hE2] at CS
          have CS := Lib.hid CS; clear ht hE0 hE1 hE2
          go_wp2_with fail
          refine wp_region_below (by kernel_rfl) (by kernel_rfl) ?_
          repeat (first | (refine quiet_load _ _ rfl rfl _ _ rfl _ HLD.out ?_; simp only [Act.put, List.setIfInBounds_toArray, List.set_cons_succ, List.set_cons_zero]) | (refine quiet_load _ _ rfl rfl _ _ rfl _ HLD'.out ?_; simp only [Act.put, List.setIfInBounds_toArray, List.set_cons_succ, List.set_cons_zero]) | (refine wpQuiet_step (fun K hK => ?_); go_simp; first | (refine hK _ ?_; clear hK K) | (apply Exists.intro; refine ⟨fun w' hw' => ?_, hK _ ?_⟩; (first | (go_at_call 8; exact Calls.quiet_below hw' (CS.out _ hw')) | (with_reducible rfl) | (obtain ⟨cc, dd⟩ := bcell hw'; go_simp; rfl)); clear hK K)))
          refine wpQuiet_nil ?_
          intro w7 h7; have B7 := Lib.hid (bthen Hb.out h7); clear h7 m0 m1 m0' m1'
          go_wp2_with fail
          go_ret
          exact ⟨by rw [hno.out]; rfl, B7.out⟩
        replace hE2 := Classical.not_not.1 hE2
        rw [decide_eq_true hE2] at CS
        have ht' := Lib.hid (map_take_snoc ht.out HX.out HX'.out ((pkCanon_iff _ _).2 ⟨hE0, hE1, hE2⟩)); clear ht hE0 hE1 hE2
        go_wp2_with fail
        refine wp_region_below (by kernel_rfl) (by kernel_rfl) ?_
        repeat (first | (refine quiet_load _ _ rfl rfl _ _ rfl _ HLD.out ?_; simp only [Act.put, List.setIfInBounds_toArray, List.set_cons_succ, List.set_cons_zero]) | (refine quiet_load _ _ rfl rfl _ _ rfl _ HLD'.out ?_; simp only [Act.put, List.setIfInBounds_toArray, List.set_cons_succ, List.set_cons_zero]) | (refine wpQuiet_step (fun K hK => ?_); go_simp; first | (refine hK _ ?_; clear hK K) | (apply Exists.intro; refine ⟨fun w' hw' => ?_, hK _ ?_⟩; (first | (go_at_call 8; exact Calls.quiet_below hw' (CS.out _ hw')) | (with_reducible rfl) | (obtain ⟨cc, dd⟩ := bcell hw'; go_simp; rfl)); clear hK K)))
        refine wpQuiet_nil ?_
        intro w7 h7; have B7 := Lib.hid (bthen Hb.out h7); clear h7 m0 m1 m0' m1'
        go_wp2_with fail
        go_roundw
        case rel => exact ⟨k + 1, by omega, by go_num, B7, ht'⟩
        case measure => simp [intOf]; omega
      · have hy := Lib.hid (Hfin.out k (by omega) ht.out)
        clear ht
        go_wp2_with fail
        go_ret
        exact ⟨by rw [hy.out]; rfl, Hb.out⟩
  · have hne : ((n : Int) != n') = true := by simp; omega
    have hno := Lib.hid (show decide (l.map Pk.canon = l'.map Pk.canon) = false from decide_eq_false (fun hc => by
      have := congrArg List.length hc
      simp at this
      omega))
    clear hlen hlen'
    go_enter Tryz.func20, Tryz.ntmps20
    go_wp2_with fail
    go_ret
    exact ⟨by rw [hno.out]; rfl, Below.refl _ _⟩
end Go.Proofs.YtijeieamodjgbaaGreat
