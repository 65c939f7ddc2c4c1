
/- The client: Handle. -/
import Derived.Test.YtijeieamodjgbabCr
import Derived.Test.YtijeieamodjgbabWw

namespace Go.Proofs.Ytijeieamodjgbab
set_option maxRecDepth 100000
open Go.RowKit Go.Maps Go.Deep
set_option linter.unusedVariables false
set_option linter.unusedSimpArgs false
attribute [local go_sem] run_store_float

def stateS (s : Cst) (L : List Lk) : Cst := if takeC s.c0 s.cs L = 0 then { s with cs := L.map (·.1), ss := L.map (·.2) } else s
def handleS (s : Cst) (fr : Int) (m : Mg) : Cst := if mgErr m ≠ 0 then s else if m.k = 8 then replyS s fr m.e m.q m.c m.r else if m.k = 10 then stateS s m.lk else s
theorem take_parts {c0 : Cf} {cs : List Cf} {L : List Lk} (h : takeC c0 cs L = 0) : L.length ≤ 64 ∧ chainC c0 L = 0 ∧ cs.length ≤ L.length := by
  unfold takeC at h
  split at h
  · cases h
  · refine ⟨by omega, ?_, ?_⟩
    · unfold checkC at h
      split at h
      · exact absurd h (by assumption)
      · rename_i hc
        simpa using hc
    · unfold checkC at h
      split at h
      · exact absurd h (by assumption)
      · split at h
        · cases h
        · split at h
          · cases h
          · simp only [List.length_cons] at *; omega
theorem state_inv {s : Cst} (h : CInv s) {L : List Lk} (ht : takeC s.c0 s.cs L = 0) : CInv { s with cs := L.map (·.1), ss := L.map (·.2) } := by
  have hp := take_parts ht
  refine ⟨by simp, by simpa using hp.1, h.id, h.st, h.q, fun c hc => ?_, h.opn, h.na, h.nr, h.ac, h.hs⟩
  rcases List.mem_cons.1 hc with rfl | hc
  · exact h.right _ (.head _)
  · obtain ⟨y, hy, rfl⟩ := List.mem_map.1 hc
    obtain ⟨i, hi⟩ := List.getElem?_of_mem hy
    exact (chain_epoch L s.c0 hp.2.1 i y hi).2
def HandlePost (Z : Nat → Prop) (B p : Nat) (s s' : Cst) (w : World) (r : Ending) (w' : World) : Prop :=
  r = .returned (.slice none 0 0) ∧ Keep Z w w' ∧ ∃ Z' : Nat → Prop, (∀ k, Z' k → Z k ∨ w.heap.size ≤ k) ∧ Cli Z' w' B p s'
theorem handle_none {Z : Nat → Prop} {B p : Nat} {s : Cst} {w w' : World} (h : Cli Z w B p s) (hb : Below w.heap.size w w') : HandlePost Z B p s s w (.returned (.slice none 0 0)) w' :=
  ⟨rfl, Keep.of_below hb, Z, fun k hk => .inl hk, h.old hb⟩
/-- The tracker alone has turned. -/
theorem CliAt.take {X X' : Nat → Prop} {w w' : World} {B p t : Nat} {oc os oc' os' om oa ob : Option Nat} {s : Cst} (h : CliAt X w B p t oc os om oa ob s) {L : List Lk} (hz : takeC s.c0 s.cs L = 0)
    (hsub : ∀ j, trX t oc' os' j → trX t oc os j ∨ w.heap.size ≤ j) (hX : XSub X X' w) (ht : Trk X' w' B t oc' os' (s.c0 :: L.map (·.1)) (L.map (·.2))) (hk : Keep (trX t oc os) w w') :
    CliAt X' w' B p t oc' os' om oa ob { s with cs := L.map (·.1), ss := L.map (·.2) } := by
  have hlt := h.lt
  obtain ⟨va, vb, hp, h1, e1, h2, e2⟩ := h.ex
  refine ⟨ht, state_inv h.inv hz, h.hB, fun k hm => ⟨(h.hm k hm).1, Nat.lt_of_lt_of_le (h.hm k hm).2 hk.size⟩, fun k hy => ⟨hX.2 k (hlt k hy).2 (h.own k hy).1, fun hc => ?_⟩, h.nop, h.nom, h.noa, ⟨va, vb, ?_, ?_, e1, ?_, e2⟩, fun hq => ?_⟩
  · rcases hsub k hc with hc | hc
    · exact (h.own k hy).2 hc
    · have := (hlt k hy).2; omega
  · rw [hk.block p (blk_lt hp) (h.own p (.inl rfl)).2]; exact hp
  · exact owns_keep h1 hk (fun k hk' => (h.own k (.inr (.inr (.inl (by rw [← e1]; exact hk'))))).2)
  · exact owns_keep h2 hk (fun k hk' => (h.own k (.inr (.inr (.inr (by rw [← e2]; exact hk'))))).2)
  · obtain ⟨m, n, D, hm, ho, hn, hc⟩ := h.mp hq
    exact ⟨m, n, D, hm, rawC_block ho (hk.block m ho.lt (h.own m (.inr (.inl hm))).2), hn, hc⟩
theorem rsl_sub {α : Type} {S : Sh α} {X X' : Nat → Prop} {w : World} {a : Option Addr} {n c : Nat} {l : List α} (h : RSl S X w a n c l) (hX : ∀ k, X' k → X k) : RSl S X' w a n c l :=
  h.step (Keep.refl (fun _ => False) w) (fun _ _ hf => hf.elim) (fun k _ hx => hX k hx)
set_option maxHeartbeats 4000000 in
theorem handle_any {Z : Nat → Prop} {B p : Nat} {s : Cst} (w : World) (h : Cli Z w B p s) (hB : B ≤ w.heap.size) (nw fr : Int) (m : Mg) (a1 : Option Addr) (n1 c1 : Nat) (a2 : Option Addr) (n2 c2 : Nat) (a3 : Option Addr) (n3 c3 : Nat) (a4 : Option Addr) (n4 c4 : Nat)
    (hm : MsgIn w m a1 n1 c1 a2 n2 c2 a3 n3 c3 a4 n4 c4) (hr : RSl shLink Z w a4 n4 c4 m.lk) (hfr : i64 fr) (hhs : s.hs < 70368744177664) :
    Calls Try.prog 18 #[.pointer (some ⟨p, 0, none⟩), .int .i64 nw, .int .i64 fr, .agg (mgCs m a1 n1 c1 a2 n2 c2 a3 n3 c3 a4 n4 c4).toArray] w (HandlePost Z B p s (handleS s fr m) w) := by
  have H0 := Lib.hid h
  obtain ⟨w1, hw1⟩ : ∃ u, u = w.alloc (.cells (mgCs m a1 n1 c1 a2 n2 c2 a3 n3 c3 a4 n4 c4).toArray 50 (0, 0)) := ⟨_, rfl⟩
  have b1 : Below w.heap.size w w1 := by rw [hw1]; exact below_alloc _ _
  have k1 : w1.heap[w.heap.size]? = some (.cells (mgCs m a1 n1 c1 a2 n2 c2 a3 n3 c3 a4 n4 c4).toArray 50 (0, 0)) := by rw [hw1]; exact blk_alloc _ _
  have CB := Lib.hid (fun (wa : World) (hb : Below w.heap.size w wa) => bytes13_any m a1 n1 c1 a2 n2 c2 a3 n3 c3 a4 n4 c4 wa (hm.old hb))
  have CR := Lib.hid (show ∀ (wa : World), Below w.heap.size w wa → Calls Try.prog 35 #[.pointer (some ⟨p, 0, none⟩), .int .i64 fr, .agg (mgCs m a1 n1 c1 a2 n2 c2 a3 n3 c3 a4 n4 c4).toArray] wa (ReplyPost Z B p s (replyS s fr m.e m.q m.c m.r) wa) from
    fun wa hb => reply_any wa (h.old hb) fr m.e m.q hm.q m.c m.r hm.r (.int .i64 m.k) (.int .i64 m.v) (.int .i64 m.s) (.string m.t) (.slice a1 n1 c1) (.slice a2 n2 c2) (.slice a3 n3 c3) (.slice a4 n4 c4) hfr hm.e hhs)
  obtain ⟨X, t, oc, os, om, oa, ob, h, hz⟩ := h.ex
  have CT := Lib.hid (fun (wa : World) (hb : Below w.heap.size w wa) => take_any X B t oc os s.c0 s.cs s.ss a4 n4 c4 m.lk wa (h.old hb).trk (Nat.le_trans hB hb.size) (by have := h.len; have := h.l64; simp; omega) (by have := h.l64; omega)
    ((rsl_sub hr (fun k hk => (hz k).2 (.inr hk))).step (Y := fun _ => False) (Keep.of_below hb) (fun _ _ hf => hf.elim) (fun _ _ h => h)))
  obtain ⟨va, vb, hp, -⟩ := h.ex
  have HP := Lib.hid hp
  have HZ := Lib.hid hz; have H := Lib.hid h
  have B1 := Lib.hid b1
  have KM := Lib.hid k1
  have HMS := Lib.hid (show handleS s fr m = if mgErr m ≠ 0 then s else if m.k = 8 then replyS s fr m.e m.q m.c m.r else if m.k = 10 then stateS s m.lk else s from rfl)
  have HSS := Lib.hid (show stateS s m.lk = if takeC s.c0 s.cs m.lk = 0 then { s with cs := m.lk.map (·.1), ss := m.lk.map (·.2) } else s from rfl)
  have y0 : w1.cell? ⟨w.heap.size, 0, none⟩ = some (.int .i64 m.k) := by rw [blk_cell k1]; rfl
  have y16 : w1.cell? ⟨w.heap.size, 16, none⟩ = some (.slice a4 n4 c4) := by rw [blk_cell k1]; rfl
  have hml : (mgCs m a1 n1 c1 a2 n2 c2 a3 n3 c3 a4 n4 c4).length = 17 := rfl
  have p1 : w1.cell? ⟨p, 1, none⟩ = some (.pointer (some ⟨t, 0, none⟩)) := by rw [blk_cell (blk_below hp b1)]; rfl
  generalize mgCs m a1 n1 c1 a2 n2 c2 a3 n3 c3 a4 n4 c4 = ms at *
  generalize mgErr m = E at *
  generalize mgText m = TX at *
  generalize handleS s fr m = s' at *
  generalize replyS s fr m.e m.q m.c m.r = sr at *
  generalize stateS s m.lk = sl at *
  generalize hTC : takeC s.c0 s.cs m.lk = TC at *
  have HTC := Lib.hid hTC
  clear hTC
  generalize m.k = mk at *
  have HLD := Lib.hid (show ∀ (wa : World), Below w1.heap.size w1 wa → ∀ (j : Nat) (u : Value), ms[j]? = some u → wa.cell? ⟨w.heap.size, 0 + j, none⟩ = some u from fun wa hb j u hu => by rw [Nat.zero_add, blk_cell (blk_below k1 hb)]; simpa using hu)
  have hmi : (Try.prog.info? 50).map (·.size) = some ms.length := by rw [hml]; kernel_rfl
  have HMI := Lib.hid hmi
  have HML := Lib.hid hml
  clear h hz hp b1 k1 hm hr hfr hhs hml hmi
  go_enter Try.func18, Try.ntmps18
  go_upto_region 3 with (fail)
  rw [← hw1]
  clear hw1
  refine wp_region_lit ?_
  refine wpList_load_mid rfl 50 (.tmp 7) rfl w.heap.size 0 rfl ms _ (HLD.out w1 (Below.refl _ _)) Try.underlying50 rfl HMI.out ?_
  simp only [Act.put, List.setIfInBounds_toArray, List.set_cons_succ, List.set_cons_zero]
  go_wp2_with fail
  refine (CB.out w1 B1.out).mono ?_
  rintro r w2 ⟨rfl, hb2⟩
  have B2 := Lib.hid (bthen B1.out hb2)
  have z0 := below_cell hb2 y0
  have z16 := below_cell hb2 y16
  have z1 := below_cell hb2 p1
  have BB2 := Lib.hid hb2
  clear hb2 y0 y16 p1 CB
  by_cases hE : E = 0
  · subst hE
    by_cases h8 : mk = 8
    · subst h8
      have HX := Lib.hid (show s' = sr by rw [HMS.out, if_neg (by simp), if_pos rfl])
      go_upto_region 8 with (fail)
      refine wp_region_lit ?_
      refine wpList_val (w' := w2) rfl (v := .pointer (some ⟨p, 0, none⟩)) (by simp only [execOp]; go_simp) ?_
      simp only [Act.put, List.setIfInBounds_toArray, List.set_cons_succ, List.set_cons_zero]
      refine wpList_val (w' := w2) rfl (v := .int .i64 fr) (by simp only [execOp]; go_simp) ?_
      simp only [Act.put, List.setIfInBounds_toArray, List.set_cons_succ, List.set_cons_zero]
      refine wpList_load_mid rfl 50 (.tmp 7) rfl w.heap.size 0 rfl ms _ (HLD.out w2 BB2.out) Try.underlying50 rfl HMI.out ?_
      simp only [Act.put, List.setIfInBounds_toArray, List.set_cons_succ, List.set_cons_zero]
      go_wp2_with fail
      refine (CR.out w2 B2.out).mono ?_
      rintro r w3 ⟨rfl, hk3, Z', hz', hc'⟩
      have HK3 := Lib.hid hk3; have HZ3 := Lib.hid hz'; have HC3 := Lib.hid hc'
      clear hk3 hz' hc' z0 z16 z1
      go_wp2_with fail
      go_ret
      rw [HX.out]
      exact ⟨rfl, (Keep.of_below (X := Z) B2.out).trans HK3.out (fun _ _ h => h), Z', fun k hk => (HZ3.out k hk).imp id (fun h => Nat.le_trans B2.out.size h), HC3.out⟩
    · by_cases h10 : mk = 10
      · subst h10
        have HX := Lib.hid (show s' = sl by rw [HMS.out, if_neg (by simp), if_neg h8, if_pos rfl])
        go_upto_region 10 with (fail)
        have hy1 := World.block_lt z16
        have hy2 := World.block_lt z1
        clear z0
        go_region_law (first | (refine step_at 36 rfl ?_; refine step_calls rfl 36 #[.pointer (some ⟨t, 0, none⟩), .slice a4 n4 c4] (by go_simp) (CT.out _ (bdrew B2.out)) ?_; rintro r w3 ⟨rfl, hT1, hT2⟩; refine ⟨_, rfl, ?_⟩; have HT1 := Lib.hid hT1; have HT2 := Lib.hid hT2; clear hT1 hT2 z16 z1))
        all_goals
          go_wp2_with fail
          go_ret
          rw [HX.out, HSS.out]
          by_cases hT : TC = 0
          · rw [if_pos hT]
            obtain ⟨X', oc', os', g1, g2, g3, g4⟩ := HT2.out hT
            have hold := H.out.old (bdrew B2.out)
            refine ⟨rfl, ?_, _, ?_, ⟨_, _, _, _, _, _, _, hold.take (HTC.out.trans hT) g1 g2 g3 g4, fun k => Iff.rfl⟩⟩
            · exact (Keep.of_below (X := Z) (bdrew B2.out)).trans (keep_sub g4 (fun k hk => (HZ.out k).2 (.inr hk))) (fun _ _ h => h)
            · rintro k (hk | hk)
              · exact .inl ((HZ.out k).2 (.inl hk))
              · rcases g1 k hk with hk | hk
                · exact .inl ((HZ.out k).2 (.inr hk))
                · exact .inr (Nat.le_trans B2.out.size hk)
          · rw [if_neg hT]
            exact handle_none H0.out (bthen (bdrew B2.out) (HT1.out hT))
      · have d8 : (mk == 8) = false := by simp [h8]
        have d10 : (mk == 10) = false := by simp [h10]
        have HX := Lib.hid (show s' = s by rw [HMS.out, if_neg (by simp), if_neg h8, if_neg h10])
        go_wp2_with fail
        go_ret
        rw [HX.out]
        exact handle_none H0.out B2.out
  · have dE : (E == 0) = false := by simp [hE]
    have HX := Lib.hid (show s' = s by rw [HMS.out, if_pos hE])
    go_wp2_with fail
    go_ret
    rw [HX.out]
    exact handle_none H0.out B2.out
end Go.Proofs.Ytijeieamodjgbab
