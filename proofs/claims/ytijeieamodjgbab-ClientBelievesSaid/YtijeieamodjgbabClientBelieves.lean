
/- ClientBelieves: what is accepted is a result of the open request that a weak quorum of members of one known configuration sent while it was open: for every input the law returns true, and its arguments read as before. No condition. -/
import Derived.Test.YtijeieamodjgbabCr
import Derived.Test.YtijeieamodjgbabWw
import Derived.Test.YtijeieamodjgbabCa
import Derived.Test.YtijeieamodjgbabCk
import Derived.Test.YtijeieamodjgbabDv
import Derived.Test.YtijeieamodjgbabNews3
import Derived.Test.YtijeieamodjgbabWe
import Derived.Test.YtijeieamodjgbabCo
import Derived.Test.YtijeieamodjgbabCn
import Derived.Test.YtijeieamodjgbabDrP
import Derived.Test.YtijeieamodjgbabDr2
import Derived.Test.YtijeieamodjgbabCi2

namespace Go.Proofs.Ytijeieamodjgbab
set_option maxRecDepth 100000
open Go.RowKit Go.Maps Go.Deep
set_option linter.unusedVariables false
set_option linter.unusedSimpArgs false
attribute [local go_sem] run_store_float

def stateS (s : Cst) (L : List Lk) : Cst := if takeC s.c0 s.cs L = 0 then { s with cs := L.map (·.1), ss := L.map (·.2) } else s
def handleS (s : Cst) (fr : Int) (m : Mg) : Cst := if mgErr m ≠ 0 then s else if m.k = 8 then replyS s fr m.e m.q m.c m.r else if m.k = 10 then stateS s m.lk else s
theorem take_parts {c0 : Cf} {cs : List Cf} {L : List Lk} (h : takeC c0 cs L = 0) : L.length ≤ 64 ∧ chainC c0 L = 0 ∧ cs.length ≤ L.length := by
  unfold takeC at h
  split at h
  · cases h
  · refine ⟨by omega, ?_, ?_⟩
    · unfold checkC at h
      split at h
      · exact absurd h (by assumption)
      · rename_i hc
        simpa using hc
    · unfold checkC at h
      split at h
      · exact absurd h (by assumption)
      · split at h
        · cases h
        · split at h
          · cases h
          · simp only [List.length_cons] at *; omega
theorem state_inv {s : Cst} (h : CInv s) {L : List Lk} (ht : takeC s.c0 s.cs L = 0) : CInv { s with cs := L.map (·.1), ss := L.map (·.2) } := by
  have hp := take_parts ht
  refine ⟨by simp, by simpa using hp.1, h.id, h.st, h.q, fun c hc => ?_, h.opn, h.na, h.nr, h.ac, h.hs⟩
  rcases List.mem_cons.1 hc with rfl | hc
  · exact h.right _ (.head _)
  · obtain ⟨y, hy, rfl⟩ := List.mem_map.1 hc
    obtain ⟨i, hi⟩ := List.getElem?_of_mem hy
    exact (chain_epoch L s.c0 hp.2.1 i y hi).2
def HandlePost (Z : Nat → Prop) (B p : Nat) (s s' : Cst) (w : World) (r : Ending) (w' : World) : Prop :=
  r = .returned (.slice none 0 0) ∧ Keep Z w w' ∧ ∃ Z' : Nat → Prop, (∀ k, Z' k → Z k ∨ w.heap.size ≤ k) ∧ Cli Z' w' B p s'
theorem handle_none {Z : Nat → Prop} {B p : Nat} {s : Cst} {w w' : World} (h : Cli Z w B p s) (hb : Below w.heap.size w w') : HandlePost Z B p s s w (.returned (.slice none 0 0)) w' :=
  ⟨rfl, Keep.of_below hb, Z, fun k hk => .inl hk, h.old hb⟩
/-- The tracker alone has turned. -/
theorem CliAt.take {X X' : Nat → Prop} {w w' : World} {B p t : Nat} {oc os oc' os' om oa ob : Option Nat} {s : Cst} (h : CliAt X w B p t oc os om oa ob s) {L : List Lk} (hz : takeC s.c0 s.cs L = 0)
    (hsub : ∀ j, trX t oc' os' j → trX t oc os j ∨ w.heap.size ≤ j) (hX : XSub X X' w) (ht : Trk X' w' B t oc' os' (s.c0 :: L.map (·.1)) (L.map (·.2))) (hk : Keep (trX t oc os) w w') :
    CliAt X' w' B p t oc' os' om oa ob { s with cs := L.map (·.1), ss := L.map (·.2) } := by
  have hlt := h.lt
  obtain ⟨va, vb, hp, h1, e1, h2, e2⟩ := h.ex
  refine ⟨ht, state_inv h.inv hz, h.hB, fun k hm => ⟨(h.hm k hm).1, Nat.lt_of_lt_of_le (h.hm k hm).2 hk.size⟩, fun k hy => ⟨hX.2 k (hlt k hy).2 (h.own k hy).1, fun hc => ?_⟩, h.nop, h.nom, h.noa, ⟨va, vb, ?_, ?_, e1, ?_, e2⟩, fun hq => ?_⟩
  · rcases hsub k hc with hc | hc
    · exact (h.own k hy).2 hc
    · have := (hlt k hy).2; omega
  · rw [hk.block p (blk_lt hp) (h.own p (.inl rfl)).2]; exact hp
  · exact owns_keep h1 hk (fun k hk' => (h.own k (.inr (.inr (.inl (by rw [← e1]; exact hk'))))).2)
  · exact owns_keep h2 hk (fun k hk' => (h.own k (.inr (.inr (.inr (by rw [← e2]; exact hk'))))).2)
  · obtain ⟨m, n, D, hm, ho, hn, hc⟩ := h.mp hq
    exact ⟨m, n, D, hm, rawC_block ho (hk.block m ho.lt (h.own m (.inr (.inl hm))).2), hn, hc⟩
theorem rsl_sub {α : Type} {S : Sh α} {X X' : Nat → Prop} {w : World} {a : Option Addr} {n c : Nat} {l : List α} (h : RSl S X w a n c l) (hX : ∀ k, X' k → X k) : RSl S X' w a n c l :=
  h.step (Keep.refl (fun _ => False) w) (fun _ _ hf => hf.elim) (fun k _ hx => hX k hx)
set_option maxHeartbeats 4000000 in
theorem handle_any {Z : Nat → Prop} {B p : Nat} {s : Cst} (w : World) (h : Cli Z w B p s) (hB : B ≤ w.heap.size) (nw fr : Int) (m : Mg) (a1 : Option Addr) (n1 c1 : Nat) (a2 : Option Addr) (n2 c2 : Nat) (a3 : Option Addr) (n3 c3 : Nat) (a4 : Option Addr) (n4 c4 : Nat)
    (hm : MsgIn w m a1 n1 c1 a2 n2 c2 a3 n3 c3 a4 n4 c4) (hr : RSl shLink Z w a4 n4 c4 m.lk) (hfr : i64 fr) (hhs : s.hs < 70368744177664) :
    Calls Try.prog 18 #[.pointer (some ⟨p, 0, none⟩), .int .i64 nw, .int .i64 fr, .agg (mgCs m a1 n1 c1 a2 n2 c2 a3 n3 c3 a4 n4 c4).toArray] w (HandlePost Z B p s (handleS s fr m) w) := by
  have H0 := Lib.hid h
  obtain ⟨w1, hw1⟩ : ∃ u, u = w.alloc (.cells (mgCs m a1 n1 c1 a2 n2 c2 a3 n3 c3 a4 n4 c4).toArray 50 (0, 0)) := ⟨_, rfl⟩
  have b1 : Below w.heap.size w w1 := by rw [hw1]; exact below_alloc _ _
  have k1 : w1.heap[w.heap.size]? = some (.cells (mgCs m a1 n1 c1 a2 n2 c2 a3 n3 c3 a4 n4 c4).toArray 50 (0, 0)) := by rw [hw1]; exact blk_alloc _ _
  have CB := Lib.hid (fun (wa : World) (hb : Below w.heap.size w wa) => bytes13_any m a1 n1 c1 a2 n2 c2 a3 n3 c3 a4 n4 c4 wa (hm.old hb))
  have CR := Lib.hid (show ∀ (wa : World), Below w.heap.size w wa → Calls Try.prog 35 #[.pointer (some ⟨p, 0, none⟩), .int .i64 fr, .agg (mgCs m a1 n1 c1 a2 n2 c2 a3 n3 c3 a4 n4 c4).toArray] wa (ReplyPost Z B p s (replyS s fr m.e m.q m.c m.r) wa) from
    fun wa hb => reply_any wa (h.old hb) fr m.e m.q hm.q m.c m.r hm.r (.int .i64 m.k) (.int .i64 m.v) (.int .i64 m.s) (.string m.t) (.slice a1 n1 c1) (.slice a2 n2 c2) (.slice a3 n3 c3) (.slice a4 n4 c4) hfr hm.e hhs)
  obtain ⟨X, t, oc, os, om, oa, ob, h, hz⟩ := h.ex
  have CT := Lib.hid (fun (wa : World) (hb : Below w.heap.size w wa) => take_any X B t oc os s.c0 s.cs s.ss a4 n4 c4 m.lk wa (h.old hb).trk (Nat.le_trans hB hb.size) (by have := h.len; have := h.l64; simp; omega) (by have := h.l64; omega)
    ((rsl_sub hr (fun k hk => (hz k).2 (.inr hk))).step (Y := fun _ => False) (Keep.of_below hb) (fun _ _ hf => hf.elim) (fun _ _ h => h)))
  obtain ⟨va, vb, hp, -⟩ := h.ex
  have HP := Lib.hid hp
  have HZ := Lib.hid hz; have H := Lib.hid h
  have B1 := Lib.hid b1
  have KM := Lib.hid k1
  have HMS := Lib.hid (show handleS s fr m = if mgErr m ≠ 0 then s else if m.k = 8 then replyS s fr m.e m.q m.c m.r else if m.k = 10 then stateS s m.lk else s from rfl)
  have HSS := Lib.hid (show stateS s m.lk = if takeC s.c0 s.cs m.lk = 0 then { s with cs := m.lk.map (·.1), ss := m.lk.map (·.2) } else s from rfl)
  have y0 : w1.cell? ⟨w.heap.size, 0, none⟩ = some (.int .i64 m.k) := by rw [blk_cell k1]; rfl
  have y16 : w1.cell? ⟨w.heap.size, 16, none⟩ = some (.slice a4 n4 c4) := by rw [blk_cell k1]; rfl
  have hml : (mgCs m a1 n1 c1 a2 n2 c2 a3 n3 c3 a4 n4 c4).length = 17 := rfl
  have p1 : w1.cell? ⟨p, 1, none⟩ = some (.pointer (some ⟨t, 0, none⟩)) := by rw [blk_cell (blk_below hp b1)]; rfl
  generalize mgCs m a1 n1 c1 a2 n2 c2 a3 n3 c3 a4 n4 c4 = ms at *
  generalize mgErr m = E at *
  generalize mgText m = TX at *
  generalize handleS s fr m = s' at *
  generalize replyS s fr m.e m.q m.c m.r = sr at *
  generalize stateS s m.lk = sl at *
  generalize hTC : takeC s.c0 s.cs m.lk = TC at *
  have HTC := Lib.hid hTC
  clear hTC
  generalize m.k = mk at *
  have HLD := Lib.hid (show ∀ (wa : World), Below w1.heap.size w1 wa → ∀ (j : Nat) (u : Value), ms[j]? = some u → wa.cell? ⟨w.heap.size, 0 + j, none⟩ = some u from fun wa hb j u hu => by rw [Nat.zero_add, blk_cell (blk_below k1 hb)]; simpa using hu)
  have hmi : (Try.prog.info? 50).map (·.size) = some ms.length := by rw [hml]; kernel_rfl
  have HMI := Lib.hid hmi
  have HML := Lib.hid hml
  clear h hz hp b1 k1 hm hr hfr hhs hml hmi
  go_enter Try.func18, Try.ntmps18
  go_upto_region 3 with (fail)
  rw [← hw1]
  clear hw1
  refine wp_region_lit ?_
  refine wpList_load_mid rfl 50 (.tmp 7) rfl w.heap.size 0 rfl ms _ (HLD.out w1 (Below.refl _ _)) Try.underlying50 rfl HMI.out ?_
  simp only [Act.put, List.setIfInBounds_toArray, List.set_cons_succ, List.set_cons_zero]
  go_wp2_with fail
  refine (CB.out w1 B1.out).mono ?_
  rintro r w2 ⟨rfl, hb2⟩
  have B2 := Lib.hid (bthen B1.out hb2)
  have z0 := below_cell hb2 y0
  have z16 := below_cell hb2 y16
  have z1 := below_cell hb2 p1
  have BB2 := Lib.hid hb2
  clear hb2 y0 y16 p1 CB
  by_cases hE : E = 0
  · subst hE
    by_cases h8 : mk = 8
    · subst h8
      have HX := Lib.hid (show s' = sr by rw [HMS.out, if_neg (by simp), if_pos rfl])
      go_upto_region 8 with (fail)
      refine wp_region_lit ?_
      refine wpList_val (w' := w2) rfl (v := .pointer (some ⟨p, 0, none⟩)) (by simp only [execOp]; go_simp) ?_
      simp only [Act.put, List.setIfInBounds_toArray, List.set_cons_succ, List.set_cons_zero]
      refine wpList_val (w' := w2) rfl (v := .int .i64 fr) (by simp only [execOp]; go_simp) ?_
      simp only [Act.put, List.setIfInBounds_toArray, List.set_cons_succ, List.set_cons_zero]
      refine wpList_load_mid rfl 50 (.tmp 7) rfl w.heap.size 0 rfl ms _ (HLD.out w2 BB2.out) Try.underlying50 rfl HMI.out ?_
      simp only [Act.put, List.setIfInBounds_toArray, List.set_cons_succ, List.set_cons_zero]
      go_wp2_with fail
      refine (CR.out w2 B2.out).mono ?_
      rintro r w3 ⟨rfl, hk3, Z', hz', hc'⟩
      have HK3 := Lib.hid hk3; have HZ3 := Lib.hid hz'; have HC3 := Lib.hid hc'
      clear hk3 hz' hc' z0 z16 z1
      go_wp2_with fail
      go_ret
      rw [HX.out]
      exact ⟨rfl, (Keep.of_below (X := Z) B2.out).trans HK3.out (fun _ _ h => h), Z', fun k hk => (HZ3.out k hk).imp id (fun h => Nat.le_trans B2.out.size h), HC3.out⟩
    · by_cases h10 : mk = 10
      · subst h10
        have HX := Lib.hid (show s' = sl by rw [HMS.out, if_neg (by simp), if_neg h8, if_pos rfl])
        go_upto_region 10 with (fail)
        have hy1 := World.block_lt z16
        have hy2 := World.block_lt z1
        clear z0
        go_region_law (first | (refine step_at 36 rfl ?_; refine step_calls rfl 36 #[.pointer (some ⟨t, 0, none⟩), .slice a4 n4 c4] (by go_simp) (CT.out _ (bdrew B2.out)) ?_; rintro r w3 ⟨rfl, hT1, hT2⟩; refine ⟨_, rfl, ?_⟩; have HT1 := Lib.hid hT1; have HT2 := Lib.hid hT2; clear hT1 hT2 z16 z1))
        all_goals
          go_wp2_with fail
          go_ret
          rw [HX.out, HSS.out]
          by_cases hT : TC = 0
          · rw [if_pos hT]
            obtain ⟨X', oc', os', g1, g2, g3, g4⟩ := HT2.out hT
            have hold := H.out.old (bdrew B2.out)
            refine ⟨rfl, ?_, _, ?_, ⟨_, _, _, _, _, _, _, hold.take (HTC.out.trans hT) g1 g2 g3 g4, fun k => Iff.rfl⟩⟩
            · exact (Keep.of_below (X := Z) (bdrew B2.out)).trans (keep_sub g4 (fun k hk => (HZ.out k).2 (.inr hk))) (fun _ _ h => h)
            · rintro k (hk | hk)
              · exact .inl ((HZ.out k).2 (.inl hk))
              · rcases g1 k hk with hk | hk
                · exact .inl ((HZ.out k).2 (.inr hk))
                · exact .inr (Nat.le_trans B2.out.size hk)
          · rw [if_neg hT]
            exact handle_none H0.out (bthen (bdrew B2.out) (HT1.out hT))
      · have d8 : (mk == 8) = false := by simp [h8]
        have d10 : (mk == 10) = false := by simp [h10]
        have HX := Lib.hid (show s' = s by rw [HMS.out, if_neg (by simp), if_neg h8, if_neg h10])
        go_wp2_with fail
        go_ret
        rw [HX.out]
        exact handle_none H0.out B2.out
  · have dE : (E == 0) = false := by simp [hE]
    have HX := Lib.hid (show s' = s by rw [HMS.out, if_pos hE])
    go_wp2_with fail
    go_ret
    rw [HX.out]
    exact handle_none H0.out B2.out
end Go.Proofs.Ytijeieamodjgbab

namespace Go.Proofs.Ytijeieamodjgbab
set_option maxRecDepth 100000
open Go.RowKit Go.Maps Go.Deep
set_option linter.unusedVariables false
set_option linter.unusedSimpArgs false
attribute [local go_sem] run_store_float

/-- Some packets, or none; memory as it was. -/
def TickPost (w : World) (r : Ending) (w' : World) : Prop := (∃ a n c, r = .returned (.slice a n c)) ∧ Below w.heap.size w w'
def fetchMs (e : Int) : List Value := [.int .i64 9, .int .i64 e, .int .i64 0, .int .i64 0, .int .i64 0, .int .i64 0, .int .i64 0, .string ⟨#[]⟩, .float .f64 0, .int .i64 0, .int .i64 0, .float .f64 0, .string ⟨#[]⟩, .slice none 0 0, .slice none 0 0, .slice none 0 0, .slice none 0 0]
theorem tellV_one {id : Int} {l : List Int} {ms : List Value} (h : ∀ u ∈ ms, u.oneCell' = true) : ∀ u ∈ tellV id l ms, u.oneCell' = true := by
  intro u hu
  obtain ⟨x, hx, h1⟩ := List.mem_flatMap.1 hu
  rcases List.mem_cons.1 h1 with rfl | h1
  · rfl
  · rcases List.mem_cons.1 h1 with rfl | h1
    · rfl
    · exact h u h1
theorem tellV_len {id : Int} {l : List Int} {ms : List Value} (h : ms.length = 17) : (tellV id l ms).length = l.length * 19 := by
  unfold tellV
  induction l with
  | nil => rfl
  | cons x r ih => rw [List.flatMap_cons, List.length_append, ih]; simp [h]; omega
theorem last_conf {s : Cst} (h : CInv s) : ∃ e l, (s.c0 :: s.cs)[s.ss.length]? = some (e, l) := by
  have hl : s.ss.length < (s.c0 :: s.cs).length := by have := h.len; simp; omega
  exact ⟨_, _, List.getElem?_eq_getElem hl⟩
set_option maxHeartbeats 4000000 in
theorem tick_any {Z : Nat → Prop} {B p : Nat} {s : Cst} (w : World) (h : Cli Z w B p s) (nw : Int) :
    Calls Try.prog 19 #[.pointer (some ⟨p, 0, none⟩), .int .i64 nw] w (TickPost w) := by
  obtain ⟨X, t, oc, os, om, oa, ob, h, hz⟩ := h.ex
  obtain ⟨e, l, hl⟩ := last_conf h.inv
  obtain ⟨ii, hii, hz0, hz1, hz2⟩ := info_parts info_pk
  have hln := risingB_len (rightB_rising (h.right _ (List.mem_of_getElem? hl))).2.2
  obtain ⟨hl4, hln⟩ := hln
  obtain ⟨va, vb, hp, -⟩ := h.ex
  have CW := Lib.hid (waiting_any w h)
  have CA := Lib.hid (anew_any w h e l hl)
  have CE := Lib.hid (fun (wa : World) (hb : Below w.heap.size w wa) => epoch_any X B t oc os (s.c0 :: s.cs) s.ss wa (h.old hb).trk (by have := h.len; have := h.l64; simp; omega) (by have := h.l64; omega))
  have CT := Lib.hid (fun (wa : World) (hb : Below w.heap.size w wa) => tell_any wa (h.old hb) (fetchMs s.ss.length) rfl (by unfold fetchMs; simp [Value.oneCell']) e l hl)
  have HON := Lib.hid (tellV_one (id := 100 + s.id) (l := l) (ms := fetchMs s.ss.length) (by unfold fetchMs; simp [Value.oneCell']))
  have HLN := Lib.hid (show (tellV (100 + s.id) l (fetchMs s.ss.length)).length = l.length * 19 from tellV_len rfl)
  have HP := Lib.hid hp
  have p1 : w.cell? ⟨p, 1, none⟩ = some (.pointer (some ⟨t, 0, none⟩)) := by rw [blk_cell hp]; rfl
  generalize tellV (100 + s.id) l (fetchMs s.ss.length) = xs at *
  generalize s.ss.length = ns at *
  unfold fetchMs at CT
  generalize wtB s = D at *
  clear h hz hp hl
  by_cases hr : nw.tmod 4 = 0
  · go_enter Try.func19, Try.ntmps19
    go_wp2_with fail
    refine CW.out.mono ?_
    rintro r w1 ⟨rfl, rfl⟩
    go_upto_if 14 with (fail)
    go_cut [5] (fun v5 wc => Hid (∃ a n c ys, v5 = .slice a n c ∧ n ≤ 10 ∧ wc.ownsRow w.heap.size 134 19 (.slice a n c) n ys ∧ Below w.heap.size w wc))
    case first =>
      cases D with
      | false =>
        go_wp2_with fail
        go_meet
        case rel => exact Lib.hid ⟨none, 0, 0, [], rfl, by omega, World.ownsRow_nil _ _ _ _, Below.refl _ _⟩
      | true =>
        go_wp2_with fail
        refine CA.out.mono ?_
        rintro r w2 ⟨a2, c2, xs2, rfl, ho2, hb2⟩
        have HO2 := Lib.hid ho2; have HB2 := Lib.hid hb2
        clear ho2 hb2
        go_wp2_with fail
        go_meet
        case rel => exact Lib.hid ⟨a2, _, c2, xs2, rfl, hln, HO2.out, HB2.out⟩
    case rest =>
      obtain ⟨a5, n5, c5, ys, rfl, hn5, ho5, hb5⟩ := hcut.out
      have HO5 := Lib.hid ho5; have HB5 := Lib.hid hb5
      have p5 := below_cell hb5 p1
      clear hcut ho5 hb5
      go_wp2_with fail
      refine (CE.out _ HB5.out).mono ?_
      rintro r w6 ⟨rfl, rfl⟩
      go_wp2_with fail
      refine (CT.out _ HB5.out).mono ?_
      rintro r w7 ⟨a7, c7, rfl, ho7, hb7⟩
      rcases ho7.2 with ⟨-, h0⟩ | ⟨g, cap, cur, hv, hB, hg, hnc, hcm, _, _⟩
      · omega
      · obtain ⟨rfl, rfl⟩ : a7 = some ⟨g, 0, none⟩ ∧ c7 = cap := by injection hv with h1 h2 h3; exact ⟨h1, h3⟩
        have hcell : ∀ ad', (some ⟨g, 0, none⟩ : Option Addr) = some ad' → ∀ j u, xs[j]? = some u → w7.cell? (ad'.add j) = some u := fun ad' had j u hu => by
          injection had with had; subst had
          exact ho7.cells (g := g) rfl j u hu
        have HC := Lib.hid hcell
        have HO6 := Lib.hid (owns_old HO5.out hb7)
        have B7 := Lib.hid (bthen HB5.out hb7)
        have HLE := Lib.hid B7.out.size
        have k1 : n5 + l.length ≤ maxLen := by unfold maxLen; omega
        have k2 : (n5 + l.length) * 232 ≤ 140737488355328 := by omega
        clear hcell ho7 hb7 hv hB hg hnc hcm p5 p1 CT CE CA CW HO5 HB5
        go_wp2_with (first | (refine wpList_append_any _ rfl (.tmp 17) (.tmp 25) 65 rfl w.heap.size 134 ii (.agg zeroPk.toArray) 19 232 Try.underlying65 hii hz0 hz1 hz2 rfl (by decide) _ n5 ys rfl HO6.out (some ⟨g, 0, none⟩) l.length c7 xs rfl HLN.out (fun h => by cases h) HC.out HON.out k1 k2 HLE.out ?_) | fail)
        intro v8 w8 ho8 hg8 hor8
        obtain ⟨a8, c8, rfl⟩ := owns_form ho8
        have HB8 := Lib.hid (show Below w.heap.size w w8 from grown_below B7.out hg8 (fun j hj => (HO6.out.lt j hj).1))
        clear ho8 hg8 hor8 k1 k2
        go_wp2_with fail
        go_ret
        exact ⟨⟨_, _, _, rfl⟩, HB8.out⟩
  · go_enter Try.func19, Try.ntmps19
    have hr2 : (nw.tmod 4 == 0) = false := by simp [hr]
    go_wp2_with fail
    go_ret
    exact ⟨⟨_, _, _, rfl⟩, Below.refl _ _⟩
end Go.Proofs.Ytijeieamodjgbab

namespace Go.Proofs.Ytijeieamodjgbab
set_option maxRecDepth 100000
open Go.ChangeShapes Go.WideShapes Go.ChangeAt Go.RowKit Go.Deep Go.Maps
set_option linter.unusedVariables false
set_option linter.unusedSimpArgs false

/-- A step: its kind, time, sender, ask and message. -/
structure St19 where
  kd : Int
  nw : Int
  fr : Int
  a : Int × Int × Int × ByteArray × Int × Int
  m : Mg
def St19.q (y : St19) : Rq := ⟨y.a.1, y.a.2.1, y.a.2.2.1, y.a.2.2.2.1, y.a.2.2.2.2.1.toNat, y.a.2.2.2.2.2⟩
def shAsk19 : Sh (Int × Int × Int × ByteArray × Int × Int) := (Sh.int.pair (Sh.int.pair (Sh.int.pair (Sh.str.pair (Sh.u64.pair Sh.int))))).bytes 56
theorem vwAsk19 : Vw Try.prog 43 shAsk19 := vw_struct Try.underlying43 (fsv_cons vwInt (fsv_cons vwInt (fsv_cons vwInt (fsv_cons vwStr (fsv_cons vwU64 (fsv_one vwInt) rfl) rfl) rfl) rfl) rfl) (by kernel_rfl) (by kernel_rfl)
def shStep19 : Sh St19 := ((Sh.int.pair (Sh.int.pair (Sh.int.pair (shAsk19.pair shMsg)))).bytes 296).map fun s => (s.kd, s.nw, s.fr, s.a, s.m)
theorem vwStep19 : Vw Try.prog 52 shStep19 := vw_map _ (fun y => ⟨y.1, y.2.1, y.2.2.1, y.2.2.2.1, y.2.2.2.2⟩) (fun _ => rfl) (vw_struct Try.underlying52 (fsv_cons vwInt (fsv_cons vwInt (fsv_cons vwInt (fsv_cons vwAsk19 (fsv_one vwMsg) rfl) rfl) rfl) rfl) (by kernel_rfl) (by kernel_rfl))
theorem vwSteps19 : Vw Try.prog 25 shStep19.slice := vw_slice Try.underlying25 (by kernel_rfl) (by kernel_rfl) vwStep19 (by decide) (by decide)
def stCs (y : St19) (a1 : Option Addr) (n1 c1 : Nat) (a2 : Option Addr) (n2 c2 : Nat) (a3 : Option Addr) (n3 c3 : Nat) (a4 : Option Addr) (n4 c4 : Nat) : List Value :=
  .int .i64 y.kd :: .int .i64 y.nw :: .int .i64 y.fr :: .int .i64 y.q.c :: .int .i64 y.q.s :: .int .i64 y.q.kind :: .string y.q.key :: .int .u64 y.q.b :: .int .i64 y.q.id :: mgCs y.m a1 n1 c1 a2 n2 c2 a3 n3 c3 a4 n4 c4
structure StepIn (w : World) (y : St19) (a1 : Option Addr) (n1 c1 : Nat) (a2 : Option Addr) (n2 c2 : Nat) (a3 : Option Addr) (n3 c3 : Nat) (a4 : Option Addr) (n4 c4 : Nat) : Prop where
  kd : i64 y.kd
  nw : i64 y.nw
  fr : i64 y.fr
  q : y.q.Ok
  m : MsgIn w y.m a1 n1 c1 a2 n2 c2 a3 n3 c3 a4 n4 c4
theorem step19_open {w : World} {y : St19} {cs : List Value} (h : shStep19.E w y cs) : ∃ a1 n1 c1 a2 n2 c2 a3 n3 c3 a4 n4 c4, cs = stCs y a1 n1 c1 a2 n2 c2 a3 n3 c3 a4 n4 c4 ∧ StepIn w y a1 n1 c1 a2 n2 c2 a3 n3 c3 a4 n4 c4 := by
  obtain ⟨kd, nw, fr, ⟨c, s, kind, key, b, id⟩, m⟩ := y
  obtain ⟨_, _, rfl, ⟨rfl, h1⟩, _, _, rfl, ⟨rfl, h2⟩, _, _, rfl, ⟨rfl, h3⟩, _, _, rfl, ⟨_, _, rfl, ⟨rfl, g1⟩, _, _, rfl, ⟨rfl, g2⟩, _, _, rfl, ⟨rfl, g3⟩, _, _, rfl, ⟨rfl, g4⟩, _, _, rfl, ⟨rfl, g5, g6⟩, rfl, g7⟩, hm⟩ := h
  obtain ⟨a1, n1, c1, a2, n2, c2, a3, n3, c3, a4, n4, c4, rfl, hmi⟩ := msg_open hm
  refine ⟨a1, n1, c1, a2, n2, c2, a3, n3, c3, a4, n4, c4, ?_, h1, h2, h3, ⟨g1, g2, g3, g7, ?_, g4⟩, hmi⟩
  · have hb : ((b.toNat : Nat) : Int) = b := Int.toNat_of_nonneg g5
    show _ = Value.int .i64 kd :: .int .i64 nw :: .int .i64 fr :: .int .i64 c :: .int .i64 s :: .int .i64 kind :: .string key :: .int .u64 ((b.toNat : Nat) : Int) :: .int .i64 id :: mgCs m a1 n1 c1 a2 n2 c2 a3 n3 c3 a4 n4 c4
    rw [hb]
    rfl
  · show b.toNat < _
    dsimp only at g5 g6
    omega
theorem step19_cells {w : World} {a : Option Addr} {n c : Nat} {l : List St19} (h : SlAt shStep19 w a n c l) {i : Nat} {y : St19} (hi : l[i]? = some y) :
    ∃ b o a1 n1 c1 a2 n2 c2 a3 n3 c3 a4 n4 c4, a = some ⟨b, o, none⟩ ∧ (∀ j u, (stCs y a1 n1 c1 a2 n2 c2 a3 n3 c3 a4 n4 c4)[j]? = some u → w.cell? ⟨b, o + i * 26 + j, none⟩ = some u) ∧ StepIn w y a1 n1 c1 a2 n2 c2 a3 n3 c3 a4 n4 c4 := by
  obtain ⟨b, o, xs, ha, hE, hc⟩ := h.cell i _ hi
  obtain ⟨a1, n1, c1, a2, n2, c2, a3, n3, c3, a4, n4, c4, rfl, hs⟩ := step19_open hE
  exact ⟨b, o, a1, n1, c1, a2, n2, c2, a3, n3, c3, a4, n4, c4, ha, hc, hs⟩
theorem StepIn.old {w w' : World} {y : St19} {a1 : Option Addr} {n1 c1 : Nat} {a2 : Option Addr} {n2 c2 : Nat} {a3 : Option Addr} {n3 c3 : Nat} {a4 : Option Addr} {n4 c4 : Nat} (h : StepIn w y a1 n1 c1 a2 n2 c2 a3 n3 c3 a4 n4 c4) (hb : Below w.heap.size w w') : StepIn w' y a1 n1 c1 a2 n2 c2 a3 n3 c3 a4 n4 c4 := ⟨h.kd, h.nw, h.fr, h.q, h.m.old hb⟩
def kind19 (k : Int) : Int := wrap64 ((IntKind.u64.wrap k).tmod 3)
theorem kind19_in (k : Int) : 0 ≤ kind19 k ∧ kind19 k ≤ 2 := by
  have h : IntKind.u64.wrap k = k % 18446744073709551616 := by simp [IntKind.wrap, IntKind.bits, IntKind.signed]
  have h3 : (IntKind.u64.wrap k).tmod 3 = (IntKind.u64.wrap k) % 3 := Int.tmod_eq_emod_of_nonneg (by rw [h]; omega)
  unfold kind19 wrap64
  rw [h3]
  omega
set_option maxHeartbeats 1000000 in
theorem kind19_any (cs : List Value) (k : Int) (h0 : cs[0]? = some (.int .i64 k)) (w : World) : Calls Try.prog 12 #[.agg cs.toArray] w fun r w' => r = .returned (.int .i64 (kind19 k)) ∧ Below w.heap.size w w' := by
  have hb := below_alloc w (.cells cs.toArray 52 (0, 0))
  have y0 : (w.alloc (.cells cs.toArray 52 (0, 0))).cell? ⟨w.heap.size, 0, none⟩ = some (.int .i64 k) := by rw [blk_cell (blk_alloc _ _)]; simpa using h0
  have hu : ∀ x, IntKind.u64.wrap x = IntKind.u64.wrap x := fun _ => rfl
  go_enter Try.func12, Try.ntmps12
  go_wp2_with fail
  go_ret
  exact ⟨rfl, hb⟩
/-- What a step leaves. -/
def doesS (s : Cst) (y : St19) : Cst := if kind19 y.kd = 0 then (if askE s y.q.kind y.q.key y.q.b y.q.id = 0 then askS s y.q.kind y.q.key y.q.b y.q.id else s) else if kind19 y.kd = 1 then handleS s y.fr y.m else s
set_option maxHeartbeats 4000000 in
theorem does_any {Z : Nat → Prop} {B p : Nat} {s : Cst} (w : World) (h : Cli Z w B p s) (hB : B ≤ w.heap.size) (y : St19) (a1 : Option Addr) (n1 c1 : Nat) (a2 : Option Addr) (n2 c2 : Nat) (a3 : Option Addr) (n3 c3 : Nat) (a4 : Option Addr) (n4 c4 : Nat)
    (hm : StepIn w y a1 n1 c1 a2 n2 c2 a3 n3 c3 a4 n4 c4) (hr : RSl shLink Z w a4 n4 c4 y.m.lk) (hhs : s.hs < 70368744177664) :
    Calls Try.prog 9 #[.pointer (some ⟨p, 0, none⟩), .agg (stCs y a1 n1 c1 a2 n2 c2 a3 n3 c3 a4 n4 c4).toArray] w (ReplyPost Z B p s (doesS s y) w) := by
  have H0 := Lib.hid h
  obtain ⟨e, l, hl⟩ := (show ∃ e l, (s.c0 :: s.cs)[s.ss.length]? = some (e, l) by obtain ⟨X, t, oc, os, om, oa, ob, h, hz⟩ := h.ex; exact last_conf h.inv)
  obtain ⟨w1, hw1⟩ : ∃ u, u = w.alloc (.cells (stCs y a1 n1 c1 a2 n2 c2 a3 n3 c3 a4 n4 c4).toArray 52 (0, 0)) := ⟨_, rfl⟩
  have b1 : Below w.heap.size w w1 := by rw [hw1]; exact below_alloc _ _
  have k1 : w1.heap[w.heap.size]? = some (.cells (stCs y a1 n1 c1 a2 n2 c2 a3 n3 c3 a4 n4 c4).toArray 52 (0, 0)) := by rw [hw1]; exact blk_alloc _ _
  have HKD := Lib.hid (fun (wa : World) => kind19_any (stCs y a1 n1 c1 a2 n2 c2 a3 n3 c3 a4 n4 c4) y.kd rfl wa)
  have CQ := Lib.hid (fun (wa : World) => request_any y.q wa)
  have CA := Lib.hid (fun (wa : World) (hb : Below w.heap.size w wa) => ask_any wa (h.old hb) e l hl y.q.kind y.q.key y.q.b y.q.id hm.q.kind hm.q.id hm.q.b hm.q.key)
  have CH := Lib.hid (fun (wa : World) (hb : Below w.heap.size w wa) => handle_any wa (h.old hb) (Nat.le_trans hB hb.size) y.nw y.fr y.m a1 n1 c1 a2 n2 c2 a3 n3 c3 a4 n4 c4 (hm.m.old hb) (hr.step (Y := fun _ => False) (Keep.of_below hb) (fun _ _ hf => hf.elim) (fun _ _ h => h)) hm.fr hhs)
  have CT := Lib.hid (fun (wa : World) (hb : Below w.heap.size w wa) => tick_any wa (h.old hb) y.nw)
  have HS := Lib.hid (show doesS s y = if kind19 y.kd = 0 then (if askE s y.q.kind y.q.key y.q.b y.q.id = 0 then askS s y.q.kind y.q.key y.q.b y.q.id else s) else if kind19 y.kd = 1 then handleS s y.fr y.m else s from rfl)
  have hin := kind19_in y.kd
  have B1 := Lib.hid b1
  have hsl : (stCs y a1 n1 c1 a2 n2 c2 a3 n3 c3 a4 n4 c4).length = 26 := rfl
  have HLD := Lib.hid (show ∀ (wa : World), Below w1.heap.size w1 wa → ∀ (j : Nat) (u : Value), (stCs y a1 n1 c1 a2 n2 c2 a3 n3 c3 a4 n4 c4)[j]? = some u → wa.cell? ⟨w.heap.size, 0 + j, none⟩ = some u from fun wa hb j u hu => by rw [Nat.zero_add, blk_cell (blk_below k1 hb)]; simpa using hu)
  have HLM := Lib.hid (show ∀ (wa : World), Below w1.heap.size w1 wa → ∀ (j : Nat) (u : Value), (mgCs y.m a1 n1 c1 a2 n2 c2 a3 n3 c3 a4 n4 c4)[j]? = some u → wa.cell? ⟨w.heap.size, 9 + j, none⟩ = some u from fun wa hb j u hu => by
    have := HLD.out wa hb (j + 9) u hu
    rw [Nat.zero_add, Nat.add_comm] at this; exact this)
  have hmi : (Try.prog.info? 52).map (·.size) = some (stCs y a1 n1 c1 a2 n2 c2 a3 n3 c3 a4 n4 c4).length := by rw [hsl]; kernel_rfl
  have hmj : (Try.prog.info? 50).map (·.size) = some (mgCs y.m a1 n1 c1 a2 n2 c2 a3 n3 c3 a4 n4 c4).length := by show _ = some 17; kernel_rfl
  have HMI := Lib.hid hmi; have HMJ := Lib.hid hmj
  have y1 : w1.cell? ⟨w.heap.size, 1, none⟩ = some (.int .i64 y.nw) := by rw [blk_cell k1]; rfl
  have y2 : w1.cell? ⟨w.heap.size, 2, none⟩ = some (.int .i64 y.fr) := by rw [blk_cell k1]; rfl
  have y3 : w1.cell? ⟨w.heap.size, 3, none⟩ = some (.int .i64 y.q.c) := by rw [blk_cell k1]; rfl
  have y4 : w1.cell? ⟨w.heap.size, 4, none⟩ = some (.int .i64 y.q.s) := by rw [blk_cell k1]; rfl
  have y5 : w1.cell? ⟨w.heap.size, 5, none⟩ = some (.int .i64 y.q.kind) := by rw [blk_cell k1]; rfl
  have y6 : w1.cell? ⟨w.heap.size, 6, none⟩ = some (.string y.q.key) := by rw [blk_cell k1]; rfl
  have y7 : w1.cell? ⟨w.heap.size, 7, none⟩ = some (.int .u64 y.q.b) := by rw [blk_cell k1]; rfl
  have y8 : w1.cell? ⟨w.heap.size, 8, none⟩ = some (.int .i64 y.q.id) := by rw [blk_cell k1]; rfl
  unfold Rq.ask Rq.v at CQ
  have hfl : ∀ (wa : World), (Instr.field 35 (.agg #[.int .i64 y.q.c, .int .i64 y.q.s, .int .i64 y.q.kind, .string y.q.key, .float .f64 y.q.b, .int .i64 y.q.id]) 2).run Try.prog wa = .ok (.agg #[.int .i64 y.q.kind, .string y.q.key, .float .f64 y.q.b, .int .i64 y.q.id]) wa := fun wa => by kernel_rfl
  generalize stCs y a1 n1 c1 a2 n2 c2 a3 n3 c3 a4 n4 c4 = cs at *
  generalize mgCs y.m a1 n1 c1 a2 n2 c2 a3 n3 c3 a4 n4 c4 = ms at *
  generalize doesS s y = s' at *
  generalize y.q = q at *
  generalize kind19 y.kd = kk at *
  clear h hm hr hhs hsl hmi hmj hl b1 k1
  go_enter Try.func9, Try.ntmps9
  go_upto_region 1 with (fail)
  rw [← hw1]
  clear hw1
  refine wp_region_lit ?_
  refine wpList_load_mid rfl 52 (.tmp 3) rfl w.heap.size 0 rfl cs _ (HLD.out w1 (Below.refl _ _)) Try.underlying52 rfl HMI.out ?_
  simp only [Act.put, List.setIfInBounds_toArray, List.set_cons_succ, List.set_cons_zero]
  go_wp2_with fail
  refine (HKD.out w1).mono ?_
  rintro r w2 ⟨rfl, hb2⟩
  have BB2 := Lib.hid hb2
  have B2 := Lib.hid (bthen B1.out hb2)
  have HRN := Lib.hid (show ∀ w', Below w.heap.size w w' → ReplyPost Z B p s s w (.returned (.tuple #[])) w' from fun w' hb => reply_none H0.out hb)
  have z1 := below_cell hb2 y1
  have z2 := below_cell hb2 y2
  have z3 := below_cell hb2 y3
  have z4 := below_cell hb2 y4
  have z5 := below_cell hb2 y5
  have z6 := below_cell hb2 y6
  have z7 := below_cell hb2 y7
  have z8 := below_cell hb2 y8
  clear hb2 y1 y2 y3 y4 y5 y6 y7 y8 HKD
  have hk3 : kk = 0 ∨ kk = 1 ∨ kk = 2 := by omega
  rcases hk3 with rfl | rfl | rfl
  · rw [if_pos rfl] at HS
    go_wp2_with fail
    refine (CQ.out w2).mono ?_
    rintro r w3 ⟨rfl, hb3⟩
    have B3 := Lib.hid (bthen B2.out hb3)
    clear hb3 z1 z2 z3 z4 z5 z6 z7 z8
    go_wp2_with fail
    refine (CA.out w3 B3.out).mono ?_
    rintro r w4 hA
    have HA := Lib.hid hA
    clear hA
    rcases HA.out with ⟨he, rfl, hb4⟩ | ⟨he, ⟨a4', c4', rfl⟩, hk4, Z', hz', hc'⟩
    · have HX := Lib.hid (show ReplyPost Z B p s s' w (.returned (.tuple #[])) w4 by rw [HS.out, if_neg he]; exact HRN.out w4 (bthen B3.out hb4))
      clear hb4
      go_wp2_with fail
      go_end0
      exact HX.out
    · have HX := Lib.hid (show ReplyPost Z B p s s' w (.returned (.tuple #[])) w4 by
        rw [HS.out, if_pos he]
        exact ⟨rfl, (Keep.of_below (X := Z) B3.out).trans hk4 (fun _ _ h => h), Z', fun k hk => (hz' k hk).imp id (fun h => Nat.le_trans B3.out.size h), hc'⟩)
      clear hk4 hz' hc'
      go_wp2_with fail
      go_end0
      exact HX.out
  · rw [if_neg (by decide), if_pos rfl] at HS
    go_upto_region 5 with (fail)
    refine wp_region_lit ?_
    refine wpList_val (w' := w2) rfl (v := .pointer (some ⟨p, 0, none⟩)) (by simp only [execOp]; go_simp) ?_
    simp only [Act.put, List.setIfInBounds_toArray, List.set_cons_succ, List.set_cons_zero]
    refine wpList_val (w' := w2) rfl (v := .pointer (some ⟨w.heap.size, 1, none⟩)) (by simp only [execOp]; go_simp) ?_
    simp only [Act.put, List.setIfInBounds_toArray, List.set_cons_succ, List.set_cons_zero]
    refine wpList_val (w' := w2) rfl (v := .int .i64 y.nw) (by simp only [execOp]; go_simp) ?_
    simp only [Act.put, List.setIfInBounds_toArray, List.set_cons_succ, List.set_cons_zero]
    refine wpList_val (w' := w2) rfl (v := .pointer (some ⟨w.heap.size, 2, none⟩)) (by simp only [execOp]; go_simp) ?_
    simp only [Act.put, List.setIfInBounds_toArray, List.set_cons_succ, List.set_cons_zero]
    refine wpList_val (w' := w2) rfl (v := .int .i64 y.fr) (by simp only [execOp]; go_simp) ?_
    simp only [Act.put, List.setIfInBounds_toArray, List.set_cons_succ, List.set_cons_zero]
    refine wpList_val (w' := w2) rfl (v := .pointer (some ⟨w.heap.size, 9, none⟩)) (by simp only [execOp]; go_simp) ?_
    simp only [Act.put, List.setIfInBounds_toArray, List.set_cons_succ, List.set_cons_zero]
    refine wpList_load_mid rfl 50 (.tmp 21) rfl w.heap.size 9 rfl ms _ (HLM.out w2 BB2.out) Try.underlying50 rfl HMJ.out ?_
    simp only [Act.put, List.setIfInBounds_toArray, List.set_cons_succ, List.set_cons_zero]
    go_wp2_with fail
    refine (CH.out w2 B2.out).mono ?_
    rintro r w4 ⟨rfl, hk4, Z', hz', hc'⟩
    have HX := Lib.hid (show ReplyPost Z B p s s' w (.returned (.tuple #[])) w4 by
      rw [HS.out]
      exact ⟨rfl, (Keep.of_below (X := Z) B2.out).trans hk4 (fun _ _ h => h), Z', fun k hk => (hz' k hk).imp id (fun h => Nat.le_trans B2.out.size h), hc'⟩)
    clear hk4 hz' hc' z1 z2 z3 z4 z5 z6 z7 z8
    go_wp2_with fail
    go_end0
    exact HX.out
  · rw [if_neg (by decide), if_neg (by decide)] at HS
    go_wp2_with fail
    refine (CT.out w2 B2.out).mono ?_
    rintro r w4 ⟨⟨a4', n4', c4', rfl⟩, hb4⟩
    have HX := Lib.hid (show ReplyPost Z B p s s' w (.returned (.tuple #[])) w4 by rw [HS.out]; exact HRN.out w4 (bthen B2.out hb4))
    clear hb4 z1 z2 z3 z4 z5 z6 z7 z8
    go_wp2_with fail
    go_end0
    exact HX.out
theorem reply_same (s : Cst) (fr ep : Int) (rq : Rq) (rc : Int) (rb : Nat) : (replyS s fr ep rq rc rb).id = s.id ∧ (replyS s fr ep rq rc rb).st = s.st ∧ (replyS s fr ep rq rc rb).hs ≤ s.hs + 1 ∧ (replyS s fr ep rq rc rb).c0 = s.c0 := by
  unfold replyS
  split
  · exact ⟨rfl, rfl, Nat.le_succ _, rfl⟩
  · split
    · exact ⟨rfl, rfl, Nat.le_succ _, rfl⟩
    · split
      · exact ⟨rfl, rfl, Nat.le_refl _, rfl⟩
      · exact ⟨rfl, rfl, Nat.le_refl _, rfl⟩
theorem handle_same (s : Cst) (fr : Int) (m : Mg) : (handleS s fr m).id = s.id ∧ (handleS s fr m).st = s.st ∧ (handleS s fr m).hs ≤ s.hs + 1 ∧ (handleS s fr m).c0 = s.c0 := by
  unfold handleS
  split
  · exact ⟨rfl, rfl, Nat.le_succ _, rfl⟩
  · split
    · exact reply_same _ _ _ _ _ _
    · split
      · unfold stateS
        split <;> exact ⟨rfl, rfl, Nat.le_succ _, rfl⟩
      · exact ⟨rfl, rfl, Nat.le_succ _, rfl⟩
theorem does_same {s : Cst} {y : St19} (h : kind19 y.kd ≠ 0) : (doesS s y).id = s.id ∧ (doesS s y).st = s.st ∧ (doesS s y).hs ≤ s.hs + 1 ∧ (doesS s y).c0 = s.c0 := by
  unfold doesS
  rw [if_neg h]
  split
  · exact handle_same _ _ _
  · exact ⟨rfl, rfl, Nat.le_succ _, rfl⟩
theorem does_hs (s : Cst) (y : St19) : (doesS s y).hs ≤ s.hs + 1 ∧ (doesS s y).c0 = s.c0 := by
  by_cases h : kind19 y.kd = 0
  · unfold doesS
    rw [if_pos h]
    split <;> exact ⟨Nat.le_succ _, rfl⟩
  · have := does_same (s := s) h
    exact ⟨this.2.2.1, this.2.2.2⟩
end Go.Proofs.Ytijeieamodjgbab

namespace Go.Proofs.Ytijeieamodjgbab
set_option maxRecDepth 100000
open Go.RowKit Go.Deep
set_option linter.unusedVariables false
set_option linter.unusedSimpArgs false

/-- A block of one thing is made and stored at once. -/
theorem ops_made {ops : Array Oper} {rest : List Oper} {o1 o2 : Oper} {a : Act} {w : World} {Q : Exit → Act → World → Prop} (T : TypeId) (zs : List Value) (hg1 : o1.guard = none) (hg2 : o2.guard = none) (x y : Operand) (hal : ∀ ρ w, (execOp ρ o1).run Try.prog w = .ok (.value (.pointer (some ⟨w.heap.size, 0, none⟩))) (w.alloc (.cells zs.toArray T (0, 0)))) (ho2 : o2.op = .store T x y)
    (cs : List Value) (hl : cs.length = zs.length) (hinfo : (Try.prog.info? T).map (·.size) = some zs.length) (h1 : cs.toArray.all (·.oneCell') = true)
    (hx : (a.put o1.dst (.pointer (some ⟨w.heap.size, 0, none⟩))).eval x = .pointer (some ⟨w.heap.size, 0, none⟩)) (hy : (a.put o1.dst (.pointer (some ⟨w.heap.size, 0, none⟩))).eval y = .agg cs.toArray)
    (h : ∀ w', Below w.heap.size w w' → w'.heap[w.heap.size]? = some (.cells cs.toArray T (0, 0)) → w'.heap.size = w.heap.size + 1 → wpList Try.prog ops Q rest ((a.put o1.dst (.pointer (some ⟨w.heap.size, 0, none⟩))).put o2.dst undef) w') :
    wpList Try.prog ops Q (o1 :: o2 :: rest) a w := by
  refine ops_val (w' := w.alloc (.cells zs.toArray T (0, 0))) (by simp [Region.wanted, hg1]) (hal a.eval w) ?_
  have b1 : Below w.heap.size w (w.alloc (.cells zs.toArray T (0, 0))) := below_alloc _ _
  have hz1 : (w.alloc (.cells zs.toArray T (0, 0))).heap.size = w.heap.size + 1 := by simp
  have k1 : (w.alloc (.cells zs.toArray T (0, 0))).heap[w.heap.size]? = some (.cells zs.toArray T (0, 0)) := blk_alloc _ _
  generalize w.alloc (.cells zs.toArray T (0, 0)) = w1 at b1 hz1 k1 ⊢
  refine wpList_store_mid hg2 T x y ho2 w.heap.size 0 cs.toArray hx hy (fun j hj => ⟨?_, ?_⟩) (by rw [List.size_toArray, hl]; exact hinfo) h1 ?_
  · have : j < zs.length := by simpa [hl] using hj
    rw [blk_cell k1, Option.isSome_iff_exists, Nat.zero_add]
    exact ⟨_, Array.getElem?_eq_getElem (by simpa using this)⟩
  · exact blk_frozen k1 _
  · exact h _ (sets_old (Nat.le_refl _) _ b1) (by have := sets_blk cs w1 [] zs k1 hl.symm; simpa using this) (by rw [sets_len, hz1])
end Go.Proofs.Ytijeieamodjgbab

namespace Go.Proofs.Ytijeieamodjgbab
set_option maxRecDepth 100000
open Go.RowKit Go.Deep Go.Maps
set_option linter.unusedVariables false
set_option linter.unusedSimpArgs false
attribute [local go_sem] run_store_float

def keyK : ByteArray := ⟨#[107]⟩
def q19 : Rq := ⟨2, 1, 5, keyK, 0, 0⟩
def msg19 : Mg := ⟨8, 0, 0, 0, q19, 0, 4619567317775286272, ⟨#[]⟩, [], [], [], []⟩
def st19a : Cst := askS (cst0 2 0 [0, 1, 2, 3]) 5 keyK 0 0
def st19b : Cst := handleS st19a 0 msg19
def st19c : Cst := handleS st19b 0 msg19
def st19d : Cst := handleS st19c 3 msg19
theorem st19_ask : askE (cst0 2 0 [0, 1, 2, 3]) 5 keyK 0 0 = 0 := by kernel_rfl
theorem st19_w : wtB st19c = true := by kernel_rfl
theorem st19_q : st19c.q = q19 := by kernel_rfl
theorem st19_ac : st19d.ac.length = 1 := by kernel_rfl
theorem st19_rs : st19d.rs = [(0, 4619567317775286272)] := by kernel_rfl
theorem st19_hs : st19a.hs = 0 ∧ st19b.hs = 1 ∧ st19c.hs = 1 := ⟨by kernel_rfl, by kernel_rfl, by kernel_rfl⟩
set_option maxHeartbeats 1000000 in
theorem four19_any (w : World) : Calls Try.prog 21 #[] w fun r w' => ∃ b, r = .returned (.agg #[.int .i64 0, .slice (some ⟨b, 0, none⟩) 4 4]) ∧ SlAt Sh.int w' (some ⟨b, 0, none⟩) 4 4 [0, 1, 2, 3] ∧ Below w.heap.size w w' := by
  go_enter Try.func21, Try.ntmps21
  go_wp2_with fail
  have k1 := blk_alloc w (.cells #[.int .i64 0, .slice (some ⟨w.heap.size + 1, 0, none⟩) 4 4] 24)
  have b2 := below_alloc (w.alloc (.cells #[.int .i64 0, .slice (some ⟨w.heap.size + 1, 0, none⟩) 4 4] 24)) (.cells #[.int .i64 0, .int .i64 1, .int .i64 2, .int .i64 3] 3)
  have k2 := blk_alloc (w.alloc (.cells #[.int .i64 0, .slice (some ⟨w.heap.size + 1, 0, none⟩) 4 4] 24)) (.cells #[.int .i64 0, .int .i64 1, .int .i64 2, .int .i64 3] 3)
  have k3 := blk_below k1 b2
  rw [World.size_alloc] at k2
  have B2 := bthen (below_alloc w _) b2
  generalize World.alloc (World.alloc _ _) _ = w2 at *
  have x0 : w2.cell? ⟨w.heap.size, 0, none⟩ = some (.int .i64 0) := by rw [blk_cell k3]; rfl
  have x1 : w2.cell? ⟨w.heap.size, 1, none⟩ = some (.slice (some ⟨w.heap.size + 1, 0, none⟩) 4 4) := by rw [blk_cell k3]; rfl
  refine bodyPost_ret (v := .agg #[.int .i64 0, .slice (some ⟨w.heap.size + 1, 0, none⟩) 4 4]) (by simp [results, Try.results21, go_sem, x0, x1]) rfl ⟨w.heap.size + 1, rfl, ?_, B2⟩
  refine ⟨rfl, Nat.le_refl _, by decide, by decide, fun h => (by cases h), fun i y hy => ⟨w.heap.size + 1, 0, [.int .i64 y], rfl, ?_, fun j v hv => ?_⟩⟩
  · have hi : i < 4 := (List.getElem?_eq_some_iff.1 hy).1
    obtain rfl | rfl | rfl | rfl : i = 0 ∨ i = 1 ∨ i = 2 ∨ i = 3 := by omega
    all_goals (injection hy with hy; subst hy; exact ⟨rfl, by simp [i64]⟩)
  · have hj : j = 0 := by have := (List.getElem?_eq_some_iff.1 hv).1; simp at this; omega
    subst hj
    injection hv with hv; subst hv
    have hi : i < 4 := (List.getElem?_eq_some_iff.1 hy).1
    obtain rfl | rfl | rfl | rfl : i = 0 ∨ i = 1 ∨ i = 2 ∨ i = 3 := by omega
    all_goals (injection hy with hy; subst hy; rw [blk_cell k2]; rfl)

set_option maxHeartbeats 1000000 in
theorem get19_any (w : World) : Calls Try.prog 22 #[.int .i64 1] w fun r w' => r = .returned (.agg #[.int .i64 2, .int .i64 1, .int .i64 5, .string keyK, .float .f64 0, .int .i64 0]) ∧ Below w.heap.size w w' := by
  have k1 := blk_alloc w (.cells #[.int .i64 2, .int .i64 1, .int .i64 5, .string keyK, .float .f64 0, .int .i64 0] 35)
  have hb := below_alloc w (.cells #[.int .i64 2, .int .i64 1, .int .i64 5, .string keyK, .float .f64 0, .int .i64 0] 35)
  have x0 : (w.alloc (.cells #[.int .i64 2, .int .i64 1, .int .i64 5, .string ⟨#[107]⟩, .float .f64 0, .int .i64 0] 35)).cell? ⟨w.heap.size, 0, none⟩ = some (.int .i64 2) := by rw [blk_cell (blk_alloc _ _)]; rfl
  have x1 : (w.alloc (.cells #[.int .i64 2, .int .i64 1, .int .i64 5, .string ⟨#[107]⟩, .float .f64 0, .int .i64 0] 35)).cell? ⟨w.heap.size, 1, none⟩ = some (.int .i64 1) := by rw [blk_cell (blk_alloc _ _)]; rfl
  have x2 : (w.alloc (.cells #[.int .i64 2, .int .i64 1, .int .i64 5, .string ⟨#[107]⟩, .float .f64 0, .int .i64 0] 35)).cell? ⟨w.heap.size, 2, none⟩ = some (.int .i64 5) := by rw [blk_cell (blk_alloc _ _)]; rfl
  have x3 : (w.alloc (.cells #[.int .i64 2, .int .i64 1, .int .i64 5, .string ⟨#[107]⟩, .float .f64 0, .int .i64 0] 35)).cell? ⟨w.heap.size, 3, none⟩ = some (.string ⟨#[107]⟩) := by rw [blk_cell (blk_alloc _ _)]; rfl
  have x4 : (w.alloc (.cells #[.int .i64 2, .int .i64 1, .int .i64 5, .string ⟨#[107]⟩, .float .f64 0, .int .i64 0] 35)).cell? ⟨w.heap.size, 4, none⟩ = some (.float .f64 0) := by rw [blk_cell (blk_alloc _ _)]; rfl
  have x5 : (w.alloc (.cells #[.int .i64 2, .int .i64 1, .int .i64 5, .string ⟨#[107]⟩, .float .f64 0, .int .i64 0] 35)).cell? ⟨w.heap.size, 5, none⟩ = some (.int .i64 0) := by rw [blk_cell (blk_alloc _ _)]; rfl
  go_enter Try.func22, Try.ntmps22
  go_wp2_with fail
  exact bodyPost_ret (v := .agg #[.int .i64 2, .int .i64 1, .int .i64 5, .string ⟨#[107]⟩, .float .f64 0, .int .i64 0]) (by simp [results, Try.results22, go_sem, x0, x1, x2, x3, x4, x5]) rfl ⟨rfl, hb⟩
theorem alloc_msg19 (ρ : Operand → Value) (o : Oper) (ho : o.op = .alloc 50) (w : World) : (execOp ρ o).run Try.prog w = .ok (.value (.pointer (some ⟨w.heap.size, 0, none⟩))) (w.alloc (.cells zeroMg.toArray 50 (0, 0))) := by
  rw [zeroMg_row]
  simp only [execOp, ho]
  go_simp
def cs19 : List Value := mgCs msg19 none 0 0 none 0 0 none 0 0 none 0 0
theorem msg19_in (w : World) : MsgIn w msg19 none 0 0 none 0 0 none 0 0 none 0 0 :=
  ⟨⟨by decide, by decide⟩, z64, z64, z64, ⟨⟨by decide, by decide⟩, ⟨by decide, by decide⟩, ⟨by decide, by decide⟩, z64, (show (0 : Nat) < 18446744073709551616 by decide), (show keyK.size ≤ 140737488351232 by decide)⟩, z64, (show (4619567317775286272 : Nat) < 18446744073709551616 by decide), (show (⟨#[]⟩ : ByteArray).size ≤ 140737488351232 by decide), sl_nil, sl_nil, sl_nil, sl_nil⟩
theorem rsl_nil {α : Type} {S : Sh α} {X : Nat → Prop} {w : World} : RSl S X w none 0 0 [] := ⟨sl_nil, fun i y hy => by simp at hy⟩
set_option maxHeartbeats 4000000 in
theorem lives19_any (w : World) : Calls Try.prog 5 #[] w fun e w' => e = .returned (.bool true) ∧ Below w.heap.size w w' := by
  have CF := Lib.hid (four19_any w)
  have CG := Lib.hid get19_any
  go_enter Try.func5, Try.ntmps5
  go_wp2_with fail
  refine CF.out.mono ?_
  rintro r w1 ⟨fb, rfl, hI, hb1⟩
  have CN := Lib.hid (cnew_any 2 0 (some ⟨fb, 0, none⟩) 4 4 [0, 1, 2, 3] w1 (ints_of_sl hI) (fun h => by cases h) (by decide) z64)
  have B1 := Lib.hid hb1
  clear hI hb1
  go_wp2_with fail
  refine CN.out.mono ?_
  rintro r w2 ⟨hb2, hh⟩
  rcases hh with ⟨p, Z, rfl, hc, -⟩ | ⟨hno, -⟩
  · have HC2 := Lib.hid hc
    have B2 := Lib.hid (bthen B1.out hb2)
    have HW := Lib.hid (Nat.le_trans B1.out.size (Nat.le_refl w1.heap.size))
    have CA := Lib.hid (fun (wa : World) (hb : Below w2.heap.size w2 wa) => ask_any wa (hc.old hb) 0 [0, 1, 2, 3] rfl 5 keyK 0 0 ⟨by decide, by decide⟩ z64 (by decide) (by decide))
    have S12 := Lib.hid hb2.size
    clear hb2 hc CN
    go_wp2_with fail
    refine (CG.out w2).mono ?_
    rintro r w3 ⟨rfl, hb3⟩
    have hfl : ∀ (wa : World), (Instr.field 35 (.agg #[.int .i64 2, .int .i64 1, .int .i64 5, .string keyK, .float .f64 0, .int .i64 0]) 2).run Try.prog wa = .ok (.agg #[.int .i64 5, .string keyK, .float .f64 0, .int .i64 0]) wa := fun wa => by kernel_rfl
    have B3 := Lib.hid (bthen B2.out hb3)
    have C3 := Lib.hid (CA.out w3 hb3)
    have S23 := Lib.hid hb3.size
    clear hb3 CA
    go_wp2_with fail
    refine C3.out.mono ?_
    rintro r w4 hA
    rcases hA with ⟨he, -⟩ | ⟨-, ⟨a4, c4, hr⟩, hk4, Z4, hz4, hc4⟩
    · exact absurd st19_ask he
    · have hr : r = .returned (.tuple #[.slice a4 4 c4, .int .i64 0]) := hr
      subst hr
      have hge : ∀ k, Z k → w.heap.size ≤ k := fun k hk => Nat.le_trans HW.out (HC2.out.lt k hk).1
      have B4 := Lib.hid (hk4.below B3.out hge)
      have HC4 := Lib.hid (show Cli Z4 w4 w1.heap.size p st19a from hc4)
      have hge4 : ∀ k, Z4 k → w.heap.size ≤ k := fun k hk => Nat.le_trans HW.out (HC4.out.lt k hk).1
      have HG4 := Lib.hid hge4
      have S14 := Lib.hid (show w1.heap.size ≤ w4.heap.size from Nat.le_trans S12.out (Nat.le_trans S23.out hk4.size))
      clear hk4 hz4 hc4 hge hge4 hfl
      go_wp2_with fail
      refine (CG.out w4).mono ?_
      rintro r w5 ⟨rfl, hb5⟩
      have B5 := Lib.hid (bthen B4.out hb5)
      have HC5 := Lib.hid (HC4.out.old hb5)
      have S15 := Lib.hid (Nat.le_trans S14.out hb5.size)
      clear hb5
      rename_i hK
      refine hK _ _ ?_
      clear hK
      refine ops_val rfl (w' := w5) (v := .agg #[.int .i64 0, .float .f64 4619567317775286272]) (by kernel_rfl) ?_
      simp only [Act.put, List.setIfInBounds_toArray, List.set_cons_succ, List.set_cons_zero]
      refine ops_val rfl (w' := w5) (v := .agg cs19.toArray) (by kernel_rfl) ?_
      simp only [Act.put, List.setIfInBounds_toArray, List.set_cons_succ, List.set_cons_zero]
      refine ops_made 50 zeroMg rfl rfl (.tmp 5) (.tmp 28) (fun ρ w => alloc_msg19 ρ _ rfl w) rfl cs19 rfl (by kernel_rfl) (by kernel_rfl) rfl rfl fun w6 b6 k6 z6 => ?_
      simp only [Act.put, List.setIfInBounds_toArray, List.set_cons_succ, List.set_cons_zero]
      have B6 := Lib.hid (bthen B5.out b6)
      have HC6 := Lib.hid (HC5.out.old b6)
      have K6 := Lib.hid k6
      have S16 := Lib.hid (Nat.le_trans S15.out b6.size)
      have N6 := Lib.hid (show ¬ Z4 w5.heap.size from fun hz => by have := (HC5.out.lt _ hz).2; omega)
      generalize hmb : w5.heap.size = mb at *
      have hmi : (Try.prog.info? 50).map (·.size) = some cs19.length := by show _ = some 17; kernel_rfl
      have HMI := Lib.hid hmi
      have HLD := Lib.hid (show ∀ (wa : World), wa.heap[mb]? = some (.cells cs19.toArray 50 (0, 0)) → ∀ (j : Nat) (u : Value), cs19[j]? = some u → wa.cell? ⟨mb, 0 + j, none⟩ = some u from fun wa hb j u hu => by rw [Nat.zero_add, blk_cell hb]; simpa using hu)
      have CH := Lib.hid (show ∀ (s : Cst) (Z : Nat → Prop) (wa : World) (fr : Int), Cli Z wa w1.heap.size p s → w1.heap.size ≤ wa.heap.size → i64 fr → s.hs < 70368744177664 → Calls Try.prog 18 #[.pointer (some ⟨p, 0, none⟩), .int .i64 1, .int .i64 fr, .agg cs19.toArray] wa (HandlePost Z w1.heap.size p s (handleS s fr msg19) wa) from
        fun s Z wa fr hc hw hf hh => handle_any wa hc hw 1 fr msg19 none 0 0 none 0 0 none 0 0 none 0 0 (msg19_in wa) rsl_nil hf hh)
      clear b6 k6 z6 hmi hmb B2 B3 CF
      generalize cs19 = ms at *
      go_upto_region 6 with (fail)
      refine wp_region_lit ?_
      refine wpList_val (w' := w6) rfl (v := .pointer (some ⟨p, 0, none⟩)) (by simp only [execOp]; go_simp) ?_
      simp only [Act.put, List.setIfInBounds_toArray, List.set_cons_succ, List.set_cons_zero]
      refine wpList_load_mid rfl 50 (.tmp 5) rfl mb 0 rfl ms _ (HLD.out w6 K6.out) Try.underlying50 rfl HMI.out ?_
      simp only [Act.put, List.setIfInBounds_toArray, List.set_cons_succ, List.set_cons_zero]
      go_wp2_with fail
      refine (CH.out st19a Z4 w6 0 HC6.out S16.out z64 (by rw [st19_hs.1]; decide)).mono ?_
      rintro r w7 ⟨rfl, hk7, Z7, hz7, hc7⟩
      have HC7 := Lib.hid (show Cli Z7 w7 w1.heap.size p st19b from hc7)
      have K7 := Lib.hid ((hk7.block mb (blk_lt K6.out) N6.out).trans K6.out)
      have N7 := Lib.hid (show ¬ Z7 mb from fun h => (hz7 mb h).elim N6.out (fun h => by have := blk_lt K6.out; omega))
      have B7 := Lib.hid (hk7.below B6.out HG4.out)
      have S17 := Lib.hid (Nat.le_trans S16.out hk7.size)
      have HG7 := Lib.hid (show ∀ k, Z7 k → w.heap.size ≤ k from fun k hk => Nat.le_trans HW.out (HC7.out.lt k hk).1)
      clear hk7 hz7 hc7 HC6 K6 N6 B6 S16 HG4
      go_upto_region 7 with (fail)
      refine wp_region_lit ?_
      refine wpList_val (w' := w7) rfl (v := .pointer (some ⟨p, 0, none⟩)) (by simp only [execOp]; go_simp) ?_
      simp only [Act.put, List.setIfInBounds_toArray, List.set_cons_succ, List.set_cons_zero]
      refine wpList_load_mid rfl 50 (.tmp 5) rfl mb 0 rfl ms _ (HLD.out w7 K7.out) Try.underlying50 rfl HMI.out ?_
      simp only [Act.put, List.setIfInBounds_toArray, List.set_cons_succ, List.set_cons_zero]
      go_wp2_with fail
      refine (CH.out st19b Z7 w7 0 HC7.out S17.out z64 (by rw [st19_hs.2.1]; decide)).mono ?_
      rintro r w8 ⟨rfl, hk8, Z8, hz8, hc8⟩
      have HC8 := Lib.hid (show Cli Z8 w8 w1.heap.size p st19c from hc8)
      have K8 := Lib.hid ((hk8.block mb (blk_lt K7.out) N7.out).trans K7.out)
      have N8 := Lib.hid (show ¬ Z8 mb from fun h => (hz8 mb h).elim N7.out (fun h => by have := blk_lt K7.out; omega))
      have B8 := Lib.hid (hk8.below B7.out HG7.out)
      have S18 := Lib.hid (Nat.le_trans S17.out hk8.size)
      have HG8 := Lib.hid (show ∀ k, Z8 k → w.heap.size ≤ k from fun k hk => Nat.le_trans HW.out (HC8.out.lt k hk).1)
      clear hk8 hz8 hc8 HC7 K7 N7 B7 S17 HG7
      have CO := Lib.hid (open_any w8 HC8.out)
      rw [st19_w, st19_q, show q19.v = .agg #[.int .i64 2, .int .i64 1, .int .i64 5, .string keyK, .float .f64 0, .int .i64 0] from rfl] at CO
      go_wp2_with fail
      refine CO.out.mono ?_
      rintro r w9 ⟨rfl, hb9⟩
      have HC9 := Lib.hid (HC8.out.old hb9)
      have K9 := Lib.hid (blk_below K8.out hb9)
      have N9 := N8
      have B9 := Lib.hid (bthen B8.out hb9)
      have S19 := Lib.hid (Nat.le_trans S18.out hb9.size)
      clear hb9 HC8 K8 B8 S18 CO
      go_upto_region 9 with (fail)
      have hba := below_alloc w9 (.cells #[.int .i64 2, .int .i64 1, .int .i64 5, .string keyK, .float .f64 0, .int .i64 0] 35 (0, 0))
      generalize w9.alloc (.cells #[.int .i64 2, .int .i64 1, .int .i64 5, .string keyK, .float .f64 0, .int .i64 0] 35 (0, 0)) = w10 at *
      have HC10 := Lib.hid (HC9.out.old hba)
      have K10 := Lib.hid (blk_below K9.out hba)
      have B10 := Lib.hid (bthen B9.out hba)
      have S110 := Lib.hid (Nat.le_trans S19.out hba.size)
      clear hba HC9 K9 B9 S19
      refine wp_region_lit ?_
      refine wpList_val (w' := w10) rfl (v := .pointer (some ⟨p, 0, none⟩)) (by simp only [execOp]; go_simp) ?_
      simp only [Act.put, List.setIfInBounds_toArray, List.set_cons_succ, List.set_cons_zero]
      refine wpList_load_mid rfl 50 (.tmp 5) rfl mb 0 rfl ms _ (HLD.out w10 K10.out) Try.underlying50 rfl HMI.out ?_
      simp only [Act.put, List.setIfInBounds_toArray, List.set_cons_succ, List.set_cons_zero]
      go_wp2_with fail
      refine (CH.out st19c Z8 w10 3 HC10.out S110.out ⟨by decide, by decide⟩ (by rw [st19_hs.2.2]; decide)).mono ?_
      rintro r w11 ⟨rfl, hk11, Z11, hz11, hc11⟩
      have HC11 := Lib.hid (show Cli Z11 w11 w1.heap.size p st19d from hc11)
      have B11 := Lib.hid (hk11.below B10.out HG8.out)
      clear hk11 hz11 hc11 HC10 K10 N9 B10 S110 HG8
      have CAc := Lib.hid (accepted_any w11 HC11.out)
      rw [st19_ac] at CAc
      go_wp2_with fail
      refine CAc.out.mono ?_
      rintro r w12 ⟨v12, rfl, ho12, hb12⟩
      obtain ⟨a12, c12, rfl⟩ := owns_form ho12
      have HC12 := Lib.hid (HC11.out.old hb12)
      have B12 := Lib.hid (bthen B11.out hb12)
      have CRs := Lib.hid (results_any w12 HC12.out)
      rw [st19_rs] at CRs
      clear ho12 hb12 CAc HC11 B11
      go_wp2_with fail
      refine CRs.out.mono ?_
      rintro r w13 ⟨v13, rfl, ho13, hb13⟩
      have hx : ressV [((0 : Int), (4619567317775286272 : Nat))] = [.int .i64 0, .float .f64 4619567317775286272] := rfl
      rw [hx] at ho13
      rcases ho13.2 with ⟨-, h0⟩ | ⟨g, cap, cur, hv, hB, hg, hnc, hcm, _, _⟩
      · cases h0
      · subst hv
        have x1 : w13.cell? ⟨g, 1, none⟩ = some (.float .f64 4619567317775286272) := by
          have := ho13.cells (g := g) rfl 1 _ rfl
          rw [Addr.add_lit] at this
          exact this
        have B13 := Lib.hid (bthen B12.out hb13)
        clear ho13 hb13 hB hg hnc hcm HC12 B12 CRs hx
        go_wp2_with fail
        rw [show (FloatKind.f64.format.order 4619567317775286272 4619567317775286272 == some Ordering.eq) = true by kernel_rfl]
        go_ret
        exact ⟨rfl, B13.out⟩
  · exact absurd ⟨by decide +kernel, rfl, by decide, by decide⟩ hno
end Go.Proofs.Ytijeieamodjgbab

namespace Go.Proofs.Ytijeieamodjgbab
set_option maxRecDepth 100000
open Go.RowKit Go.Maps
set_option linter.unusedVariables false
set_option linter.unusedSimpArgs false

def saidY (y : St19) (fr : Int) (q : Rq) (ep : Int) (c : Int) (r : Nat) : Bool := decide (kind19 y.kd = 1) && decide (y.fr = fr) && decide (y.m.k = 8) && decide (y.m.e = ep) && sameQ y.m.q q && sameResB y.m.c y.m.r c r
def sentB (L : List St19) (fr : Int) (q : Rq) (ep : Int) (c : Int) (r : Nat) : Bool := L.any fun y => saidY y fr q ep c r
def SaidBy (L : List St19) (i0 j : Nat) (q : Rq) (ep fr : Int) (t : ByteArray) : Prop := ∃ i y, i0 ≤ i ∧ i < j ∧ L[i]? = some y ∧ kind19 y.kd = 1 ∧ y.fr = fr ∧ y.m.k = 8 ∧ y.m.e = ep ∧ sameQ y.m.q q = true ∧ resText y.m.c y.m.r = t ∧ (0 ≤ y.m.c ∧ y.m.c ≤ 8) ∧ y.m.r < 18446744073709551616
def BelI (L : List St19) (i0 j : Nat) (s : Cst) : Prop := i0 ≤ j ∧ (wtB s = true → ∀ c ∈ s.cm, SaidBy L i0 j s.q c.1.1 c.1.2 c.2)
theorem SaidBy.mono {L : List St19} {i0 j : Nat} {q : Rq} {ep fr : Int} {t : ByteArray} (h : SaidBy L i0 j q ep fr t) : SaidBy L i0 (j + 1) q ep fr t := by
  obtain ⟨i, y, h1, h2, h3⟩ := h
  exact ⟨i, y, h1, by omega, h3⟩
theorem cHas_mem {C : Came} {k : Int × Int} (h : cHas C k = true) : (k, cGet C k) ∈ C := by
  unfold cHas at h
  unfold cGet
  cases hf : C.find? (fun c => decide (c.1 = k)) with
  | none => rw [hf] at h; cases h
  | some c =>
    have h1 := List.mem_of_find?_eq_some hf
    have h2 : c.1 = k := by simpa using List.find?_some hf
    show (k, c.2) ∈ C
    rw [← h2]
    exact h1
theorem err_code {m : Mg} (h : mgErr m = 0) (hk : m.k = 8) : 0 ≤ m.c ∧ m.c ≤ 8 := by
  unfold mgErr at h
  split at h
  · cases h
  · split at h
    · cases h
    · rename_i hf
      have hf : fitsP m = true := by simpa using hf
      unfold fitsP at hf
      have ho : okM m = true := by
        rw [Bool.and_eq_true] at hf
        exact hf.2
      unfold okM at ho
      rw [hk] at ho
      simp only [show ¬ ((8 : Int) = 1) by decide, show ¬ ((8 : Int) = 2) by decide, show ¬ ((8 : Int) = 3) by decide, show ¬ ((8 : Int) = 4) by decide, show ¬ ((8 : Int) = 5) by decide, show ¬ ((8 : Int) = 6) by decide, show ¬ ((8 : Int) = 7) by decide, if_false, if_true, Bool.and_eq_true, decide_eq_true_eq] at ho
      exact ⟨ho.1.1.2, ho.1.2⟩
theorem res_alike {c c' : Int} {b b' : Nat} (hc : 0 ≤ c ∧ c ≤ 8) (hc' : 0 ≤ c' ∧ c' ≤ 8) (hb : b < 18446744073709551616) (hb' : b' < 18446744073709551616) (h : resText c b = resText c' b') : sameResB c b c' b' = true := by
  unfold resText at h
  rw [if_pos hc, if_pos hc'] at h
  have h1 : resQ c b = resQ c' b' := by
    have := congrArg (fun x : ByteArray => x.data.toList) h
    simpa using this
  obtain ⟨-, g2, g3⟩ := res_back hc hb
  obtain ⟨-, g5, g6⟩ := res_back hc' hb'
  unfold sameResB
  rw [← g2, ← g3, ← g5, ← g6, h1]
  simp
/-- What stands where a request is accepted. -/
structure Took (L : List St19) (i0 j : Nat) (s : Cst) (y : St19) : Prop where
  kd : kind19 y.kd = 1
  wt : wtB s = true
  eq : doesS s y = takenS (cameS s y.fr y.m.e (resText y.m.c y.m.r)) y.m.c y.m.r
  known : (confAt s y.m.e).isSome = true
  weak : weakP ((confL s y.m.e).2.length : Int) ≤ (alikeN (s.cm ++ [((y.m.e, y.fr), resText y.m.c y.m.r)]) y.m.e (confL s y.m.e).2 (resText y.m.c y.m.r) : Int)
  same : sameQ y.m.q s.q = true
  code : 0 ≤ y.m.c ∧ y.m.c ≤ 8
  said : ∀ c ∈ s.cm ++ [((y.m.e, y.fr), resText y.m.c y.m.r)], SaidBy L i0 (j + 1) s.q c.1.1 c.1.2 c.2
theorem reply_cases (s : Cst) (fr ep : Int) (rq : Rq) (rc : Int) (rb : Nat) : replyS s fr ep rq rc rb = s ∨ (replyG s fr ep rq = true ∧ (replyS s fr ep rq rc rb = cameS s fr ep (resText rc rb) ∨
    (replyS s fr ep rq rc rb = takenS (cameS s fr ep (resText rc rb)) rc rb ∧ weakP ((confL s ep).2.length : Int) ≤ (alikeN (s.cm ++ [((ep, fr), resText rc rb)]) ep (confL s ep).2 (resText rc rb) : Int)))) := by
  unfold replyS
  split
  · exact .inl rfl
  · rename_i hG
    split
    · exact .inl rfl
    · refine .inr ⟨by simpa using hG, ?_⟩
      split
      · exact .inr ⟨rfl, by assumption⟩
      · exact .inl rfl
theorem bel_step {L : List St19} {i0 j : Nat} {s : Cst} {y : St19} (h : BelI L i0 j s) (hy : L[j]? = some y) (hr : y.m.r < 18446744073709551616) :
    BelI L (if (wtB (doesS s y) && !wtB s) = true then j else i0) (j + 1) (doesS s y) ∧ ((doesS s y).ac.length = s.ac.length ∨ Took L i0 j s y) := by
  have same : ∀ s' : Cst, s'.q = s.q → s'.cm = s.cm → s'.ac.length = s.ac.length → doesS s y = s' → BelI L (if (wtB (doesS s y) && !wtB s) = true then j else i0) (j + 1) (doesS s y) ∧ ((doesS s y).ac.length = s.ac.length ∨ Took L i0 j s y) := by
    intro s' e1 e2 e3 e4
    have hw : wtB s' = wtB s := by unfold wtB; rw [e1]
    rw [e4, hw]
    have hf : (wtB s && !wtB s) = false := by simp
    rw [hf, if_neg (by decide)]
    refine ⟨⟨Nat.le_succ_of_le h.1, fun hwt c hc => ?_⟩, .inl e3⟩
    rw [e1]
    rw [e2] at hc
    exact (h.2 (hw ▸ hwt) c hc).mono
  by_cases h0 : kind19 y.kd = 0
  · have hd : doesS s y = if askE s y.q.kind y.q.key y.q.b y.q.id = 0 then askS s y.q.kind y.q.key y.q.b y.q.id else s := by unfold doesS; rw [if_pos h0]
    by_cases ha : askE s y.q.kind y.q.key y.q.b y.q.id = 0
    · rw [if_pos ha] at hd
      refine ⟨⟨?_, fun _ c hc => ?_⟩, .inl (by rw [hd]; rfl)⟩
      · split <;> have := h.1 <;> omega
      · rw [hd] at hc
        cases hc
    · rw [if_neg ha] at hd
      exact same s rfl rfl rfl hd
  · by_cases h1 : kind19 y.kd = 1
    · have hd : doesS s y = handleS s y.fr y.m := by unfold doesS; rw [if_neg h0, if_pos h1]
      by_cases he : mgErr y.m = 0
      · by_cases h8 : y.m.k = 8
        · have hd2 : doesS s y = replyS s y.fr y.m.e y.m.q y.m.c y.m.r := by rw [hd]; unfold handleS; rw [if_neg (by simp [he]), if_pos h8]
          have hcode := err_code he h8
          rcases reply_cases s y.fr y.m.e y.m.q y.m.c y.m.r with hx | ⟨hG, hx⟩
          · exact same s rfl rfl rfl (hd2.trans hx)
          · unfold replyG at hG
            simp only [Bool.and_eq_true] at hG
            obtain ⟨⟨⟨g1, g2⟩, g3⟩, g4⟩ := hG
            have hsaid : ∀ c ∈ s.cm ++ [((y.m.e, y.fr), resText y.m.c y.m.r)], SaidBy L i0 (j + 1) s.q c.1.1 c.1.2 c.2 := by
              intro c hc
              rcases List.mem_append.1 hc with hc | hc
              · exact (h.2 g1 c hc).mono
              · rw [List.mem_singleton] at hc
                subst hc
                exact ⟨j, y, h.1, Nat.lt_succ_self _, hy, h1, rfl, h8, rfl, g4, rfl, hcode, hr⟩
            rcases hx with hx | ⟨hx, hwk⟩
            · have hw : wtB (doesS s y) = wtB s := by rw [hd2, hx]; rfl
              rw [hw, g1, if_neg (by decide)]
              refine ⟨⟨Nat.le_succ_of_le h.1, fun _ c hc => ?_⟩, .inl (by rw [hd2, hx]; rfl)⟩
              rw [hd2, hx] at hc ⊢
              exact hsaid c hc
            · have hw : wtB (doesS s y) = false := by rw [hd2, hx]; rfl
              rw [hw, if_neg (by simp)]
              exact ⟨⟨Nat.le_succ_of_le h.1, fun hf => by rw [hw] at hf; cases hf⟩, .inr ⟨h1, g1, hd2.trans hx, g2, hwk, g4, hcode, hsaid⟩⟩
        · by_cases h10 : y.m.k = 10
          · have hd2 : doesS s y = stateS s y.m.lk := by rw [hd]; unfold handleS; rw [if_neg (by simp [he]), if_neg h8, if_pos h10]
            refine same (stateS s y.m.lk) ?_ ?_ ?_ hd2 <;> (unfold stateS; split <;> rfl)
          · exact same s rfl rfl rfl (by rw [hd]; unfold handleS; rw [if_neg (by simp [he]), if_neg h8, if_neg h10])
      · exact same s rfl rfl rfl (by rw [hd]; unfold handleS; rw [if_pos he])
    · exact same s rfl rfl rfl (by unfold doesS; rw [if_neg h0, if_neg h1])
theorem said_sent {L : List St19} {i0 j : Nat} {q : Rq} {ep fr : Int} {c : Int} {r : Nat} (h : SaidBy L i0 (j + 1) q ep fr (resText c r)) (hc : 0 ≤ c ∧ c ≤ 8) (hr : r < 18446744073709551616) : sentB ((L.drop i0).take (j + 1 - i0)) fr q ep c r = true := by
  obtain ⟨i, y, h1, h2, h3, h4, h5, h6, h7, h8, h9, h10, h11⟩ := h
  unfold sentB
  rw [List.any_eq_true]
  refine ⟨y, ?_, ?_⟩
  · apply List.mem_of_getElem? (i := i - i0)
    rw [List.getElem?_take_of_lt (by omega), List.getElem?_drop]
    rw [show i0 + (i - i0) = i by omega]
    exact h3
  · unfold saidY
    simp only [Bool.and_eq_true, decide_eq_true_eq]
    exact ⟨⟨⟨⟨⟨h4, h5⟩, h6⟩, h7⟩, h8⟩, res_alike h10 hc h11 hr h9⟩
def sentN (L : List St19) (l : List Int) (q : Rq) (ep c : Int) (r : Nat) : Nat := (l.filter fun id => sentB L id q ep c r).length
theorem sent_step {L : List St19} {l : List Int} {q : Rq} {ep c : Int} {r k : Nat} {x : Int} (h : l.take (k + 1) = l.take k ++ [x]) : sentN L (l.take (k + 1)) q ep c r = sentN L (l.take k) q ep c r + (if sentB L x q ep c r = true then 1 else 0) := by
  unfold sentN
  rw [h, List.filter_append, List.length_append]
  congr 1
  simp only [List.filter_cons, List.filter_nil]
  split <;> simp_all
theorem sentN_le (L : List St19) (l : List Int) (q : Rq) (ep c : Int) (r : Nat) : sentN L l q ep c r ≤ l.length := List.length_filter_le _ _
theorem Took.count {L : List St19} {i0 j : Nat} {s : Cst} {y : St19} (h : Took L i0 j s y) (hr : y.m.r < 18446744073709551616) : weakP ((confL s y.m.e).2.length : Int) ≤ (sentN ((L.drop i0).take (j + 1 - i0)) (confL s y.m.e).2 s.q y.m.e y.m.c y.m.r : Int) := by
  have hle : alikeN (s.cm ++ [((y.m.e, y.fr), resText y.m.c y.m.r)]) y.m.e (confL s y.m.e).2 (resText y.m.c y.m.r) ≤ sentN ((L.drop i0).take (j + 1 - i0)) (confL s y.m.e).2 s.q y.m.e y.m.c y.m.r := by
    unfold alikeN sentN
    rw [← List.countP_eq_length_filter, ← List.countP_eq_length_filter]
    refine List.countP_mono_left (fun id _ hid => ?_)
    rw [Bool.and_eq_true, decide_eq_true_eq] at hid
    have := h.said _ (cHas_mem hid.1)
    rw [hid.2] at this
    exact said_sent this h.code hr
  have := h.weak
  omega
/-- The cells of the accepted. -/
theorem ents_row {l : List (Int × Rq)} {k : Nat} {x : Int × Rq} (hk : l[k]? = some x) : ∀ (j : Nat) (u : Value), (Value.int .i64 x.1 :: x.2.cs)[j]? = some u → (entsV l)[k * 7 + j]? = some u := by
  induction l generalizing k with
  | nil => simp at hk
  | cons y r ih =>
    intro j u hu
    have hev : entsV (y :: r) = (Value.int .i64 y.1 :: y.2.cs) ++ entsV r := by unfold entsV; rw [List.flatMap_cons]
    have hyl : (Value.int .i64 y.1 :: y.2.cs).length = 7 := rfl
    rw [hev]
    cases k with
    | zero =>
      have hy : y = x := by simpa using hk
      subst hy
      have := (List.getElem?_eq_some_iff.1 hu).1
      rw [List.getElem?_append_left (by omega), Nat.zero_mul, Nat.zero_add]
      exact hu
    | succ k =>
      rw [List.getElem?_append_right (by rw [hyl]; omega), hyl, show (k + 1) * 7 + j - 7 = k * 7 + j by omega]
      exact ih (by simpa using hk) j u hu
theorem ents_full {w : World} {B n : Nat} {v : Value} {l : List (Int × Rq)} (h : w.ownsRow B 57 7 v n (entsV l)) (hn : n = l.length) {k : Nat} {x : Int × Rq} (hk : l[k]? = some x) :
    ∃ g c, v = .slice (some ⟨g, 0, none⟩) n c ∧ n ≤ c ∧ ∀ (j : Nat) (u : Value), (Value.int .i64 x.1 :: x.2.cs)[j]? = some u → w.cell? ⟨g, k * 7 + j, none⟩ = some u := by
  subst hn
  rcases h.2 with ⟨_, h0⟩ | ⟨g, cap, cur, rfl, hB, hg, hnc, hcm, _, _⟩
  · have := (List.getElem?_eq_some_iff.1 hk).1
    omega
  · refine ⟨g, cap, rfl, hnc, fun j u hj => ?_⟩
    have := h.cells (g := g) rfl (k * 7 + j) u (ents_row hk j u hj)
    rw [Addr.add_lit] at this
    simpa using this
theorem ress_full {w : World} {B n : Nat} {v : Value} {l : List (Int × Nat)} (h : w.ownsRow B 45 2 v n (ressV l)) (hn : n = l.length) {k : Nat} {x : Int × Nat} (hk : l[k]? = some x) :
    ∃ g c, v = .slice (some ⟨g, 0, none⟩) n c ∧ n ≤ c ∧ w.cell? ⟨g, k * 2, none⟩ = some (.int .i64 x.1) ∧ w.cell? ⟨g, k * 2 + 1, none⟩ = some (.float .f64 x.2) := by
  subst hn
  rcases h.2 with ⟨_, h0⟩ | ⟨g, cap, cur, rfl, hB, hg, hnc, hcm, _, _⟩
  · have := (List.getElem?_eq_some_iff.1 hk).1
    omega
  · have hrow : ∀ (l : List (Int × Nat)) (k : Nat), l[k]? = some x → ∀ (j : Nat) (u : Value), [Value.int .i64 x.1, .float .f64 x.2][j]? = some u → (ressV l)[k * 2 + j]? = some u := by
      intro l
      induction l with
      | nil => intro k hk; simp at hk
      | cons y r ih =>
        intro k hk j u hu
        have hev : ressV (y :: r) = [Value.int .i64 y.1, .float .f64 y.2] ++ ressV r := by unfold ressV; rw [List.flatMap_cons]
        have hyl : [Value.int .i64 y.1, .float .f64 y.2].length = 2 := rfl
        rw [hev]
        cases k with
        | zero =>
          have hy : y = x := by simpa using hk
          subst hy
          have := (List.getElem?_eq_some_iff.1 hu).1
          rw [List.getElem?_append_left (by omega), Nat.zero_mul, Nat.zero_add]
          exact hu
        | succ k =>
          rw [List.getElem?_append_right (by rw [hyl]; omega), hyl, show (k + 1) * 2 + j - 2 = k * 2 + j by omega]
          exact ih k (by simpa using hk) j u hu
    have h0 := h.cells (g := g) rfl (k * 2) _ (hrow l k hk 0 _ rfl)
    have h1 := h.cells (g := g) rfl (k * 2 + 1) _ (hrow l k hk 1 _ rfl)
    rw [Addr.add_lit] at h0 h1
    exact ⟨g, cap, rfl, hnc, by simpa using h0, by simpa using h1⟩
theorem sl_sub {α : Type} {S : Sh α} {w : World} {b o n c : Nat} {L : List α} (h : SlAt S w (some ⟨b, o, none⟩) n c L) {i m : Nat} (hi : i + m ≤ n) (hc : c - i ≤ 9223372036854775807) : SlAt S w (some ⟨b, o + i * S.k, none⟩) m (c - i) ((L.drop i).take m) :=
  ⟨by rw [List.length_take, List.length_drop, h.len]; omega, by have := h.cap; omega, hc, Nat.le_trans (Nat.mul_le_mul_right _ (by omega)) h.bytes, fun hn => (by cases hn), fun k y hy => by
    have hk : k < m := by
      have := (List.getElem?_eq_some_iff.1 hy).1
      rw [List.length_take] at this; omega
    rw [List.getElem?_take_of_lt hk, List.getElem?_drop] at hy
    obtain ⟨b', o', cs, ha, hE, hcc⟩ := h.cell (i + k) y hy
    injection ha with ha
    injection ha with h1 h2 h3
    subst h1 h2
    refine ⟨b, o + i * S.k, cs, rfl, hE, fun j v hv => ?_⟩
    have := hcc j v hv
    rw [show o + i * S.k + k * S.k + j = o + (i + k) * S.k + j by rw [Nat.add_mul]; omega]
    exact this⟩
end Go.Proofs.Ytijeieamodjgbab

namespace Go.Proofs.Ytijeieamodjgbab
set_option maxRecDepth 100000
open Go.RowKit Go.Maps Go.Deep
set_option linter.unusedVariables false
set_option linter.unusedSimpArgs false
attribute [local go_sem] run_store_float

theorem mgCs_len (m : Mg) (a1 : Option Addr) (n1 c1 : Nat) (a2 : Option Addr) (n2 c2 : Nat) (a3 : Option Addr) (n3 c3 : Nat) (a4 : Option Addr) (n4 c4 : Nat) : (mgCs m a1 n1 c1 a2 n2 c2 a3 n3 c3 a4 n4 c4).length = 17 := rfl
theorem mgCs_one (m : Mg) (a1 : Option Addr) (n1 c1 : Nat) (a2 : Option Addr) (n2 c2 : Nat) (a3 : Option Addr) (n3 c3 : Nat) (a4 : Option Addr) (n4 c4 : Nat) : ∀ u ∈ mgCs m a1 n1 c1 a2 n2 c2 a3 n3 c3 a4 n4 c4, u.oneCell' = true := by
  unfold mgCs; simp [Value.oneCell']
theorem sent_snoc {L : List St19} {k : Nat} {y : St19} (hy : L[k]? = some y) (fr : Int) (q : Rq) (ep c : Int) (r : Nat) : sentB (L.take (k + 1)) fr q ep c r = (sentB (L.take k) fr q ep c r || saidY y fr q ep c r) := by
  unfold sentB
  rw [List.take_add_one, hy, List.any_append]
  simp
theorem sent_all {L : List St19} {k : Nat} {y : St19} (hy : L[k]? = some y) {fr : Int} {q : Rq} {ep c : Int} {r : Nat} (h : saidY y fr q ep c r = true) : sentB L fr q ep c r = true := by
  unfold sentB
  rw [List.any_eq_true]
  exact ⟨y, List.mem_of_getElem? hy, h⟩
theorem slice19 (b o n c F m : Nat) (h1 : F ≤ m) (h2 : m ≤ c) (h3 : ¬ c = F) (w : World) : (Instr.sliceAt 25 (.slice (some ⟨b, o, none⟩) n c) (some (.int .i64 (F : Int))) (some (.int .i64 (m : Int))) none).run Try.prog w = .ok (.slice (some ⟨b, o + F * 26, none⟩) (m - F) (c - F)) w := by
  have k1 : (F : Int) ≤ (m : Int) := by omega
  have k2 : (0 : Int) ≤ (F : Int) := by omega
  have k3 : (m : Int) ≤ (c : Int) := by omega
  have k4 : (0 : Int) ≤ (m : Int) := by omega
  go_simp
theorem link_E {w : World} {e : Int} {l : List Int} {s : List Sg} {cs : List Value} (h : shLink.E w ((e, l), s) cs) : ∃ a' n' c' sa sn sc, cs = [.int .i64 e, .slice a' n' c', .slice sa sn sc] ∧ SlAt Sh.int w a' n' c' l := by
  obtain ⟨x1, x2, rfl, ⟨y1, y2, rfl, ⟨rfl, he⟩, a', n', c', rfl, hs⟩, sa, sn, sc, rfl, hss⟩ := h
  exact ⟨a', n', c', sa, sn, sc, rfl, hs⟩
set_option maxHeartbeats 8000000 in
theorem sent_any (w : World) (a : Option Addr) (n c : Nat) (L : List St19) (hs : SlAt shStep19 w a n c L) (fr : Int) (q : Rq) (hq : q.Ok) (ep rc : Int) (rb : Nat) (hrb : rb < 18446744073709551616) :
    Calls Try.prog 14 #[.slice a n c, .int .i64 fr, q.v, .int .i64 ep, .agg #[.int .i64 rc, .float .f64 rb]] w fun r w' => r = .returned (.bool (sentB L fr q ep rc rb)) ∧ Below w.heap.size w w' := by
  have hlen := hs.len
  have hmax := Nat.le_trans hs.cap hs.max
  have hbyt := hs.bytes
  have HS := Lib.hid hs
  have CSQ := Lib.hid (fun (x : Rq) (hx : x.Ok) (wa : World) => rsame_rq x q hx hq wa)
  obtain ⟨w6, hw6⟩ : ∃ u, u = (w.alloc (.cells #[.int .i64 q.c, .int .i64 q.s, .int .i64 q.kind, .string q.key, .float .f64 q.b, .int .i64 q.id] 35 (0, 0))).alloc (.cells #[.int .i64 rc, .float .f64 rb] 45 (0, 0)) := ⟨_, rfl⟩
  have b6 : Below w.heap.size w w6 := by rw [hw6]; exact bthen (below_alloc _ _) (below_alloc _ _)
  have kq : w6.heap[w.heap.size]? = some (.cells #[.int .i64 q.c, .int .i64 q.s, .int .i64 q.kind, .string q.key, .float .f64 q.b, .int .i64 q.id] 35 (0, 0)) := by rw [hw6]; exact blk_below (blk_alloc _ _) (below_alloc _ _)
  have kr : w6.heap[w.heap.size + 1]? = some (.cells #[.int .i64 rc, .float .f64 rb] 45 (0, 0)) := by
    have := blk_alloc (w.alloc (.cells #[.int .i64 q.c, .int .i64 q.s, .int .i64 q.kind, .string q.key, .float .f64 q.b, .int .i64 q.id] 35 (0, 0))) (.cells #[.int .i64 rc, .float .f64 rb] 45 (0, 0))
    rw [World.size_alloc] at this
    rw [hw6]; exact this
  have B6 := Lib.hid b6; have KQ := Lib.hid kq; have KR := Lib.hid kr
  unfold Rq.v
  clear hs hq b6 kq kr
  go_enter Try.func14, Try.ntmps14
  go_upto_region 1 with (fail)
  first | rw [← hw6] | (rw [World.size_alloc]; rw [← hw6]) | (simp only [World.size_alloc]; rw [← hw6])
  clear hw6
  go_wp2_with fail
  go_loopw [11] (fun i wr => ∃ k : Nat, k ≤ n ∧ i = .int .i64 k ∧ sentB (L.take k) fr q ep rc rb = false ∧ Hid (Below w6.heap.size w6 wr)) (fun i _ => n - (intOf i).toNat)
  case atStart => exact ⟨0, by omega, rfl, rfl, Lib.hid (Below.refl _ _)⟩
  case round =>
    obtain ⟨k, hk, rfl, hno, Hb⟩ := hrel
    by_cases hlt : k < n
    · obtain ⟨y, hy⟩ : ∃ y, L[k]? = some y := ⟨_, List.getElem?_eq_getElem (by omega)⟩
      obtain ⟨b, o, a1, n1, c1, a2, n2, c2, a3, n3, c3, a4, n4, c4, rfl, hcell, hst⟩ := step19_cells HS.out hy
      have hj0 : (0 : Int) ≤ (k : Int) := by omega
      have hj1 : (k : Int) < (n : Int) := by omega
      have hkj : IntKind.i64.wrap ((k : Int) + 1) = ((k + 1 : Nat) : Int) := IntWalk.i64_in _ (by omega)
      have hdd : decide ((k : Int) < (n : Int)) = true := by simp; omega
      have HW := Lib.hid (bthen B6.out Hb.out)
      have HLD := Lib.hid (show ∀ (wa : World), Below wr.heap.size wr wa → ∀ (i : Nat) (u : Value), (stCs y a1 n1 c1 a2 n2 c2 a3 n3 c3 a4 n4 c4)[i]? = some u → wa.cell? ⟨b, o + k * 26 + i, none⟩ = some u from fun wa hwa i u hu => below_cell (bthen HW.out hwa) (hcell i u hu))
      have HLM := Lib.hid (show ∀ (wa : World), Below wr.heap.size wr wa → ∀ (i : Nat) (u : Value), (mgCs y.m a1 n1 c1 a2 n2 c2 a3 n3 c3 a4 n4 c4)[i]? = some u → wa.cell? ⟨b, o + k * 26 + 9 + i, none⟩ = some u from fun wa hwa i u hu => by
        have := HLD.out wa hwa (i + 9) u hu
        rw [show o + k * 26 + 9 + i = o + k * 26 + (i + 9) by omega]; exact this)
      have z2 := HLD.out wr (Below.refl _ _) 2 _ rfl
      have hmi : (Try.prog.info? 52).map (·.size) = some (stCs y a1 n1 c1 a2 n2 c2 a3 n3 c3 a4 n4 c4).length := by show _ = some 26; kernel_rfl
      have hmj : (Try.prog.info? 50).map (·.size) = some (mgCs y.m a1 n1 c1 a2 n2 c2 a3 n3 c3 a4 n4 c4).length := by show _ = some 17; kernel_rfl
      have HMI := Lib.hid hmi; have HMJ := Lib.hid hmj
      have HML := Lib.hid (mgCs_len y.m a1 n1 c1 a2 n2 c2 a3 n3 c3 a4 n4 c4)
      have HMO := Lib.hid (mgCs_one y.m a1 n1 c1 a2 n2 c2 a3 n3 c3 a4 n4 c4)
      have HKD := Lib.hid (fun (wa : World) => kind19_any (stCs y a1 n1 c1 a2 n2 c2 a3 n3 c3 a4 n4 c4) y.kd rfl wa)
      have HC := Lib.hid (show ∀ (wa : World) (mb : Nat), wa.heap[mb]? = some (.cells (mgCs y.m a1 n1 c1 a2 n2 c2 a3 n3 c3 a4 n4 c4).toArray 50 (0, 0)) → wa.cell? ⟨mb, 0, none⟩ = some (.int .i64 y.m.k) ∧ wa.cell? ⟨mb, 1, none⟩ = some (.int .i64 y.m.e) ∧ wa.cell? ⟨mb, 4, none⟩ = some (.int .i64 y.m.q.c) ∧ wa.cell? ⟨mb, 5, none⟩ = some (.int .i64 y.m.q.s) ∧ wa.cell? ⟨mb, 6, none⟩ = some (.int .i64 y.m.q.kind) ∧ wa.cell? ⟨mb, 7, none⟩ = some (.string y.m.q.key) ∧ wa.cell? ⟨mb, 8, none⟩ = some (.float .f64 y.m.q.b) ∧ wa.cell? ⟨mb, 9, none⟩ = some (.int .i64 y.m.q.id) ∧ wa.cell? ⟨mb, 10, none⟩ = some (.int .i64 y.m.c) ∧ wa.cell? ⟨mb, 11, none⟩ = some (.float .f64 y.m.r) from fun wa mb hb => by
        refine ⟨?_, ?_, ?_, ?_, ?_, ?_, ?_, ?_, ?_, ?_⟩ <;> (rw [blk_cell hb]; rfl))
      have CQ := Lib.hid (CSQ.out y.m.q hst.m.q)
      have CR := Lib.hid (fun (wa : World) => sameres_any y.m.c y.m.r rc rb wa hst.m.r hrb)
      have HSN := Lib.hid (sent_snoc hy fr q ep rc rb)
      rw [hno, Bool.false_or] at HSN
      have HSA := Lib.hid (fun h => sent_all (fr := fr) (q := q) (ep := ep) (c := rc) (r := rb) hy h)
      have HSY := Lib.hid (show saidY y fr q ep rc rb = (decide (kind19 y.kd = 1) && decide (y.fr = fr) && decide (y.m.k = 8) && decide (y.m.e = ep) && sameQ y.m.q q && sameResB y.m.c y.m.r rc rb) from rfl)
      unfold Rq.v at CQ
      generalize hcs : stCs y a1 n1 c1 a2 n2 c2 a3 n3 c3 a4 n4 c4 = cs at *
      generalize hms : mgCs y.m a1 n1 c1 a2 n2 c2 a3 n3 c3 a4 n4 c4 = ms at *
      generalize sameQ y.m.q q = SQ at *
      generalize sameResB y.m.c y.m.r rc rb = SR at *
      generalize hkk : kind19 y.kd = kk at *
      generalize saidY y fr q ep rc rb = SY at *
      clear hcs hms hcell hst hy hmi hmj hkk hno
      go_upto_region 4 with (fail)
      refine wp_region_lit ?_
      refine wpList_val (w' := wr) rfl (v := .slice (some ⟨b, o, none⟩) n c) (by simp only [execOp]; go_simp) ?_
      simp only [Act.put, List.setIfInBounds_toArray, List.set_cons_succ, List.set_cons_zero]
      refine wpList_val (w' := wr) rfl (v := .int .i64 k) (by simp only [execOp]; go_simp) ?_
      simp only [Act.put, List.setIfInBounds_toArray, List.set_cons_succ, List.set_cons_zero]
      refine wpList_val (w' := wr) rfl (v := .pointer (some ⟨b, o + k * 26, none⟩)) (by simp only [execOp]; go_simp) ?_
      simp only [Act.put, List.setIfInBounds_toArray, List.set_cons_succ, List.set_cons_zero]
      refine wpList_val (w' := wr) rfl (v := .pointer (some ⟨b, o + k * 26 + 9, none⟩)) (by simp only [execOp]; go_simp) ?_
      simp only [Act.put, List.setIfInBounds_toArray, List.set_cons_succ, List.set_cons_zero]
      refine wpList_load_mid rfl 50 (.tmp 22) rfl b (o + k * 26 + 9) rfl ms _ (HLM.out wr (Below.refl _ _)) Try.underlying50 rfl HMJ.out ?_
      simp only [Act.put, List.setIfInBounds_toArray, List.set_cons_succ, List.set_cons_zero]
      refine ops_made 50 zeroMg rfl rfl (.tmp 12) (.tmp 23) (fun ρ w => alloc_msg19 ρ _ rfl w) rfl ms (HML.out.trans rfl) (by kernel_rfl) (all_oneCell_toArray HMO.out) rfl rfl fun w4 b4 k4 z4 => ?_
      simp only [Act.put, List.setIfInBounds_toArray, List.set_cons_succ, List.set_cons_zero]
      obtain ⟨g0, g1, g4, g5, g6, g7, g8, g9, g10, g11⟩ := HC.out w4 _ k4
      have KM4 := Lib.hid k4
      have B4 := Lib.hid b4
      have x2 := below_cell b4 z2
      clear z4 k4 b4 z2
      go_upto_region 5 with (fail)
      refine wp_region_lit ?_
      refine wpList_val (w' := w4) rfl (v := .slice (some ⟨b, o, none⟩) n c) (by simp only [execOp]; go_simp) ?_
      simp only [Act.put, List.setIfInBounds_toArray, List.set_cons_succ, List.set_cons_zero]
      refine wpList_val (w' := w4) rfl (v := .int .i64 k) (by simp only [execOp]; go_simp) ?_
      simp only [Act.put, List.setIfInBounds_toArray, List.set_cons_succ, List.set_cons_zero]
      refine wpList_val (w' := w4) rfl (v := .pointer (some ⟨b, o + k * 26, none⟩)) (by simp only [execOp]; go_simp) ?_
      simp only [Act.put, List.setIfInBounds_toArray, List.set_cons_succ, List.set_cons_zero]
      refine wpList_load_mid rfl 52 (.tmp 26) rfl b (o + k * 26) rfl cs _ (HLD.out w4 B4.out) Try.underlying52 rfl HMI.out ?_
      simp only [Act.put, List.setIfInBounds_toArray, List.set_cons_succ, List.set_cons_zero]
      go_wp2_with fail
      refine (HKD.out w4).mono ?_
      rintro r w5 ⟨rfl, hb5⟩
      have HWW := Lib.hid (bthen Hb.out (bthen B4.out hb5))
      have hKQ := blk_below KQ.out HWW.out
      have hKR := blk_below KR.out HWW.out
      have q0 : w5.cell? ⟨w.heap.size, 0, none⟩ = some (.int .i64 q.c) := by rw [blk_cell hKQ]; rfl
      have q1 : w5.cell? ⟨w.heap.size, 1, none⟩ = some (.int .i64 q.s) := by rw [blk_cell hKQ]; rfl
      have q2 : w5.cell? ⟨w.heap.size, 2, none⟩ = some (.int .i64 q.kind) := by rw [blk_cell hKQ]; rfl
      have q3 : w5.cell? ⟨w.heap.size, 3, none⟩ = some (.string q.key) := by rw [blk_cell hKQ]; rfl
      have q4 : w5.cell? ⟨w.heap.size, 4, none⟩ = some (.float .f64 q.b) := by rw [blk_cell hKQ]; rfl
      have q5 : w5.cell? ⟨w.heap.size, 5, none⟩ = some (.int .i64 q.id) := by rw [blk_cell hKQ]; rfl
      have x2' := below_cell hb5 x2
      have f0 := below_cell hb5 g0; have f1 := below_cell hb5 g1; have f4 := below_cell hb5 g4; have f5 := below_cell hb5 g5; have f6 := below_cell hb5 g6
      have f7 := below_cell hb5 g7; have f8 := below_cell hb5 g8; have f9 := below_cell hb5 g9; have f10 := below_cell hb5 g10; have f11 := below_cell hb5 g11
      have HB5 := Lib.hid hb5
      clear hb5 hKQ hKR x2 g0 g1 g4 g5 g6 g7 g8 g9 g10 g11
      by_cases k1 : kk = 1
      · have d1 : (kk == 1) = true := by simp [k1]
        by_cases k2 : y.fr = fr
        · have d2 : (y.fr == fr) = true := by simp [k2]
          by_cases k3 : y.m.k = 8
          · have d3 : (y.m.k == 8) = true := by simp [k3]
            by_cases k4 : y.m.e = ep
            · have d4 : (y.m.e == ep) = true := by simp [k4]
              go_wp2_with fail
              refine (CQ.out w5).mono ?_
              rintro r w7 ⟨rfl, hb7⟩
              have HW7 := Lib.hid (bthen HWW.out hb7)
              have f10' := below_cell hb7 f10; have f11' := below_cell hb7 f11
              have hKR := blk_below KR.out HW7.out
              have r0 : w7.cell? ⟨w.heap.size + 1, 0, none⟩ = some (.int .i64 rc) := by rw [blk_cell hKR]; rfl
              have r1 : w7.cell? ⟨w.heap.size + 1, 1, none⟩ = some (.float .f64 rb) := by rw [blk_cell hKR]; rfl
              clear hb7 hKR f0 f1 f4 f5 f6 f7 f8 f9 f10 f11 q0 q1 q2 q3 q4 q5 x2'
              cases SQ with
              | false =>
                  have HF := Lib.hid (show sentB (L.take (k + 1)) fr q ep rc rb = false by rw [HSN.out, HSY.out]; simp [k1, k2, k3, k4])
                  go_wp2_with fail
                  go_roundw
                  case rel => exact ⟨k + 1, by omega, by go_num, HF.out, HW7⟩
                  case measure => simp [intOf]; omega
              | true =>
                go_wp2_with fail
                refine (CR.out w7).mono ?_
                rintro r w8 ⟨rfl, hb8⟩
                have HW8 := Lib.hid (bthen HW7.out hb8)
                clear hb8 f10' f11' r0 r1
                cases SR with
                | false =>
                  have HF := Lib.hid (show sentB (L.take (k + 1)) fr q ep rc rb = false by rw [HSN.out, HSY.out]; simp [k1, k2, k3, k4])
                  go_wp2_with fail
                  go_roundw
                  case rel => exact ⟨k + 1, by omega, by go_num, HF.out, HW8⟩
                  case measure => simp [intOf]; omega
                | true =>
                  have HT := Lib.hid (HSA.out (by rw [HSY.out]; simp [k1, k2, k3, k4]))
                  have HBB := Lib.hid (bthen B6.out HW8.out)
                  go_wp2_with fail
                  go_ret
                  exact ⟨by rw [HT.out]; rfl, HBB.out⟩
            · have d4 : (y.m.e == ep) = false := by simp [k4]
              have HF := Lib.hid (show sentB (L.take (k + 1)) fr q ep rc rb = false by rw [HSN.out, HSY.out]; simp [k1, k2, k3, k4])
              go_wp2_with fail
              go_roundw
              case rel => exact ⟨k + 1, by omega, by go_num, HF.out, HWW⟩
              case measure => simp [intOf]; omega
          · have d3 : (y.m.k == 8) = false := by simp [k3]
            have HF := Lib.hid (show sentB (L.take (k + 1)) fr q ep rc rb = false by rw [HSN.out, HSY.out]; simp [k1, k2, k3])
            go_wp2_with fail
            go_roundw
            case rel => exact ⟨k + 1, by omega, by go_num, HF.out, HWW⟩
            case measure => simp [intOf]; omega
        · have d2 : (y.fr == fr) = false := by simp [k2]
          have HF := Lib.hid (show sentB (L.take (k + 1)) fr q ep rc rb = false by rw [HSN.out, HSY.out]; simp [k1, k2])
          go_wp2_with fail
          go_roundw
          case rel => exact ⟨k + 1, by omega, by go_num, HF.out, HWW⟩
          case measure => simp [intOf]; omega
      · have d1 : (kk == 1) = false := by simp [k1]
        have HF := Lib.hid (show sentB (L.take (k + 1)) fr q ep rc rb = false by rw [HSN.out, HSY.out]; simp [k1])
        go_wp2_with fail
        go_roundw
        case rel => exact ⟨k + 1, by omega, by go_num, HF.out, HWW⟩
        case measure => simp [intOf]; omega
    · have hkn : k = n := by omega
      subst hkn
      have hd : decide ((k : Int) < (k : Int)) = false := by simp
      rw [List.take_of_length_le (by omega)] at hno
      have HN := Lib.hid hno
      have HBB := Lib.hid (bthen B6.out Hb.out)
      clear hno
      go_wp2_with fail
      go_ret
      exact ⟨by rw [HN.out]; rfl, HBB.out⟩
end Go.Proofs.Ytijeieamodjgbab

namespace Go.Proofs.Ytijeieamodjgbab.clientBelieves
set_option maxRecDepth 100000
open Go.ChangeShapes Go.WideShapes Go.ChangeAt Go.RowKit Go.Deep Go.Maps
attribute [local irreducible] wpQuiet
set_option linter.unusedVariables false
set_option linter.unusedSimpArgs false
attribute [local go_sem] run_store_float

def BSt (w : World) (B p : Nat) (e0 : Int) (l0 : List Int) (L : List St19) (i0 j : Nat) (wr : World) : Prop :=
  ∃ Z s, Cli Z wr B p s ∧ s.c0 = (e0, l0) ∧ s.hs ≤ j ∧ Below w.heap.size w wr ∧ B ≤ wr.heap.size ∧ BelI L i0 j s
def belA (na nb g8 c8 : Nat) (a13 : Option Addr) (c13 b o n c j qb : Nat) (cs : List Value) (qc qs qk : Int) (qy : ByteArray) (qq : Nat) (qi : Int) : Nat → World → Value → Prop
  | 0 => fun _ v => v = .bool true
  | 1 => fun _ v => v = .bool false
  | 2 => fun _ v => v = .bool false
  | 3 => fun _ v => v = .slice (some ⟨g8, 0, none⟩) nb c8
  | 4 => fun _ v => v = .int .i64 (nb : Int)
  | 5 => fun _ v => v = .int .i64 (na : Int)
  | 6 => fun _ v => v = .int .i64 (nb : Int)
  | 7 => fun _ v => v = .bool false
  | 8 => fun _ v => v = .bool false
  | 9 => fun _ v => v = .bool false
  | 10 => fun _ v => v = .slice a13 nb c13
  | 11 => fun _ v => v = .int .i64 (nb : Int)
  | 12 => fun _ v => v = .int .i64 (na : Int)
  | 13 => fun _ v => v = .int .i64 (nb : Int)
  | 14 => fun _ v => v = .bool false
  | 15 => fun _ v => v = .bool false
  | 16 => fun _ v => v = .bool false
  | 17 => fun _ v => v = .slice (some ⟨g8, 0, none⟩) nb c8
  | 18 => fun _ v => v = .int .i64 (na : Int)
  | 19 => fun _ v => v = .pointer (some ⟨g8, na * 7, none⟩)
  | 20 => fun _ v => v = .pointer (some ⟨g8, na * 7 + 1, none⟩)
  | 21 => fun _ v => v = .agg #[.int .i64 qc, .int .i64 qs, .int .i64 qk, .string qy, .float .f64 qq, .int .i64 qi]
  | 22 => fun _ v => v = .agg #[.int .i64 qc, .int .i64 qs, .int .i64 qk, .string qy, .float .f64 qq, .int .i64 qi]
  | 23 => fun w v => v = .bool true
  | 24 => fun _ v => v = .bool false
  | 25 => fun _ v => v = .bool false
  | 26 => fun _ v => v = .bool false
  | 27 => fun _ v => v = .slice (some ⟨g8, 0, none⟩) nb c8
  | 28 => fun _ v => v = .int .i64 (na : Int)
  | 29 => fun _ v => v = .pointer (some ⟨g8, na * 7, none⟩)
  | 30 => fun _ v => v = .pointer (some ⟨g8, na * 7, none⟩)
  | 31 => fun _ v => v = .int .i64 (nb : Int)
  | 32 => fun _ v => v = .int .i64 (na : Int)
  | 33 => fun _ v => v = .int .i64 (nb : Int)
  | 34 => fun _ v => v = .bool false
  | 35 => fun _ v => v = .bool false
  | 36 => fun _ v => v = .bool false
  | 37 => fun _ v => v = .slice (some ⟨b, o, none⟩) n c
  | 38 => fun _ v => v = .int .i64 j
  | 39 => fun _ v => v = .pointer (some ⟨b, o + j * 26, none⟩)
  | 40 => fun w v => v = .agg cs.toArray
  | 41 => fun w v => v = .int .i64 1
  | 42 => fun _ v => v = .bool false
  | 43 => fun _ v => v = .bool false
  | _ => fun _ _ => False
theorem belA_stab {na nb g8 c8 : Nat} {a13 : Option Addr} {c13 b o n c j qb : Nat} {cs : List Value} {qc qs qk : Int} {qy : ByteArray} {qq : Nat} {qi : Int} : ∀ i w w' v, belA na nb g8 c8 a13 c13 b o n c j qb cs qc qs qk qy qq qi i w v → Below w.heap.size w w' → belA na nb g8 c8 a13 c13 b o n c j qb cs qc qs qk qy qq qi i w' v
  | 0, w, w', v, h, hb => h
  | 1, w, w', v, h, hb => h
  | 2, w, w', v, h, hb => h
  | 3, w, w', v, h, hb => h
  | 4, w, w', v, h, hb => h
  | 5, w, w', v, h, hb => h
  | 6, w, w', v, h, hb => h
  | 7, w, w', v, h, hb => h
  | 8, w, w', v, h, hb => h
  | 9, w, w', v, h, hb => h
  | 10, w, w', v, h, hb => h
  | 11, w, w', v, h, hb => h
  | 12, w, w', v, h, hb => h
  | 13, w, w', v, h, hb => h
  | 14, w, w', v, h, hb => h
  | 15, w, w', v, h, hb => h
  | 16, w, w', v, h, hb => h
  | 17, w, w', v, h, hb => h
  | 18, w, w', v, h, hb => h
  | 19, w, w', v, h, hb => h
  | 20, w, w', v, h, hb => h
  | 21, w, w', v, h, hb => h
  | 22, w, w', v, h, hb => h
  | 23, w, w', v, h, hb => h
  | 24, w, w', v, h, hb => h
  | 25, w, w', v, h, hb => h
  | 26, w, w', v, h, hb => h
  | 27, w, w', v, h, hb => h
  | 28, w, w', v, h, hb => h
  | 29, w, w', v, h, hb => h
  | 30, w, w', v, h, hb => h
  | 31, w, w', v, h, hb => h
  | 32, w, w', v, h, hb => h
  | 33, w, w', v, h, hb => h
  | 34, w, w', v, h, hb => h
  | 35, w, w', v, h, hb => h
  | 36, w, w', v, h, hb => h
  | 37, w, w', v, h, hb => h
  | 38, w, w', v, h, hb => h
  | 39, w, w', v, h, hb => h
  | 40, w, w', v, h, hb => h
  | 41, w, w', v, h, hb => h
  | 42, w, w', v, h, hb => h
  | 43, w, w', v, h, hb => h
  | _ + 44, w, w', v, h, hb => h
set_option maxRecDepth 100000 in
set_option maxHeartbeats 16000000 in
theorem walk (w : World) (id : Int) (hid : -9223372036854775808 ≤ id ∧ id ≤ 9223372036854775807) (e0 : Int) (a0 : Option Addr) (n0 c0 : Nat) (l0 : List Int) (h0 : i64 e0) (s0 : SlAt Sh.int w a0 n0 c0 l0) (a : Option Addr) (n c : Nat) (script : List St19) (hs : SlAt shStep19 w a n c script) :
    Calls Try.prog 3 #[.int .i64 id, .agg #[.int .i64 e0, .slice a0 n0 c0], .slice a n c] w fun e w' => e = .returned (.bool true) ∧ Below w.heap.size w w' := by
  have hlen := hs.len
  have hmax := Nat.le_trans hs.cap hs.max
  have hcap := hs.cap
  have hcmax := hs.max
  have hbyt := hs.bytes
  have HS := Lib.hid hs
  have HI := Lib.hid s0
  have hn := s0.nil; have hcap0 := s0.cap; have hby := s0.bytes
  have hl0 := s0.len
  have HN := Lib.hid (show a0 = none → c0 = 0 ∧ n0 = 0 from fun h => ⟨hn h, by have := hn h; omega⟩)
  have LV := Lib.hid lives19_any
  obtain ⟨w0, hw0'⟩ : ∃ u, u = w.alloc (.cells #[.int .i64 e0, .slice a0 n0 c0] 24 (0, 0)) := ⟨_, rfl⟩
  have bw0 : Below w.heap.size w w0 := by rw [hw0']; exact below_alloc _ _
  have kw0 : w0.heap[w.heap.size]? = some (.cells #[.int .i64 e0, .slice a0 n0 c0] 24 (0, 0)) := by rw [hw0']; exact blk_alloc _ _
  have BW0 := Lib.hid bw0; have KW0 := Lib.hid kw0
  clear hs s0 hn hcap0 bw0 kw0
  go_enter Try.func3, Try.ntmps3
  go_upto_region 1 with (fail)
  rw [← hw0']
  clear hw0'
  go_wp2_with fail
  refine (LV.out _).mono ?_
  rintro r w1 ⟨rfl, b1⟩
  have KC1 := Lib.hid (blk_below KW0.out b1)
  have x0 : w1.cell? ⟨w.heap.size, 0, none⟩ = some (.int .i64 e0) := by rw [blk_cell KC1.out]; rfl
  have x1 : w1.cell? ⟨w.heap.size, 1, none⟩ = some (.slice a0 n0 c0) := by rw [blk_cell KC1.out]; rfl
  have B1 := Lib.hid (bthen BW0.out b1)
  clear b1
  go_wp2_with fail
  refine (cnew_any id e0 a0 n0 c0 l0 w1 (ints_of_sl (HI.out.old B1.out)) HN.out hby h0).mono ?_
  rintro r w2 ⟨b2, h2⟩
  have B2 := Lib.hid (bthen B1.out b2)
  have KC2 := Lib.hid (blk_below KC1.out b2)
  clear x0 x1
  rcases h2 with ⟨p, Z, rfl, hc, hr, -, hi1, hi2⟩ | ⟨hno, rfl⟩
  · have HG := Lib.hid (show BSt w w1.heap.size p e0 l0 script 0 0 w2 from ⟨Z, _, hc, rfl, Nat.le_refl _, B2.out, b2.size, Nat.le_refl _, fun hf => absurd (of_decide_eq_true hf) (show ¬ (0 : Int) < 0 by decide)⟩)
    have HKC := Lib.hid (show w2.heap[w.heap.size]? = some (.cells #[.int .i64 e0, .slice a0 n0 c0] 24 (0, 0)) ∧ w.heap.size < w1.heap.size from ⟨KC2.out, blk_lt KC1.out⟩)
    have hBw := B1.out.size
    clear b2 hc hr
    generalize w1.heap.size = B at *
    go_wp2_with fail
    go_loopw [9, 10] (fun v i wr => ∃ j i0 : Nat, j ≤ n ∧ i = .int .i64 j ∧ v = .int .i64 i0 ∧ Hid (BSt w B p e0 l0 script i0 j wr) ∧ Hid (wr.heap[w.heap.size]? = some (.cells #[.int .i64 e0, .slice a0 n0 c0] 24 (0, 0)) ∧ w.heap.size < B)) (fun _ i _ => n - (intOf i).toNat)
    case atStart => exact ⟨0, 0, by omega, rfl, rfl, HG, HKC⟩
    case round =>
      clear HG B2 HKC
      obtain ⟨j, i0, hj, rfl, rfl, HG, HKC⟩ := hrel
      obtain ⟨wo, rfl⟩ : ∃ wo : World, wo = wr := ⟨_, rfl⟩
      by_cases hlt : j < n
      · obtain ⟨y, hy⟩ : ∃ y, script[j]? = some y := ⟨_, List.getElem?_eq_getElem (by omega)⟩
        obtain ⟨b, o, a1, n1, c1, a2, n2, c2, a3, n3, c3, a4, n4, c4, rfl, hcell, hst⟩ := step19_cells HS.out hy
        obtain ⟨Z, s, hc, hsc, hshs, hb, hBz, hbel⟩ := HG.out
        have hj0 : (0 : Int) ≤ (j : Int) := by omega
        have hj1 : (j : Int) < (n : Int) := by omega
        have hw0 := hb.size
        have HRL := Lib.hid (rsl_old (X := Z) hst.m.lk hb (fun k hk => by have := (hc.lt k hk).1; omega))
        have HLD := Lib.hid (show ∀ (wa : World), Below w.heap.size w wa → ∀ (i : Nat) (u : Value), (stCs y a1 n1 c1 a2 n2 c2 a3 n3 c3 a4 n4 c4)[i]? = some u → wa.cell? ⟨b, o + j * 26 + i, none⟩ = some u from fun wa hwa i u hu => below_cell hwa (hcell i u hu))
        have HLM := Lib.hid (show ∀ (wa : World), Below w.heap.size w wa → ∀ (i : Nat) (u : Value), (mgCs y.m a1 n1 c1 a2 n2 c2 a3 n3 c3 a4 n4 c4)[i]? = some u → wa.cell? ⟨b, o + j * 26 + 9 + i, none⟩ = some u from fun wa hwa i u hu => by
          have := HLD.out wa hwa (i + 9) u hu
          rw [show o + j * 26 + 9 + i = o + j * 26 + (i + 9) by omega]; exact this)
        have CO := Lib.hid (open_any wo hc)
        have CAc := Lib.hid (fun (wa : World) (hwa : Below wo.heap.size wo wa) => accepted_any wa (hc.old hwa))
        have hkj : IntKind.i64.wrap ((j : Int) + 1) = ((j + 1 : Nat) : Int) := IntWalk.i64_in _ (by omega)
        have hj2 : j < 549755813888 := by have : n * 296 ≤ 140737488355328 := hbyt; omega
        have HC := Lib.hid hc
        have HB := Lib.hid hb
        have hinv : CInv s := by obtain ⟨X, t, oc, os, om, oa, ob, h, hz⟩ := hc.ex; exact h.inv
        have HIN := Lib.hid hinv
        have hacl := hinv.acl
        have hmi : (Try.prog.info? 52).map (·.size) = some (stCs y a1 n1 c1 a2 n2 c2 a3 n3 c3 a4 n4 c4).length := by show _ = some 26; kernel_rfl
        have hmj : (Try.prog.info? 50).map (·.size) = some (mgCs y.m a1 n1 c1 a2 n2 c2 a3 n3 c3 a4 n4 c4).length := by show _ = some 17; kernel_rfl
        have HMI := Lib.hid hmi; have HMJ := Lib.hid hmj
        have HML := Lib.hid (mgCs_len y.m a1 n1 c1 a2 n2 c2 a3 n3 c3 a4 n4 c4)
        have HMO := Lib.hid (mgCs_one y.m a1 n1 c1 a2 n2 c2 a3 n3 c3 a4 n4 c4)
        have HKD := Lib.hid (fun (wa : World) => kind19_any (stCs y a1 n1 c1 a2 n2 c2 a3 n3 c3 a4 n4 c4) y.kd rfl wa)
        have HME := Lib.hid (show ∀ (wa : World) (mb : Nat), wa.heap[mb]? = some (.cells (mgCs y.m a1 n1 c1 a2 n2 c2 a3 n3 c3 a4 n4 c4).toArray 50 (0, 0)) → wa.cell? ⟨mb, 1, none⟩ = some (.int .i64 y.m.e) from fun wa mb hb => by rw [blk_cell hb]; rfl)
        have CD := Lib.hid (fun (wa : World) (hwa : Below wo.heap.size wo wa) => does_any wa (hc.old hwa) (Nat.le_trans hBz hwa.size) y a1 n1 c1 a2 n2 c2 a3 n3 c3 a4 n4 c4 (hst.old (bthen hb hwa)) (HRL.out.step (Y := fun _ => False) (Keep.of_below hwa) (fun _ _ hf => hf.elim) (fun _ _ h => h)) (by omega))
        have HBS := Lib.hid (bel_step hbel hy hst.m.r)
        have HDH := Lib.hid (does_hs s y)
        have HSD := Lib.hid (show s.c0 = (e0, l0) ∧ s.hs ≤ j ∧ i0 ≤ j from ⟨hsc, hshs, hbel.1⟩)
        have HMR := Lib.hid (show y.m.r < 18446744073709551616 ∧ i64 y.m.e ∧ s.q.Ok from ⟨hst.m.r, hst.m.e, hinv.q⟩)
        unfold Rq.v at CO
        generalize hcs : stCs y a1 n1 c1 a2 n2 c2 a3 n3 c3 a4 n4 c4 = cs at *
        generalize hms : mgCs y.m a1 n1 c1 a2 n2 c2 a3 n3 c3 a4 n4 c4 = ms at *
        clear hcs hms hcell hst hc hb hinv hmi hmj hsc hshs hbel HG HRL hy
        go_wp2_with fail
        refine CO.out.mono ?_
        rintro r w3 ⟨rfl, hb3⟩
        have B3 := Lib.hid hb3
        clear hb3 CO
        go_upto_region 11 with (fail)
        have hba := below_alloc w3 (.cells #[.int .i64 s.q.c, .int .i64 s.q.s, .int .i64 s.q.kind, .string s.q.key, .float .f64 s.q.b, .int .i64 s.q.id] 35 (0, 0))
        have hka := blk_alloc w3 (.cells #[.int .i64 s.q.c, .int .i64 s.q.s, .int .i64 s.q.kind, .string s.q.key, .float .f64 s.q.b, .int .i64 s.q.id] 35 (0, 0))
        generalize w3.alloc (.cells #[.int .i64 s.q.c, .int .i64 s.q.s, .int .i64 s.q.kind, .string s.q.key, .float .f64 s.q.b, .int .i64 s.q.id] 35 (0, 0)) = w4 at *
        have B4 := Lib.hid (bthen B3.out hba)
        have KQ4 := Lib.hid hka
        have hqb : wo.heap.size ≤ w3.heap.size := B3.out.size
        clear hba hka
        generalize w3.heap.size = qb at *
        go_wp2_with fail
        refine (CAc.out w4 B4.out).mono ?_
        rintro r w5 ⟨v5, rfl, ho5, hb5⟩
        obtain ⟨a5, c5, rfl⟩ := owns_form ho5
        have B5 := Lib.hid (bthen B4.out hb5)
        have KQ5 := Lib.hid (blk_below KQ4.out hb5)
        clear ho5 hb5 CAc
        go_upto_region 12 with (fail)
        refine wp_region_lit ?_
        refine wpList_val (w' := w5) rfl (v := .pointer (some ⟨p, 0, none⟩)) (by simp only [execOp]; go_simp) ?_
        simp only [Act.put, List.setIfInBounds_toArray, List.set_cons_succ, List.set_cons_zero]
        refine wpList_val (w' := w5) rfl (v := .slice (some ⟨b, o, none⟩) n c) (by simp only [execOp]; go_simp) ?_
        simp only [Act.put, List.setIfInBounds_toArray, List.set_cons_succ, List.set_cons_zero]
        refine wpList_val (w' := w5) rfl (v := .int .i64 j) (by simp only [execOp]; go_simp) ?_
        simp only [Act.put, List.setIfInBounds_toArray, List.set_cons_succ, List.set_cons_zero]
        refine wpList_val (w' := w5) rfl (v := .pointer (some ⟨b, o + j * 26, none⟩)) (by simp only [execOp]; go_simp) ?_
        simp only [Act.put, List.setIfInBounds_toArray, List.set_cons_succ, List.set_cons_zero]
        refine wpList_load_mid rfl 52 (.tmp 53) rfl b (o + j * 26) rfl cs _ (HLD.out w5 (bthen HB.out B5.out)) Try.underlying52 rfl HMI.out ?_
        simp only [Act.put, List.setIfInBounds_toArray, List.set_cons_succ, List.set_cons_zero]
        go_wp2_with fail
        refine (CD.out w5 B5.out).mono ?_
        rintro r w7 ⟨rfl, hk7, Z', hz', hc'⟩
        have hinv' : CInv (doesS s y) := by obtain ⟨X, t, oc, os, om, oa, ob, h, hz⟩ := hc'.ex; exact h.inv
        have hacl' := hinv'.acl
        have HIN' := Lib.hid hinv'
        have HC7 := Lib.hid hc'
        have HB7 := Lib.hid (hk7.below (bthen HB.out B5.out) (fun k hk => Nat.le_trans hBw ((HC.out.lt k hk).1)))
        have hsz7 := Nat.le_trans hBz (Nat.le_trans B5.out.size hk7.size)
        have HKC7 := Lib.hid (show w7.heap[w.heap.size]? = some (.cells #[.int .i64 e0, .slice a0 n0 c0] 24 (0, 0)) from by
          rw [hk7.block _ (Nat.lt_of_lt_of_le (blk_lt HKC.out.1) B5.out.size) (fun hz => by have := (HC.out.lt _ hz).1; have := HKC.out.2; omega), B5.out.block _ (blk_lt HKC.out.1)]
          exact HKC.out.1)
        have KQ7 := Lib.hid (show w7.heap[qb]? = some (.cells #[.int .i64 s.q.c, .int .i64 s.q.s, .int .i64 s.q.kind, .string s.q.key, .float .f64 s.q.b, .int .i64 s.q.id] 35 (0, 0)) from by
          rw [hk7.block qb (blk_lt KQ5.out) (fun hz => by have := (HC.out.lt _ hz).2; omega)]
          exact KQ5.out)
        have CAc := Lib.hid (accepted_any w7 hc')
        have CO := Lib.hid (fun (wa : World) (hwa : Below w7.heap.size w7 wa) => open_any wa (hc'.old hwa))
        have CRs := Lib.hid (fun (wa : World) (hwa : Below w7.heap.size w7 wa) => results_any wa (hc'.old hwa))
        have CCh := Lib.hid (fun (wa : World) (hwa : Below w7.heap.size w7 wa) => chain19_any wa (hc'.old hwa))
        unfold Rq.v at CO
        generalize hds : doesS s y = s' at *
        have HDS := Lib.hid hds
        clear hk7 hz' hc' CD hinv' hds
        go_wp2_with fail
        refine CAc.out.mono ?_
        rintro r w8 ⟨v8, rfl, ho8, hb8⟩
        obtain ⟨a8, c8, rfl⟩ := owns_form ho8
        have HO8 := Lib.hid ho8
        have B8 := Lib.hid hb8
        clear ho8 CAc
        go_wp2_with fail
        refine (CO.out w8 hb8).mono ?_
        rintro r w9 ⟨rfl, hb9⟩
        have B9 := Lib.hid (bthen B8.out hb9)
        have HO9 := Lib.hid (owns_old HO8.out hb9)
        clear hb8 hb9 CO HO8 B8
        go_upto_region 15 with (fail)
        have hba := below_alloc w9 (.cells #[.int .i64 s'.q.c, .int .i64 s'.q.s, .int .i64 s'.q.kind, .string s'.q.key, .float .f64 s'.q.b, .int .i64 s'.q.id] 35 (0, 0))
        generalize w9.alloc (.cells #[.int .i64 s'.q.c, .int .i64 s'.q.s, .int .i64 s'.q.kind, .string s'.q.key, .float .f64 s'.q.b, .int .i64 s'.q.id] 35 (0, 0)) = w10 at *
        have B10 := Lib.hid (bthen B9.out hba)
        have HO10 := Lib.hid (owns_old HO9.out hba)
        clear hba B9 HO9
        obtain ⟨F, hF⟩ : ∃ F : Nat, F = if (wtB s' && !wtB s) = true then j else i0 := ⟨_, rfl⟩
        have HF := Lib.hid hF
        generalize hD' : wtB s' = D' at *
        generalize hD : wtB s = D at *
        have HD := Lib.hid (And.intro hD hD')
        have HX0 := Lib.hid (show F = if (D' && !D) = true then j else i0 from hF)
        clear hF hD hD'
        go_cut [67] (fun v67 wc => Hid (v67 = .bool (D' && !D) ∧ Below w10.heap.size w10 wc))
        case first =>
          cases D' <;> cases D
          all_goals
            go_wp2_with fail
            go_meet
            case rel => exact Lib.hid ⟨rfl, Below.refl _ _⟩
        case rest =>
        obtain ⟨rfl, hb105⟩ := hcut.out
        have HBF := Lib.hid (bthen B10.out hb105)
        have HOF := Lib.hid (owns_old HO10.out hb105)
        clear hcut hb105
        generalize hXX : (D' && !D) = X at *
        have HXX := Lib.hid hXX
        clear hXX
        obtain ⟨w11, rfl⟩ : ∃ u : World, u = wc := ⟨_, rfl⟩
        go_upto_if 67 with (fail)
        go_cut [9] (fun v9 wc => Hid (v9 = .int .i64 (F : Int) ∧ Below w11.heap.size w11 wc))
        case first =>
          cases X with
          | true =>
            have hF2 : F = j := by rw [HX0.out, if_pos rfl]
            subst hF2
            go_wp2_with fail
            go_meet
            case rel => exact Lib.hid ⟨rfl, Below.refl _ _⟩
          | false =>
            have hF2 : F = i0 := by rw [HX0.out, if_neg (by decide)]
            subst hF2
            go_wp2_with fail
            go_meet
            case rel => exact Lib.hid ⟨rfl, Below.refl _ _⟩
        case rest =>
        obtain ⟨rfl, hb12⟩ := hcut.out
        obtain ⟨w12, rfl⟩ : ∃ u : World, u = wc := ⟨_, rfl⟩
        have HB12 := Lib.hid (bthen HBF.out hb12)
        have HO12 := Lib.hid (owns_old HOF.out hb12)
        clear hcut hb12 HX0
        have HKC12 := Lib.hid (blk_below HKC7.out HB12.out)
        have KQ12 := Lib.hid (blk_below KQ7.out HB12.out)
        have HBW := Lib.hid (bthen HB7.out HB12.out)
        have HFF := Lib.hid HF.out
        have HBEL := Lib.hid (show BelI script F (j + 1) s' ∧ (s'.ac.length = s.ac.length ∨ Took script i0 j s y) from by
          rw [HF.out]
          exact HBS.out)
        have HEND := Lib.hid (show ∀ (wa : World), Below w12.heap.size w12 wa → BSt w B p e0 l0 script F (j + 1) wa ∧ wa.heap[w.heap.size]? = some (.cells #[.int .i64 e0, .slice a0 n0 c0] 24 (0, 0)) ∧ w.heap.size < B from fun wa hwa => by
          refine ⟨⟨Z', s', HC7.out.old (bthen HB12.out hwa), ?_, ?_, bthen HBW.out hwa, Nat.le_trans hsz7 (bthen HB12.out hwa).size, HBEL.out.1⟩, blk_below HKC12.out hwa, HKC.out.2⟩
          · exact HDH.out.2.trans HSD.out.1
          · have := HDH.out.1; have := HSD.out.2.1; omega)
        clear HBS HF HBF HOF KQ7 HKC7 HO10 B10 HB7
        as_aux_lemma =>
        by_cases hleq : s'.ac.length = s.ac.length
        · rw [hleq]
          go_wp2_with fail
          go_roundw
          case rel =>
            have hE := HEND.out w12 (Below.refl _ _)
            exact ⟨j + 1, F, by omega, by go_num, by simp, Lib.hid hE.1, Lib.hid hE.2⟩
          case measure => simp [intOf]; omega
        · obtain hT := HBEL.out.2.resolve_left hleq
          have hac : s'.ac = s.ac ++ [((s.ac.length : Int) + 1, s.q)] := by rw [← HDS.out, hT.eq]; rfl
          have hrs : s'.rs = s.rs ++ [(y.m.c, y.m.r)] := by rw [← HDS.out, hT.eq]; rfl
          have hcs' : s'.cs = s.cs ∧ s'.ss = s.ss ∧ s'.c0 = s.c0 := by rw [← HDS.out, hT.eq]; exact ⟨rfl, rfl, rfl⟩
          have hnl : s'.ac.length = s.ac.length + 1 := by rw [hac, List.length_append]; rfl
          have hFi : F = i0 := by
            rw [HFF.out, if_neg]
            have h1 : wtB s' = false := by rw [← HDS.out, hT.eq]; rfl
            have h2 : D' = false := by rw [← HD.out.2]; exact h1
            rw [← HXX.out, h2]; simp
          subst hFi
          have hD1 : D = true := by rw [← HD.out.1]; exact hT.wt
          subst hD1
          have hnr : s'.rs.length = s'.ac.length := HIN'.out.nr
          have hsn : s.rs.length = s.ac.length := HIN.out.nr
          have CR12 := CRs.out w12 HB12.out
          have hx : s'.ac[s.ac.length]? = some ((s.ac.length : Int) + 1, s.q) := by rw [hac]; simp
          have hxr : s'.rs[s.ac.length]? = some (y.m.c, y.m.r) := by rw [hrs, ← hsn]; simp
          have hoo := HO12.out
          rw [hnr] at CR12
          generalize hna : s.ac.length = na at *
          obtain ⟨nb, hnb⟩ : ∃ nb, nb = na + 1 := ⟨_, rfl⟩
          rw [← hnb] at hnl
          rw [hnl] at hoo CR12 hnr
          have HXC := Lib.hid (fun (wa : World) (hwa : Below w12.heap.size w12 wa) => ents_full (owns_old hoo hwa) hnl.symm hx)
          obtain ⟨g8, c8', hv8, hc8, -⟩ := HXC.out w12 (Below.refl _ _)
          obtain ⟨rfl, rfl⟩ : a8 = some ⟨g8, 0, none⟩ ∧ c8 = c8' := by injection hv8 with h1 h2 h3; exact ⟨h1, h3⟩
          have HXC8 := Lib.hid (show ∀ (wa : World), Below w12.heap.size w12 wa → ∀ (i : Nat) (u : Value), (Value.int .i64 (nb : Int) :: s.q.cs)[i]? = some u → wa.cell? ⟨g8, na * 7 + i, none⟩ = some u from fun wa hwa i u hu => by
            obtain ⟨g, c', hv, -, hh⟩ := HXC.out wa hwa
            have hg : g8 = g := by injection hv with h1; injection h1 with h1; injection h1
            subst hg
            have hnn : (nb : Int) = (na : Int) + 1 := by omega
            rw [hnn] at hu
            exact hh i u hu)
          have HT := Lib.hid hT
          have HXR := Lib.hid (And.intro hxr (And.intro hnr hcs'))
          have CR := Lib.hid CR12
          have d1 : (nb == na) = false := by simp; omega
          have d2 : ¬ nb = na := by omega
          have hwn : IntKind.i64.wrap ((na : Int) + 1) = (nb : Int) := by rw [IntWalk.i64_in _ (by omega)]; omega
          have HNB := Lib.hid hnb
          have hnb0 : (0 : Int) ≤ (na : Int) := by omega
          have hnb1 : (na : Int) < (nb : Int) := by omega
          have HQS := Lib.hid (show sameQ s.q s.q = true from by
            have h1 := hT.same
            unfold sameQ at h1
            simp only [Bool.and_eq_true, decide_eq_true_eq] at h1
            unfold sameQ
            simp [h1.2])
          have hk1 := hT.kd
          rw [hk1] at HKD
          have CSM := Lib.hid (fun (wa : World) => rsame_rq s.q s.q HMR.out.2.2 HMR.out.2.2 wa)
          rw [HQS.out] at CSM
          unfold Rq.v at CSM
          rw [hnl]
          clear hnl hna hx hxr hoo CR12 hT hac hrs hcs' hnr hsn hnb HXC hv8 CRs hleq HFF HXX hk1
          go_wp2_with fail
          refine CR.out.mono ?_
          rintro r w13 ⟨v13, rfl, ho13, hb13⟩
          obtain ⟨a13, c13, rfl⟩ := owns_form ho13
          have HO13 := Lib.hid ho13
          have B13 := Lib.hid hb13
          clear ho13 hb13 CR
          go_upto_region 19 with (fail)
          have HLV := Lib.hid (show ∀ (wa : World), Below w13.heap.size w13 wa → (loadVar 52 ⟨b, o + j * 26, none⟩).run Try.prog wa = .ok (.agg cs.toArray) wa from fun wa hwa => run_loadVar_mid (P := Try.prog) wa b (o + j * 26) 52 cs _ (HLD.out wa (bthen HBW.out (bthen B13.out hwa))) Try.underlying52 rfl HMI.out)
          refine wp_region_made 44 (belA na nb g8 c8 a13 c13 b o n c j qb cs s.q.c s.q.s s.q.kind s.q.key s.q.b s.q.id) (fun _ _ => none) rfl (by kernel_rfl) (by kernel_rfl) belA_stab (fun _ _ _ _ _ h => by cases h) (fun i oo hi ho => ?_) (fun vs w14 hb7 hs hne => ?_)
          · as_aux_lemma =>
            intro ac wa hba hE hF K hK
            have b7 := below_undrew hba
            have hno : ∀ k, (none : Option Nat) = some k → wa.heap.size ≤ k := fun _ h => by cases h
            have hww := bthen B13.out b7
            have KQa := blk_below KQ12.out hww
            have z0 : wa.cell? ⟨qb, 0, none⟩ = some (.int .i64 s.q.c) := by rw [blk_cell KQa]; rfl
            have z1 : wa.cell? ⟨qb, 1, none⟩ = some (.int .i64 s.q.s) := by rw [blk_cell KQa]; rfl
            have z2 : wa.cell? ⟨qb, 2, none⟩ = some (.int .i64 s.q.kind) := by rw [blk_cell KQa]; rfl
            have z3 : wa.cell? ⟨qb, 3, none⟩ = some (.string s.q.key) := by rw [blk_cell KQa]; rfl
            have z4 : wa.cell? ⟨qb, 4, none⟩ = some (.float .f64 s.q.b) := by rw [blk_cell KQa]; rfl
            have z5 : wa.cell? ⟨qb, 5, none⟩ = some (.int .i64 s.q.id) := by rw [blk_cell KQa]; rfl
            have u0 : wa.cell? ⟨g8, na * 7, none⟩ = some (.int .i64 (nb : Int)) := HXC8.out wa hww 0 _ rfl
            have u1 : wa.cell? ⟨g8, na * 7 + 1, none⟩ = some (.int .i64 s.q.c) := HXC8.out wa hww 1 _ rfl
            have u2 : wa.cell? ⟨g8, na * 7 + 2, none⟩ = some (.int .i64 s.q.s) := HXC8.out wa hww 2 _ rfl
            have u3 : wa.cell? ⟨g8, na * 7 + 3, none⟩ = some (.int .i64 s.q.kind) := HXC8.out wa hww 3 _ rfl
            have u4 : wa.cell? ⟨g8, na * 7 + 4, none⟩ = some (.string s.q.key) := HXC8.out wa hww 4 _ rfl
            have u5 : wa.cell? ⟨g8, na * 7 + 5, none⟩ = some (.float .f64 s.q.b) := HXC8.out wa hww 5 _ rfl
            have u6 : wa.cell? ⟨g8, na * 7 + 6, none⟩ = some (.int .i64 s.q.id) := HXC8.out wa hww 6 _ rfl
            have hi' : i = 0 ∨ i = 1 ∨ i = 2 ∨ i = 3 ∨ i = 4 ∨ i = 5 ∨ i = 6 ∨ i = 7 ∨ i = 8 ∨ i = 9 ∨ i = 10 ∨ i = 11 ∨ i = 12 ∨ i = 13 ∨ i = 14 ∨ i = 15 ∨ i = 16 ∨ i = 17 ∨ i = 18 ∨ i = 19 ∨ i = 20 ∨ i = 21 ∨ i = 22 ∨ i = 23 ∨ i = 24 ∨ i = 25 ∨ i = 26 ∨ i = 27 ∨ i = 28 ∨ i = 29 ∨ i = 30 ∨ i = 31 ∨ i = 32 ∨ i = 33 ∨ i = 34 ∨ i = 35 ∨ i = 36 ∨ i = 37 ∨ i = 38 ∨ i = 39 ∨ i = 40 ∨ i = 41 ∨ i = 42 ∨ i = 43 := by omega
            rcases hi' with rfl | rfl | rfl | rfl | rfl | rfl | rfl | rfl | rfl | rfl | rfl | rfl | rfl | rfl | rfl | rfl | rfl | rfl | rfl | rfl | rfl | rfl | rfl | rfl | rfl | rfl | rfl | rfl | rfl | rfl | rfl | rfl | rfl | rfl | rfl | rfl | rfl | rfl | rfl | rfl | rfl | rfl | rfl | rfl
            · obtain rfl := Option.some.inj ho
              have h1 : ac.eval (.tmp 12) = .bool true := hE 12 (by decide)
              exact news_val rfl rfl (by generalize ac.eval = ρ at h1; simp only [execOp]; go_simp) (hK _ _ (Below.refl _ _) rfl hno)
            · obtain rfl := Option.some.inj ho
              have h1 : ac.eval (.tmp 75) = .bool true := hF ⟨0, .data⟩ (by simp) rfl 75 rfl
              exact news_val rfl rfl (by generalize ac.eval = ρ at h1; simp only [execOp]; go_simp) (hK _ _ (Below.refl _ _) rfl hno)
            · obtain rfl := Option.some.inj ho
              have h1 : ac.eval (.tmp 76) = .bool false := hF ⟨1, .data⟩ (by simp) rfl 76 rfl
              exact news_val rfl rfl (by generalize ac.eval = ρ at h1; simp only [execOp]; go_simp) (hK _ _ (Below.refl _ _) rfl hno)
            · obtain rfl := Option.some.inj ho
              have hg : ac.eval (.tmp 77) = .bool false := hF ⟨2, .guard⟩ (by simp) rfl 77 rfl
              have h1 : ac.eval (.tmp 14) = .slice (some ⟨g8, 0, none⟩) nb c8 := hE 14 (by decide)
              exact news_gval rfl (wanted_of rfl rfl hg) (by generalize ac.eval = ρ at h1; simp only [execOp]; go_simp) (hK _ _ (Below.refl _ _) rfl hno)
            · obtain rfl := Option.some.inj ho
              have hg : ac.eval (.tmp 77) = .bool false := hF ⟨2, .guard⟩ (by simp) rfl 77 rfl
              have h1 : ac.eval (.tmp 78) = .slice (some ⟨g8, 0, none⟩) nb c8 := hF ⟨3, .data⟩ (by simp) rfl 78 rfl
              exact news_gval rfl (wanted_of rfl rfl hg) (by generalize ac.eval = ρ at h1; simp only [execOp]; go_simp) (hK _ _ (Below.refl _ _) rfl hno)
            · obtain rfl := Option.some.inj ho
              have hg : ac.eval (.tmp 77) = .bool false := hF ⟨2, .guard⟩ (by simp) rfl 77 rfl
              have h1 : ac.eval (.tmp 13) = .int .i64 (na : Int) := hE 13 (by decide)
              exact news_gval rfl (wanted_of rfl rfl hg) (by generalize ac.eval = ρ at h1; simp only [execOp]; go_simp) (hK _ _ (Below.refl _ _) rfl hno)
            · obtain rfl := Option.some.inj ho
              have hg : ac.eval (.tmp 77) = .bool false := hF ⟨2, .guard⟩ (by simp) rfl 77 rfl
              have h1 : ac.eval (.tmp 80) = .int .i64 (na : Int) := hF ⟨5, .data⟩ (by simp) rfl 80 rfl
              have h2 : ac.eval (.const (.int .i64 1)) = .int .i64 1 := rfl
              exact news_gval rfl (wanted_of rfl rfl hg) (by generalize ac.eval = ρ at h1 h2; simp only [execOp]; go_simp) (hK _ _ (Below.refl _ _) rfl hno)
            · obtain rfl := Option.some.inj ho
              have hg : ac.eval (.tmp 77) = .bool false := hF ⟨2, .guard⟩ (by simp) rfl 77 rfl
              have h1 : ac.eval (.tmp 79) = .int .i64 (nb : Int) := hF ⟨4, .data⟩ (by simp) rfl 79 rfl
              have h2 : ac.eval (.tmp 81) = .int .i64 (nb : Int) := hF ⟨6, .data⟩ (by simp) rfl 81 rfl
              exact news_gval rfl (wanted_of rfl rfl hg) (by generalize ac.eval = ρ at h1 h2; simp only [execOp]; go_simp) (hK _ _ (Below.refl _ _) rfl hno)
            · obtain rfl := Option.some.inj ho
              have h1 : ac.eval (.tmp 77) = .bool false := hF ⟨2, .data⟩ (by simp) rfl 77 rfl
              have h2 : ac.eval (.tmp 82) = .bool false := hF ⟨7, .data⟩ (by simp) rfl 82 rfl
              have h3 : ac.eval (.const (.bool true)) = .bool true := rfl
              exact news_val rfl rfl (by generalize ac.eval = ρ at h1 h2 h3; simp only [execOp]; go_simp) (hK _ _ (Below.refl _ _) rfl hno)
            · obtain rfl := Option.some.inj ho
              have h1 : ac.eval (.tmp 83) = .bool false := hF ⟨8, .data⟩ (by simp) rfl 83 rfl
              exact news_val rfl rfl (by generalize ac.eval = ρ at h1; simp only [execOp]; go_simp) (hK _ _ (Below.refl _ _) rfl hno)
            · obtain rfl := Option.some.inj ho
              have hg : ac.eval (.tmp 84) = .bool false := hF ⟨9, .guard⟩ (by simp) rfl 84 rfl
              have h1 : ac.eval (.tmp 17) = .slice a13 nb c13 := hE 17 (by decide)
              exact news_gval rfl (wanted_of rfl rfl hg) (by generalize ac.eval = ρ at h1; simp only [execOp]; go_simp) (hK _ _ (Below.refl _ _) rfl hno)
            · obtain rfl := Option.some.inj ho
              have hg : ac.eval (.tmp 84) = .bool false := hF ⟨9, .guard⟩ (by simp) rfl 84 rfl
              have h1 : ac.eval (.tmp 85) = .slice a13 nb c13 := hF ⟨10, .data⟩ (by simp) rfl 85 rfl
              exact news_gval rfl (wanted_of rfl rfl hg) (by generalize ac.eval = ρ at h1; simp only [execOp]; go_simp) (hK _ _ (Below.refl _ _) rfl hno)
            · obtain rfl := Option.some.inj ho
              have hg : ac.eval (.tmp 84) = .bool false := hF ⟨9, .guard⟩ (by simp) rfl 84 rfl
              have h1 : ac.eval (.tmp 13) = .int .i64 (na : Int) := hE 13 (by decide)
              exact news_gval rfl (wanted_of rfl rfl hg) (by generalize ac.eval = ρ at h1; simp only [execOp]; go_simp) (hK _ _ (Below.refl _ _) rfl hno)
            · obtain rfl := Option.some.inj ho
              have hg : ac.eval (.tmp 84) = .bool false := hF ⟨9, .guard⟩ (by simp) rfl 84 rfl
              have h1 : ac.eval (.tmp 87) = .int .i64 (na : Int) := hF ⟨12, .data⟩ (by simp) rfl 87 rfl
              have h2 : ac.eval (.const (.int .i64 1)) = .int .i64 1 := rfl
              exact news_gval rfl (wanted_of rfl rfl hg) (by generalize ac.eval = ρ at h1 h2; simp only [execOp]; go_simp) (hK _ _ (Below.refl _ _) rfl hno)
            · obtain rfl := Option.some.inj ho
              have hg : ac.eval (.tmp 84) = .bool false := hF ⟨9, .guard⟩ (by simp) rfl 84 rfl
              have h1 : ac.eval (.tmp 86) = .int .i64 (nb : Int) := hF ⟨11, .data⟩ (by simp) rfl 86 rfl
              have h2 : ac.eval (.tmp 88) = .int .i64 (nb : Int) := hF ⟨13, .data⟩ (by simp) rfl 88 rfl
              exact news_gval rfl (wanted_of rfl rfl hg) (by generalize ac.eval = ρ at h1 h2; simp only [execOp]; go_simp) (hK _ _ (Below.refl _ _) rfl hno)
            · obtain rfl := Option.some.inj ho
              have h1 : ac.eval (.tmp 84) = .bool false := hF ⟨9, .data⟩ (by simp) rfl 84 rfl
              have h2 : ac.eval (.tmp 89) = .bool false := hF ⟨14, .data⟩ (by simp) rfl 89 rfl
              have h3 : ac.eval (.const (.bool true)) = .bool true := rfl
              exact news_val rfl rfl (by generalize ac.eval = ρ at h1 h2 h3; simp only [execOp]; go_simp) (hK _ _ (Below.refl _ _) rfl hno)
            · obtain rfl := Option.some.inj ho
              have h1 : ac.eval (.tmp 90) = .bool false := hF ⟨15, .data⟩ (by simp) rfl 90 rfl
              exact news_val rfl rfl (by generalize ac.eval = ρ at h1; simp only [execOp]; go_simp) (hK _ _ (Below.refl _ _) rfl hno)
            · obtain rfl := Option.some.inj ho
              have hg : ac.eval (.tmp 91) = .bool false := hF ⟨16, .guard⟩ (by simp) rfl 91 rfl
              have h1 : ac.eval (.tmp 14) = .slice (some ⟨g8, 0, none⟩) nb c8 := hE 14 (by decide)
              exact news_gval rfl (wanted_of rfl rfl hg) (by generalize ac.eval = ρ at h1; simp only [execOp]; go_simp) (hK _ _ (Below.refl _ _) rfl hno)
            · obtain rfl := Option.some.inj ho
              have hg : ac.eval (.tmp 91) = .bool false := hF ⟨16, .guard⟩ (by simp) rfl 91 rfl
              have h1 : ac.eval (.tmp 13) = .int .i64 (na : Int) := hE 13 (by decide)
              exact news_gval rfl (wanted_of rfl rfl hg) (by generalize ac.eval = ρ at h1; simp only [execOp]; go_simp) (hK _ _ (Below.refl _ _) rfl hno)
            · obtain rfl := Option.some.inj ho
              have hg : ac.eval (.tmp 91) = .bool false := hF ⟨16, .guard⟩ (by simp) rfl 91 rfl
              have h1 : ac.eval (.tmp 92) = .slice (some ⟨g8, 0, none⟩) nb c8 := hF ⟨17, .data⟩ (by simp) rfl 92 rfl
              have h2 : ac.eval (.tmp 93) = .int .i64 (na : Int) := hF ⟨18, .data⟩ (by simp) rfl 93 rfl
              exact news_gval rfl (wanted_of rfl rfl hg) (by generalize ac.eval = ρ at h1 h2; simp only [execOp]; go_simp) (hK _ _ (Below.refl _ _) rfl hno)
            · obtain rfl := Option.some.inj ho
              have hg : ac.eval (.tmp 91) = .bool false := hF ⟨16, .guard⟩ (by simp) rfl 91 rfl
              have h1 : ac.eval (.tmp 94) = .pointer (some ⟨g8, na * 7, none⟩) := hF ⟨19, .data⟩ (by simp) rfl 94 rfl
              exact news_gval rfl (wanted_of rfl rfl hg) (by generalize ac.eval = ρ at h1; simp only [execOp]; go_simp) (hK _ _ (Below.refl _ _) rfl hno)
            · obtain rfl := Option.some.inj ho
              have hg : ac.eval (.tmp 91) = .bool false := hF ⟨16, .guard⟩ (by simp) rfl 91 rfl
              have h1 : ac.eval (.tmp 95) = .pointer (some ⟨g8, na * 7 + 1, none⟩) := hF ⟨20, .data⟩ (by simp) rfl 95 rfl
              exact news_gval rfl (wanted_of rfl rfl hg) (by generalize ac.eval = ρ at h1; simp only [execOp]; go_simp) (hK _ _ (Below.refl _ _) rfl hno)
            · obtain rfl := Option.some.inj ho
              have hg : ac.eval (.tmp 91) = .bool false := hF ⟨16, .guard⟩ (by simp) rfl 91 rfl
              have h1 : ac.eval (.tmp 11) = .pointer (some ⟨qb, 0, none⟩) := hE 11 (by decide)
              exact news_gval rfl (wanted_of rfl rfl hg) (by generalize ac.eval = ρ at h1; simp only [execOp]; go_simp) (hK _ _ (Below.refl _ _) rfl hno)
            · obtain rfl := Option.some.inj ho
              have hg : ac.eval (.tmp 91) = .bool false := hF ⟨16, .guard⟩ (by simp) rfl 91 rfl
              have h1 : ac.eval (.tmp 96) = .agg #[.int .i64 s.q.c, .int .i64 s.q.s, .int .i64 s.q.kind, .string s.q.key, .float .f64 s.q.b, .int .i64 s.q.id] := hF ⟨21, .data⟩ (by simp) rfl 96 rfl
              have h2 : ac.eval (.tmp 97) = .agg #[.int .i64 s.q.c, .int .i64 s.q.s, .int .i64 s.q.kind, .string s.q.key, .float .f64 s.q.b, .int .i64 s.q.id] := hF ⟨22, .data⟩ (by simp) rfl 97 rfl
              have hf : ac.eval (.func 11) = .func (.func 11) #[] #[] := rfl
              refine made_gcall rfl (wanted_of rfl rfl hg) 11 #[.agg #[.int .i64 s.q.c, .int .i64 s.q.s, .int .i64 s.q.kind, .string s.q.key, .float .f64 s.q.b, .int .i64 s.q.id], .agg #[.int .i64 s.q.c, .int .i64 s.q.s, .int .i64 s.q.kind, .string s.q.key, .float .f64 s.q.b, .int .i64 s.q.id]] (by generalize ac.eval = ρ at h1 h2 hf; simp only [execOp]; go_simp) (CSM.out wa) ?_
              rintro r w8 ⟨rfl, b8⟩
              exact ⟨_, rfl, hK _ _ b8 rfl hno⟩
            · obtain rfl := Option.some.inj ho
              have hg : ac.eval (.tmp 91) = .bool false := hF ⟨16, .guard⟩ (by simp) rfl 91 rfl
              obtain h1 : (ac.eval (.tmp 98)) = .bool true := hF ⟨23, .data⟩ (by simp) rfl 98 rfl
              exact news_gval rfl (wanted_of rfl rfl hg) (by generalize ac.eval = ρ at h1; simp only [execOp]; go_simp) (hK _ _ (Below.refl _ _) rfl hno)
            · obtain rfl := Option.some.inj ho
              have h1 : ac.eval (.tmp 91) = .bool false := hF ⟨16, .data⟩ (by simp) rfl 91 rfl
              have h2 : ac.eval (.tmp 99) = .bool false := hF ⟨24, .data⟩ (by simp) rfl 99 rfl
              have h3 : ac.eval (.const (.bool true)) = .bool true := rfl
              exact news_val rfl rfl (by generalize ac.eval = ρ at h1 h2 h3; simp only [execOp]; go_simp) (hK _ _ (Below.refl _ _) rfl hno)
            · obtain rfl := Option.some.inj ho
              have h1 : ac.eval (.tmp 100) = .bool false := hF ⟨25, .data⟩ (by simp) rfl 100 rfl
              exact news_val rfl rfl (by generalize ac.eval = ρ at h1; simp only [execOp]; go_simp) (hK _ _ (Below.refl _ _) rfl hno)
            · obtain rfl := Option.some.inj ho
              have hg : ac.eval (.tmp 101) = .bool false := hF ⟨26, .guard⟩ (by simp) rfl 101 rfl
              have h1 : ac.eval (.tmp 14) = .slice (some ⟨g8, 0, none⟩) nb c8 := hE 14 (by decide)
              exact news_gval rfl (wanted_of rfl rfl hg) (by generalize ac.eval = ρ at h1; simp only [execOp]; go_simp) (hK _ _ (Below.refl _ _) rfl hno)
            · obtain rfl := Option.some.inj ho
              have hg : ac.eval (.tmp 101) = .bool false := hF ⟨26, .guard⟩ (by simp) rfl 101 rfl
              have h1 : ac.eval (.tmp 13) = .int .i64 (na : Int) := hE 13 (by decide)
              exact news_gval rfl (wanted_of rfl rfl hg) (by generalize ac.eval = ρ at h1; simp only [execOp]; go_simp) (hK _ _ (Below.refl _ _) rfl hno)
            · obtain rfl := Option.some.inj ho
              have hg : ac.eval (.tmp 101) = .bool false := hF ⟨26, .guard⟩ (by simp) rfl 101 rfl
              have h1 : ac.eval (.tmp 102) = .slice (some ⟨g8, 0, none⟩) nb c8 := hF ⟨27, .data⟩ (by simp) rfl 102 rfl
              have h2 : ac.eval (.tmp 103) = .int .i64 (na : Int) := hF ⟨28, .data⟩ (by simp) rfl 103 rfl
              exact news_gval rfl (wanted_of rfl rfl hg) (by generalize ac.eval = ρ at h1 h2; simp only [execOp]; go_simp) (hK _ _ (Below.refl _ _) rfl hno)
            · obtain rfl := Option.some.inj ho
              have hg : ac.eval (.tmp 101) = .bool false := hF ⟨26, .guard⟩ (by simp) rfl 101 rfl
              have h1 : ac.eval (.tmp 104) = .pointer (some ⟨g8, na * 7, none⟩) := hF ⟨29, .data⟩ (by simp) rfl 104 rfl
              exact news_gval rfl (wanted_of rfl rfl hg) (by generalize ac.eval = ρ at h1; simp only [execOp]; go_simp) (hK _ _ (Below.refl _ _) rfl hno)
            · obtain rfl := Option.some.inj ho
              have hg : ac.eval (.tmp 101) = .bool false := hF ⟨26, .guard⟩ (by simp) rfl 101 rfl
              have h1 : ac.eval (.tmp 105) = .pointer (some ⟨g8, na * 7, none⟩) := hF ⟨30, .data⟩ (by simp) rfl 105 rfl
              exact news_gval rfl (wanted_of rfl rfl hg) (by generalize ac.eval = ρ at h1; simp only [execOp]; go_simp) (hK _ _ (Below.refl _ _) rfl hno)
            · obtain rfl := Option.some.inj ho
              have hg : ac.eval (.tmp 101) = .bool false := hF ⟨26, .guard⟩ (by simp) rfl 101 rfl
              have h1 : ac.eval (.tmp 13) = .int .i64 (na : Int) := hE 13 (by decide)
              exact news_gval rfl (wanted_of rfl rfl hg) (by generalize ac.eval = ρ at h1; simp only [execOp]; go_simp) (hK _ _ (Below.refl _ _) rfl hno)
            · obtain rfl := Option.some.inj ho
              have hg : ac.eval (.tmp 101) = .bool false := hF ⟨26, .guard⟩ (by simp) rfl 101 rfl
              have h1 : ac.eval (.tmp 107) = .int .i64 (na : Int) := hF ⟨32, .data⟩ (by simp) rfl 107 rfl
              have h2 : ac.eval (.const (.int .i64 1)) = .int .i64 1 := rfl
              exact news_gval rfl (wanted_of rfl rfl hg) (by generalize ac.eval = ρ at h1 h2; simp only [execOp]; go_simp) (hK _ _ (Below.refl _ _) rfl hno)
            · obtain rfl := Option.some.inj ho
              have hg : ac.eval (.tmp 101) = .bool false := hF ⟨26, .guard⟩ (by simp) rfl 101 rfl
              have h1 : ac.eval (.tmp 106) = .int .i64 (nb : Int) := hF ⟨31, .data⟩ (by simp) rfl 106 rfl
              have h2 : ac.eval (.tmp 108) = .int .i64 (nb : Int) := hF ⟨33, .data⟩ (by simp) rfl 108 rfl
              exact news_gval rfl (wanted_of rfl rfl hg) (by generalize ac.eval = ρ at h1 h2; simp only [execOp]; go_simp) (hK _ _ (Below.refl _ _) rfl hno)
            · obtain rfl := Option.some.inj ho
              have h1 : ac.eval (.tmp 101) = .bool false := hF ⟨26, .data⟩ (by simp) rfl 101 rfl
              have h2 : ac.eval (.tmp 109) = .bool false := hF ⟨34, .data⟩ (by simp) rfl 109 rfl
              have h3 : ac.eval (.const (.bool true)) = .bool true := rfl
              exact news_val rfl rfl (by generalize ac.eval = ρ at h1 h2 h3; simp only [execOp]; go_simp) (hK _ _ (Below.refl _ _) rfl hno)
            · obtain rfl := Option.some.inj ho
              have h1 : ac.eval (.tmp 110) = .bool false := hF ⟨35, .data⟩ (by simp) rfl 110 rfl
              exact news_val rfl rfl (by generalize ac.eval = ρ at h1; simp only [execOp]; go_simp) (hK _ _ (Below.refl _ _) rfl hno)
            · obtain rfl := Option.some.inj ho
              have hg : ac.eval (.tmp 111) = .bool false := hF ⟨36, .guard⟩ (by simp) rfl 111 rfl
              have h1 : ac.eval (.tmp 2) = .slice (some ⟨b, o, none⟩) n c := hE 2 (by decide)
              exact news_gval rfl (wanted_of rfl rfl hg) (by generalize ac.eval = ρ at h1; simp only [execOp]; go_simp) (hK _ _ (Below.refl _ _) rfl hno)
            · obtain rfl := Option.some.inj ho
              have hg : ac.eval (.tmp 111) = .bool false := hF ⟨36, .guard⟩ (by simp) rfl 111 rfl
              have h1 : ac.eval (.tmp 10) = .int .i64 j := hE 10 (by decide)
              exact news_gval rfl (wanted_of rfl rfl hg) (by generalize ac.eval = ρ at h1; simp only [execOp]; go_simp) (hK _ _ (Below.refl _ _) rfl hno)
            · obtain rfl := Option.some.inj ho
              have hg : ac.eval (.tmp 111) = .bool false := hF ⟨36, .guard⟩ (by simp) rfl 111 rfl
              have h1 : ac.eval (.tmp 112) = .slice (some ⟨b, o, none⟩) n c := hF ⟨37, .data⟩ (by simp) rfl 112 rfl
              have h2 : ac.eval (.tmp 113) = .int .i64 j := hF ⟨38, .data⟩ (by simp) rfl 113 rfl
              exact news_gval rfl (wanted_of rfl rfl hg) (by generalize ac.eval = ρ at h1 h2; simp only [execOp]; go_simp) (hK _ _ (Below.refl _ _) rfl hno)
            · obtain rfl := Option.some.inj ho
              have hg : ac.eval (.tmp 111) = .bool false := hF ⟨36, .guard⟩ (by simp) rfl 111 rfl
              have h1 : ac.eval (.tmp 114) = .pointer (some ⟨b, o + j * 26, none⟩) := hF ⟨39, .data⟩ (by simp) rfl 114 rfl
              exact news_gload rfl (wanted_of rfl rfl hg) 52 (.tmp 114) rfl b (o + j * 26) h1 (HLV.out wa b7) (hK _ _ (Below.refl _ _) rfl hno)
            · obtain rfl := Option.some.inj ho
              have hg : ac.eval (.tmp 111) = .bool false := hF ⟨36, .guard⟩ (by simp) rfl 111 rfl
              obtain h1 : (ac.eval (.tmp 115)) = .agg cs.toArray := hF ⟨40, .data⟩ (by simp) rfl 115 rfl
              have hf : ac.eval (.func 12) = .func (.func 12) #[] #[] := rfl
              refine made_gcall rfl (wanted_of rfl rfl hg) 12 #[.agg cs.toArray] (by generalize ac.eval = ρ at h1 hf; simp only [execOp]; go_simp) (HKD.out wa) ?_
              rintro r w8 ⟨rfl, b8⟩
              exact ⟨_, rfl, hK _ _ b8 rfl hno⟩
            · obtain rfl := Option.some.inj ho
              have hg : ac.eval (.tmp 111) = .bool false := hF ⟨36, .guard⟩ (by simp) rfl 111 rfl
              obtain h1 : (ac.eval (.tmp 116)) = .int .i64 1 := hF ⟨41, .data⟩ (by simp) rfl 116 rfl
              have h2 : ac.eval (.const (.int .i64 1)) = .int .i64 1 := rfl
              exact news_gval rfl (wanted_of rfl rfl hg) (by generalize ac.eval = ρ at h1 h2; simp only [execOp]; go_simp) (hK _ _ (Below.refl _ _) rfl hno)
            · obtain rfl := Option.some.inj ho
              have h1 : ac.eval (.tmp 111) = .bool false := hF ⟨36, .data⟩ (by simp) rfl 111 rfl
              have h2 : ac.eval (.tmp 117) = .bool false := hF ⟨42, .data⟩ (by simp) rfl 117 rfl
              have h3 : ac.eval (.const (.bool true)) = .bool true := rfl
              exact news_val rfl rfl (by generalize ac.eval = ρ at h1 h2 h3; simp only [execOp]; go_simp) (hK _ _ (Below.refl _ _) rfl hno)
          · have e0 : vs 0 = _ := hs 0 (by omega)
            have e1 : vs 1 = _ := hs 1 (by omega)
            have e2 : vs 2 = _ := hs 2 (by omega)
            have e3 : vs 3 = _ := hs 3 (by omega)
            have e4 : vs 4 = _ := hs 4 (by omega)
            have e5 : vs 5 = _ := hs 5 (by omega)
            have e6 : vs 6 = _ := hs 6 (by omega)
            have e7 : vs 7 = _ := hs 7 (by omega)
            have e8 : vs 8 = _ := hs 8 (by omega)
            have e9 : vs 9 = _ := hs 9 (by omega)
            have e10 : vs 10 = _ := hs 10 (by omega)
            have e11 : vs 11 = _ := hs 11 (by omega)
            have e12 : vs 12 = _ := hs 12 (by omega)
            have e13 : vs 13 = _ := hs 13 (by omega)
            have e14 : vs 14 = _ := hs 14 (by omega)
            have e15 : vs 15 = _ := hs 15 (by omega)
            have e16 : vs 16 = _ := hs 16 (by omega)
            have e17 : vs 17 = _ := hs 17 (by omega)
            have e18 : vs 18 = _ := hs 18 (by omega)
            have e19 : vs 19 = _ := hs 19 (by omega)
            have e20 : vs 20 = _ := hs 20 (by omega)
            have e21 : vs 21 = _ := hs 21 (by omega)
            have e22 : vs 22 = _ := hs 22 (by omega)
            obtain e23 : (vs 23) = .bool true := hs 23 (by omega)
            have e24 : vs 24 = _ := hs 24 (by omega)
            have e25 : vs 25 = _ := hs 25 (by omega)
            have e26 : vs 26 = _ := hs 26 (by omega)
            have e27 : vs 27 = _ := hs 27 (by omega)
            have e28 : vs 28 = _ := hs 28 (by omega)
            have e29 : vs 29 = _ := hs 29 (by omega)
            have e30 : vs 30 = _ := hs 30 (by omega)
            have e31 : vs 31 = _ := hs 31 (by omega)
            have e32 : vs 32 = _ := hs 32 (by omega)
            have e33 : vs 33 = _ := hs 33 (by omega)
            have e34 : vs 34 = _ := hs 34 (by omega)
            have e35 : vs 35 = _ := hs 35 (by omega)
            have e36 : vs 36 = _ := hs 36 (by omega)
            have e37 : vs 37 = _ := hs 37 (by omega)
            have e38 : vs 38 = _ := hs 38 (by omega)
            have e39 : vs 39 = _ := hs 39 (by omega)
            obtain e40 : (vs 40) = .agg cs.toArray := hs 40 (by omega)
            obtain e41 : (vs 41) = .int .i64 1 := hs 41 (by omega)
            have e42 : vs 42 = _ := hs 42 (by omega)
            have e43 : vs 43 = _ := hs 43 (by omega)
            show wpList _ _ _ _ ((((((((((((((((((((((((((((((((((((((((((((Act.put _ (some 75) (vs 0)).put (some 76) (vs 1)).put (some 77) (vs 2)).put (some 78) (vs 3)).put (some 79) (vs 4)).put (some 80) (vs 5)).put (some 81) (vs 6)).put (some 82) (vs 7)).put (some 83) (vs 8)).put (some 84) (vs 9)).put (some 85) (vs 10)).put (some 86) (vs 11)).put (some 87) (vs 12)).put (some 88) (vs 13)).put (some 89) (vs 14)).put (some 90) (vs 15)).put (some 91) (vs 16)).put (some 92) (vs 17)).put (some 93) (vs 18)).put (some 94) (vs 19)).put (some 95) (vs 20)).put (some 96) (vs 21)).put (some 97) (vs 22)).put (some 98) (vs 23)).put (some 99) (vs 24)).put (some 100) (vs 25)).put (some 101) (vs 26)).put (some 102) (vs 27)).put (some 103) (vs 28)).put (some 104) (vs 29)).put (some 105) (vs 30)).put (some 106) (vs 31)).put (some 107) (vs 32)).put (some 108) (vs 33)).put (some 109) (vs 34)).put (some 110) (vs 35)).put (some 111) (vs 36)).put (some 112) (vs 37)).put (some 113) (vs 38)).put (some 114) (vs 39)).put (some 115) (vs 40)).put (some 116) (vs 41)).put (some 117) (vs 42)).put (some 118) (vs 43)) _
            rw [e0, e1, e2, e3, e4, e5, e6, e7, e8, e9, e10, e11, e12, e13, e14, e15, e16, e17, e18, e19, e20, e21, e22, e23, e24, e25, e26, e27, e28, e29, e30, e31, e32, e33, e34, e35, e36, e37, e38, e39, e40, e41, e42, e43]
            clear e0 e1 e2 e3 e4 e5 e6 e7 e8 e9 e10 e11 e12 e13 e14 e15 e16 e17 e18 e19 e20 e21 e22 e23 e24 e25 e26 e27 e28 e29 e30 e31 e32 e33 e34 e35 e36 e37 e38 e39 e40 e41 e42 e43 hs hne vs
            simp only [List.drop_succ_cons, List.drop_zero, List.drop_nil, Act.put, List.setIfInBounds_toArray, List.set_cons_succ, List.set_cons_zero]
            have B14 := Lib.hid (bthen B13.out hb7)
            have HO14 := Lib.hid (owns_old HO13.out hb7)
            clear hb7 HLV HKD CSM HO13 B13
            as_aux_lemma =>
            go_upto_region 21 with (fail)
            refine wp_region_lit ?_
            refine wpList_val (w' := w14) rfl (v := .slice (some ⟨b, o, none⟩) n c) (by simp only [execOp]; go_simp) ?_
            simp only [Act.put, List.setIfInBounds_toArray, List.set_cons_succ, List.set_cons_zero]
            refine wpList_val (w' := w14) rfl (v := .int .i64 j) (by simp only [execOp]; go_simp) ?_
            simp only [Act.put, List.setIfInBounds_toArray, List.set_cons_succ, List.set_cons_zero]
            refine wpList_val (w' := w14) rfl (v := .pointer (some ⟨b, o + j * 26, none⟩)) (by simp only [execOp]; go_simp) ?_
            simp only [Act.put, List.setIfInBounds_toArray, List.set_cons_succ, List.set_cons_zero]
            refine wpList_val (w' := w14) rfl (v := .pointer (some ⟨b, o + j * 26 + 9, none⟩)) (by simp only [execOp]; go_simp) ?_
            simp only [Act.put, List.setIfInBounds_toArray, List.set_cons_succ, List.set_cons_zero]
            refine wpList_load_mid rfl 50 (.tmp 122) rfl b (o + j * 26 + 9) rfl ms _ (HLM.out w14 (bthen HBW.out B14.out)) Try.underlying50 rfl HMJ.out ?_
            simp only [Act.put, List.setIfInBounds_toArray, List.set_cons_succ, List.set_cons_zero]
            refine ops_made 50 zeroMg rfl rfl (.tmp 18) (.tmp 123) (fun ρ w => alloc_msg19 ρ _ rfl w) rfl ms (HML.out.trans rfl) (by kernel_rfl) (all_oneCell_toArray HMO.out) rfl rfl fun w15 b15 k15 z15 => ?_
            simp only [Act.put, List.setIfInBounds_toArray, List.set_cons_succ, List.set_cons_zero]
            have B15 := Lib.hid (bthen B14.out b15)
            have KM15 := Lib.hid k15
            have HO15 := Lib.hid (owns_old HO14.out b15)
            clear z15 k15 b15 B14 HO14
            go_upto_region 22 with (fail)
            have m1 := HME.out w15 _ KM15.out
            have HKC15 := blk_below HKC12.out B15.out
            have ba15 := below_alloc w15 (.cells #[.int .i64 0, .slice none 0 0] 24 (0, 0))
            have x0 : w15.cell? ⟨w.heap.size, 0, none⟩ = some (.int .i64 e0) := by rw [blk_cell HKC15]; rfl
            have x1 : w15.cell? ⟨w.heap.size, 1, none⟩ = some (.slice a0 n0 c0) := by rw [blk_cell HKC15]; rfl
            have xa0 := below_cell ba15 x0
            have xa1 := below_cell ba15 x1
            have ma1 := below_cell ba15 m1
            have hlx := World.block_lt x0
            have hlm := World.block_lt m1
            obtain ⟨E0, hE0⟩ : ∃ E0, E0 = (y.m.e == 0) := ⟨_, rfl⟩
            have HE0 := Lib.hid hE0
            clear HKC15 ba15
            rw [eq_comm] at hE0
            go_cut [19, 20] (fun v19 v20 wc => Hid (v20 = .bool E0 ∧ ∃ cb, v19 = .pointer (some ⟨cb, 0, none⟩) ∧ wc.heap[cb]? = some (.cells #[.int .i64 e0, .slice a0 n0 c0] 24 (0, 0)) ∧ Below w15.heap.size w15 wc ∧ w15.heap.size ≤ cb))
            case first =>
              go_region
              all_goals go_wp2_with fail
              all_goals go_meet
              all_goals exact Lib.hid ⟨rfl, _, rfl, blk_alloc _ _, bdrew (below_alloc _ _), Nat.le_refl _⟩
            case rest =>
            obtain ⟨rfl, cb, rfl, kcb, bcb, hcb⟩ := hcut.out
            obtain ⟨w16, rfl⟩ : ∃ u : World, u = wc := ⟨_, rfl⟩
            have B16 := Lib.hid (bthen B15.out bcb)
            have KCB := Lib.hid kcb
            have HO16 := Lib.hid (owns_old HO15.out bcb)
            have KM16 := Lib.hid (blk_below KM15.out bcb)
            have hm16 := HME.out w16 _ KM16.out
            clear hcut kcb bcb x0 x1 xa0 xa1 m1 ma1 hlx hlm hE0
            as_aux_lemma =>
            go_wp2_with fail
            refine (CCh.out w16 (bthen HB12.out B16.out)).mono ?_
            rintro r w17 ⟨hb17, la, lc, lxs, rfl, hlo, hlr⟩
            have hcl : (chainL (s'.c0 :: s'.cs) s'.ss).length = s'.ss.length := by have := HIN'.out.len; unfold chainL; simp; omega
            have h64 := HIN'.out.l64
            have HSL := Lib.hid (rsl_chain (Y := fun k => k = cb) (by omega) hlo hlr (fun k h => by subst h; exact blk_lt KCB.out))
            have B17 := Lib.hid (bthen B16.out hb17)
            have KCB17 := Lib.hid (blk_below KCB.out hb17)
            have HO17 := Lib.hid (owns_old HO16.out hb17)
            have KM17 := Lib.hid (blk_below KM16.out hb17)
            have m1 := HME.out w17 _ KM17.out
            generalize hcn : (chainL (s'.c0 :: s'.cs) s'.ss) = LL at *
            have h64L : LL.length ≤ 64 := by omega
            have HLL := Lib.hid hcn
            obtain ⟨NZ, hNZ⟩ : ∃ NZ, NZ = decide (1 ≤ y.m.e) := ⟨_, rfl⟩
            have hkn := HT.out.known
            have hce : confAt s y.m.e = some (confL s y.m.e) := by
              unfold confL
              cases hc : confAt s y.m.e with
              | none => rw [hc] at hkn; cases hkn
              | some c => rfl
            have hr64 := conf_right HIN.out hce
            have hep : 0 ≤ y.m.e ∧ y.m.e ≤ (LL.length : Int) := by
              unfold confAt at hce
              split at hce
              · cases hce
              · have := (List.getElem?_eq_some_iff.1 hce).1
                have h1 := HIN.out.len
                have h2 := HXR.out.2.2.2.1
                simp only [List.length_cons] at this
                rw [hcl, h2]
                omega
            have HCE := Lib.hid hce
            have HR64 := Lib.hid hr64
            have dl : decide (y.m.e ≤ (LL.length : Int)) = true := decide_eq_true hep.2
            have dl2 : y.m.e ≤ (LL.length : Int) := hep.2
            have hEN : E0 = !NZ := by
              rw [HE0.out, hNZ]
              by_cases h : y.m.e = 0
              · rw [h]; rfl
              · have : 1 ≤ y.m.e := by omega
                simp [h, this]
            subst hEN
            have HNZ := Lib.hid hNZ
            have dN : decide (1 ≤ y.m.e) = NZ := hNZ.symm
            clear hlo hlr hb17 hcn hkn hce hr64 hcl hNZ CCh HO16 KM16 KCB hm16 B16
            go_upto_region 24 with (fail)
            go_cut [139] (fun v139 wc => Hid (v139 = .bool NZ ∧ Below w17.heap.size w17 wc))
            case first =>
              cases NZ
              all_goals
                go_wp2_with fail
                go_meet
                case rel => exact Lib.hid ⟨rfl, Below.refl _ _⟩
            case rest =>
            obtain ⟨rfl, hb18⟩ := hcut.out
            obtain ⟨w18, rfl⟩ : ∃ u : World, u = wc := ⟨_, rfl⟩
            have HK18 := Lib.hid (show Keep (fun k => k = cb) w17 w18 from Keep.of_below hb18)
            have KCB18 := Lib.hid (blk_below KCB17.out hb18)
            have m18 := below_cell hb18 m1
            have hcl18 := blk_lt KCB18.out
            have B18 := Lib.hid (bthen B17.out hb18)
            have HO18 := Lib.hid (owns_old HO17.out hb18)
            have KM18 := Lib.hid (blk_below KM17.out hb18)
            have HCB := Lib.hid hcb
            clear hcut hb18 m1 HO17 KM17 KCB17 B17 hcb
            as_aux_lemma =>
            go_upto_if 139 with (fail)
            go_cut [20] (fun v20 wc => Hid (v20 = .bool true ∧ ∃ am cm, wc.heap[cb]? = some (.cells #[.int .i64 (confL s y.m.e).1, .slice am (confL s y.m.e).2.length cm] 24 (0, 0)) ∧ SlAt Sh.int wc am (confL s y.m.e).2.length cm (confL s y.m.e).2 ∧ Keep (fun k => k = cb) w18 wc))
            case first =>
              cases NZ with
              | false =>
                have h0' : y.m.e = 0 := by have := of_decide_eq_false HNZ.out.symm; omega
                have hcf : confL s y.m.e = (e0, l0) := by
                  have := HCE.out
                  rw [h0'] at this ⊢
                  rw [← HSD.out.1]
                  unfold confL confAt
                  rfl
                have HX := Lib.hid (show w18.heap[cb]? = some (.cells #[.int .i64 (confL s y.m.e).1, .slice a0 (confL s y.m.e).2.length c0] 24 (0, 0)) ∧ SlAt Sh.int w18 a0 (confL s y.m.e).2.length c0 (confL s y.m.e).2 from by
                  rw [hcf]
                  dsimp only
                  rw [hl0]
                  exact ⟨KCB18.out, HI.out.old (bthen HBW.out B18.out)⟩)
                clear hcf h0'
                go_wp2_with fail
                go_meet
                case rel => exact Lib.hid ⟨rfl, a0, c0, HX.out.1, HX.out.2, Keep.refl _ _⟩
              | true =>
                have h1' : 1 ≤ y.m.e := of_decide_eq_true HNZ.out.symm
                obtain ⟨k, hk⟩ : ∃ k : Nat, y.m.e = (k : Int) + 1 := ⟨(y.m.e - 1).toNat, by omega⟩
                have hkl : k < LL.length := by omega
                have hget : ∃ sg, LL[k]? = some (confL s y.m.e, sg) := by
                  have h1 := HCE.out
                  have h2 := h1
                  unfold confAt at h2
                  rw [if_neg (by omega)] at h2
                  have h3 : y.m.e.toNat = k + 1 := by omega
                  rw [h3] at h2
                  have hss : k < s'.ss.length := by have := HIN'.out.len; rw [← HLL.out] at hkl; unfold chainL at hkl; simp at hkl; omega
                  refine ⟨s'.ss[k], ?_⟩
                  rw [← HLL.out]
                  refine chainL_get ?_ (List.getElem?_eq_getElem hss)
                  rw [HXR.out.2.2.2.2, HXR.out.2.2.1]
                  exact h2
                obtain ⟨sg, hget⟩ := hget
                obtain ⟨lb, lo, csl, hla, hE, hcl⟩ := HSL.out.el k _ hget
                obtain ⟨a', n', c', sa, sn, sc, rfl, hsl⟩ := link_E (hE w18 HK18.out)
                have y0 : w18.cell? ⟨lb, lo + k * 3, none⟩ = some (.int .i64 (confL s y.m.e).1) := hcl 0 _ rfl w18 HK18.out
                have y1 : w18.cell? ⟨lb, lo + k * 3 + 1, none⟩ = some (.slice a' n' c') := hcl 1 _ rfl w18 HK18.out
                have hn' : n' = (confL s y.m.e).2.length := hsl.len.symm
                have hks : Keep (fun k => k = cb) w18 ((w18.setCell ⟨cb, 0, none⟩ (.int .i64 (confL s y.m.e).1)).setCell ⟨cb, 1, none⟩ (.slice a' (confL s y.m.e).2.length c')) := ((Keep.refl (fun k => k = cb) w18).set (.inr rfl) 0 _).set (.inr rfl) 1 _
                have HX := Lib.hid (show ((w18.setCell ⟨cb, 0, none⟩ (.int .i64 (confL s y.m.e).1)).setCell ⟨cb, 1, none⟩ (.slice a' (confL s y.m.e).2.length c')).heap[cb]? = some (.cells #[.int .i64 (confL s y.m.e).1, .slice a' (confL s y.m.e).2.length c'] 24 (0, 0)) ∧ SlAt Sh.int ((w18.setCell ⟨cb, 0, none⟩ (.int .i64 (confL s y.m.e).1)).setCell ⟨cb, 1, none⟩ (.slice a' (confL s y.m.e).2.length c')) a' (confL s y.m.e).2.length c' (confL s y.m.e).2 from by
                  refine ⟨by rw [blk_set (blk_set KCB18.out 0 _) 1 _]; rfl, ?_⟩
                  obtain ⟨a2', n2', c2', sa2, sn2, sc2, he2, hsl2⟩ := link_E (hE _ (HK18.out.trans hks (fun _ _ h => h)))
                  have h1 : Value.slice a' n' c' = Value.slice a2' n2' c2' := by injection he2 with _ h2; injection h2
                  injection h1 with g1 g2 g3
                  subst g1 g2 g3
                  rw [hn'] at hsl2
                  exact hsl2)
                have HKS := Lib.hid hks
                subst hla
                rw [hn'] at y1
                have z0 : w18.cell? ⟨cb, 0, none⟩ = some (.int .i64 e0) := by rw [blk_cell KCB18.out]; rfl
                have z1 : w18.cell? ⟨cb, 1, none⟩ = some (.slice a0 n0 c0) := by rw [blk_cell KCB18.out]; rfl
                have zf : ∀ i, w18.frozen? ⟨cb, i, none⟩ = false := fun i => blk_frozen KCB18.out i
                have hsub : IntKind.i64.wrap (y.m.e - 1) = (k : Int) := by rw [IntWalk.i64_in _ (by omega)]; omega
                have hk0 : (0 : Int) ≤ (k : Int) := by omega
                have hk1 : (k : Int) < (LL.length : Int) := by omega
                clear hE hcl hsl hget hks hk h1'
                go_wp2_with fail
                go_meet
                case rel => exact Lib.hid ⟨rfl, a', c', HX.out.1, HX.out.2, HKS.out⟩
            case rest =>
            obtain ⟨rfl, am, cm, kc19, hs19, hk19⟩ := hcut.out
            obtain ⟨w19, rfl⟩ : ∃ u : World, u = wc := ⟨_, rfl⟩
            have HCT := Lib.hid (HT.out.count HMR.out.1)
            have HKN := Lib.hid (fun k : Nat => @sent_step ((script.drop F).take (j + 1 - F)) (confL s y.m.e).2 s.q y.m.e y.m.c y.m.r k)
            have hl4 := HR64.out.1
            have hl10 := HR64.out.2.1
            have HRM := Lib.hid HR64.out.2.2.1
            generalize confL s y.m.e = cf at *
            obtain ⟨ce, l⟩ := cf
            dsimp only at kc19 hs19 hl4 hl10 HKN HCT
            have HM := Lib.hid hs19
            have KC19 := Lib.hid kc19
            have hb18 := bthen HBW.out B18.out
            have BW19 := Lib.hid (show Below w.heap.size w w19 from hk19.below hb18 (fun k hk => by subst hk; have := HCB.out; have := (bthen HBW.out B15.out).size; omega))
            have HO19 := Lib.hid (show w19.ownsRow w12.heap.size 45 2 (.slice a13 nb c13) nb (ressV s'.rs) from owns_keep HO18.out hk19 (fun k hk e => by subst e; have := (HO15.out.lt _ hk).2; have := HCB.out; omega))
            have KM19 := Lib.hid (show w19.heap[w14.heap.size]? = _ from (hk19.block _ (blk_lt KM18.out) (fun e => by have := HCB.out; have := blk_lt KM15.out; omega)).trans KM18.out)
            have KQ19 := Lib.hid (show w19.heap[qb]? = _ from (hk19.block _ (Nat.lt_of_lt_of_le (blk_lt KQ12.out) B18.out.size) (fun e => by have := HCB.out; have := blk_lt KQ12.out; have := B15.out.size; omega)).trans (blk_below KQ12.out B18.out))
            have HEND19 := Lib.hid (show ∀ (wa : World), Below w19.heap.size w19 wa → BSt w B p e0 l0 script F (j + 1) wa ∧ wa.heap[w.heap.size]? = some (.cells #[.int .i64 e0, .slice a0 n0 c0] 24 (0, 0)) ∧ w.heap.size < B from fun wa hwa => HEND.out wa (bthen (hk19.below (bthen (Below.refl _ _) B18.out) (fun k hk => by subst hk; have := HCB.out; have := B15.out.size; omega)) hwa))
            clear hcut hk19 kc19 hs19 hb18 m18 hcl18 KCB18 HK18
            as_aux_lemma =>
            have x1 : w19.cell? ⟨cb, 1, none⟩ = some (.slice am l.length cm) := by rw [blk_cell KC19.out]; rfl
            generalize hSUB : (script.drop F).take (j + 1 - F) = SUB at *
            have HSB := Lib.hid hSUB
            clear hSUB
            go_wp2_with fail
            go_loopw [22, 23] (fun v v2 wr => ∃ k : Nat, k ≤ l.length ∧ v2 = .int .i64 k ∧ v = .int .i64 (sentN SUB (l.take k) s.q y.m.e y.m.c y.m.r) ∧ Hid (Below w19.heap.size w19 wr)) (fun _ v2 _ => l.length - (intOf v2).toNat)
            case atStart => exact ⟨0, by omega, rfl, rfl, Lib.hid (Below.refl _ _)⟩
            case round =>
              obtain ⟨k, hk, rfl, rfl, Hb⟩ := hrel
              have x1' := below_cell Hb.out x1
              by_cases hlk : k < l.length
              · obtain ⟨bm, om, x', rfl, hc, b0, b1, -, hx⟩ := (ints_of_sl (HM.out.old Hb.out)).elem k hlk
                have HX := Lib.hid (HKN.out k (show l.take (k + 1) = l.take k ++ [x'] by rw [List.take_add_one, hx.out]; rfl))
                have hki : IntKind.i64.wrap ((k : Int) + 1) = ((k + 1 : Nat) : Int) := IntWalk.i64_in _ (by omega)
                have hdd : decide ((k : Int) < (l.length : Int)) = true := by simp; omega
                have hsn : sentN SUB (l.take k) s.q y.m.e y.m.c y.m.r ≤ k := Nat.le_trans (sentN_le _ _ _ _ _ _) (by rw [List.length_take]; omega)
                generalize sentN SUB (l.take k) s.q y.m.e y.m.c y.m.r = cn at *
                have hcn : IntKind.i64.wrap ((cn : Int) + 1) = ((cn + 1 : Nat) : Int) := IntWalk.i64_in _ (by omega)
                obtain ⟨g2, c2, hv2, hc2, r0, r1⟩ := ress_full (owns_old HO19.out Hb.out) HXR.out.2.1.symm HXR.out.1
                obtain ⟨rfl, rfl⟩ : a13 = some ⟨g2, 0, none⟩ ∧ c13 = c2 := by injection hv2 with h1 h2 h3; exact ⟨h1, h3⟩
                have hFj : F ≤ j := HSD.out.2.2
                have hj3 : j + 1 ≤ n := by omega
                have hslc := slice19 b o n c F (j + 1) (by omega) (by omega) (by omega)
                have HSS := Lib.hid (sl_sub (HS.out.old (bthen BW19.out Hb.out)) (i := F) (m := j + 1 - F) (by omega) (by omega))
                rw [HSB.out] at HSS
                have CSN := Lib.hid (fun (wa : World) (hwa : Below wr.heap.size wr wa) => sent_any wa (some ⟨b, o + F * 26, none⟩) (j + 1 - F) (c - F) SUB (HSS.out.old hwa) x' s.q HMR.out.2.2 y.m.e y.m.c y.m.r HMR.out.1)
                have m1 := below_cell Hb.out (HME.out w19 _ KM19.out)
                have KQr := blk_below KQ19.out Hb.out
                have q0 : wr.cell? ⟨qb, 0, none⟩ = some (.int .i64 s.q.c) := by rw [blk_cell KQr]; rfl
                have q1 : wr.cell? ⟨qb, 1, none⟩ = some (.int .i64 s.q.s) := by rw [blk_cell KQr]; rfl
                have q2 : wr.cell? ⟨qb, 2, none⟩ = some (.int .i64 s.q.kind) := by rw [blk_cell KQr]; rfl
                have q3 : wr.cell? ⟨qb, 3, none⟩ = some (.string s.q.key) := by rw [blk_cell KQr]; rfl
                have q4 : wr.cell? ⟨qb, 4, none⟩ = some (.float .f64 s.q.b) := by rw [blk_cell KQr]; rfl
                have q5 : wr.cell? ⟨qb, 5, none⟩ = some (.int .i64 s.q.id) := by rw [blk_cell KQr]; rfl
                have ly1 := World.block_lt x1'; have ly2 := World.block_lt m1; have ly3 := World.block_lt q0; have ly4 := World.block_lt r0; have ly5 := World.block_lt r1; have ly6 := World.block_lt hc
                unfold Rq.v at CSN
                obtain ⟨J1, hJ⟩ : ∃ J1, J1 = j + 1 := ⟨_, rfl⟩
                rw [← hJ] at hkj hslc CSN
                have ks1 : (F : Int) ≤ (J1 : Int) := by omega
                have ks2 : (0 : Int) ≤ (F : Int) := by omega
                have ks3 : (J1 : Int) ≤ (c : Int) := by omega
                have ks4 : (0 : Int) ≤ (J1 : Int) := by omega
                have ks5 : ¬ c = F := by omega
                have ks6 : F ≤ J1 := by omega
                have ks7 : J1 ≤ c := by omega
                have kk0 : (0 : Int) ≤ (k : Int) := by omega
                have kk1 : (k : Int) < (l.length : Int) := by omega
                clear hJ
                generalize hST : sentB SUB x' s.q y.m.e y.m.c y.m.r = ST at *
                clear hv2 hx KQr
                go_upto_region 30 with (fail)
                refine wp_region_below (by kernel_rfl) (by kernel_rfl) ?_
                repeat (refine wpQuiet_step (fun K hK => ?_); go_simp; first | (refine hK _ ?_; clear hK K) | (apply Exists.intro; refine ⟨fun w' hw' => ?_, hK _ ?_⟩; (first | (go_at_call 14; exact Calls.quiet_below hw' (CSN.out _ hw')) | (with_reducible rfl) | (obtain ⟨cc, dd⟩ := bcell hw'; go_simp; rfl)); clear hK K))
                refine wpQuiet_nil ?_
                intro w20 hb20
                have Hb20 := Lib.hid (bthen Hb.out hb20)
                clear hb20 q0 q1 q2 q3 q4 q5 r0 r1 m1 b0 b1 hslc CSN HSS
                cases ST with
                | false =>
                  have HN := Lib.hid (show sentN SUB (l.take (k + 1)) s.q y.m.e y.m.c y.m.r = cn by rw [HX.out, if_neg (by simp)]; rfl)
                  clear HX
                  go_wp2_with fail
                  go_roundw
                  case rel => exact ⟨k + 1, by omega, by go_num, by rw [HN.out], Hb20⟩
                  case measure => simp [intOf]; omega
                | true =>
                  have HN := Lib.hid (show sentN SUB (l.take (k + 1)) s.q y.m.e y.m.c y.m.r = cn + 1 by rw [HX.out, if_pos (by simp)])
                  clear HX
                  go_wp2_with fail
                  go_roundw
                  case rel => exact ⟨k + 1, by omega, by go_num, by rw [HN.out]; simp, Hb20⟩
                  case measure => simp [intOf]; omega
              · have hkn : k = l.length := by omega
                subst hkn
                have hd : decide ((l.length : Int) < (l.length : Int)) = false := by simp
                rw [List.take_of_length_le (Nat.le_refl _)]
                have CWk := Lib.hid (fun w' : World => weak_any (l.length : Int) w' (by omega) (by omega))
                have hct := HCT.out
                generalize sentN SUB l s.q y.m.e y.m.c y.m.r = cn at *
                generalize weakP (l.length : Int) = wk at *
                have hdw : decide ((cn : Int) < wk) = false := by simp; omega
                go_wp2_with fail
                refine (CWk.out _).mono ?_
                rintro r w20 ⟨rfl, rfl⟩
                go_wp2_with fail
                go_roundw
                case rel =>
                  have hE := HEND19.out wr Hb.out
                  exact ⟨j + 1, F, by omega, by go_num, by simp, Lib.hid hE.1, Lib.hid hE.2⟩
                case measure => simp [intOf]; omega
      · have hjn : j = n := by omega
        subst hjn
        have hd : decide ((j : Int) < (j : Int)) = false := by simp
        obtain ⟨Z, s, hc, hsc, hshs, hb, hBz, hbel⟩ := HG.out
        have B := Lib.hid hb
        clear hc hb HG hbel HKC
        go_wp2_with fail
        go_ret
        exact ⟨rfl, B.out⟩
  · go_wp2_with fail
    go_ret
    exact ⟨rfl, B2.out⟩

set_option maxRecDepth 100000 in
theorem lifted (os : Os) (started : os.Started) (H : Type) (enc : TypeId × Value → H) :
    ReturnsInHanded {} Try.checked os 3 .any (Rows.clientBelievesSpec.pre6 enc Try.prog Try.f3 Rows.clientBelievesRow.domain false) (Rows.clientBelievesSpec.post enc Try.prog Try.f3 false true false false) := by
  refine returnsInHanded_of_change_sized (C := Try.checked) own started (by kernel_rfl) Try.func3
    (ChangeSpec.witness6 (enc := enc) (C := Try.checked) false ⟨#[], #[.int .i64 0, .agg #[.int .i64 0, .slice none 0 0], .slice none 0 0], []⟩ 8 (by kernel_rfl) (by kernel_rfl) (by kernel_rfl) (by kernel_rfl)) ?_
  intro W base args ds gs before hval0 hW hcnd hsz _
  have hval : ∀ (j : Nat) t v, Try.f3.params[j]? = some t → args[j]? = some v → Value.okWide Try.prog W .any base t v := hval0
  have hW' := hW
  obtain ⟨p, q, hA0, hV, rfl, hfz, hnd⟩ := hW
  have hA : DataW.TrodAll enc Try.prog W 0 (fun _ => true) true Try.f3.params.toList args.toList ds p := hA0
  rw [Try.params3] at hA hval hsz
  have hA2 := hA
  obtain ⟨v0, vs0, d0, ds0, p0, q0, hargs, rfl, rfl, h0, r0⟩ := trodAll_cons hA
  obtain ⟨v1, vs1, d1, ds1, p1, q1, rfl, rfl, rfl, h1, r1⟩ := trodAll_cons r0
  obtain ⟨v2, vs2, d2, ds2, p2, q2, rfl, rfl, rfl, h2, r2⟩ := trodAll_cons r1
  obtain ⟨rfl, rfl, rfl⟩ := trodAll_nil r2
  obtain rfl : args = #[v0, v1, v2] := by cases args; simp_all
  obtain ⟨rfl, rfl⟩ := trodVars_none hV
  clear hargs
  have k0 := hval 0 3 v0 rfl rfl
  obtain ⟨fu0, m0⟩ := h0
  have w0 := weights_of hsz (j := 0) (t := 3) rfl rfl
  obtain ⟨a0, e0, f0⟩ := view_int Try.underlying3 m0
  have e0' := int_of Try.underlying3 k0 e0
  subst e0'
  have k1 := hval 1 24 v1 rfl rfl
  obtain ⟨fu1, m1⟩ := h1
  have w1 := weights_of hsz (j := 1) (t := 24) rfl rfl
  have F1 : Fit Try.prog 24 d1 := .inl w1
  have s1 := cells_agg Try.underlying24 k1
  obtain ⟨y1, E1, g1⟩ := vwConf.2.2 m1 F1
  obtain ⟨p1, l1, a1, n1, c1, rfl, e1, f1, j1⟩ := conf_open E1
  obtain ⟨z1, s11, s12⟩ := s1
  have e1' := agg_of ⟨s11, s12⟩ e1
  subst e1'
  have k2 := hval 2 25 v2 rfl rfl
  obtain ⟨fu2, m2⟩ := h2
  have w2 := weights_of hsz (j := 2) (t := 25) rfl rfl
  have F2 : Fit Try.prog 25 d2 := .inl w2
  obtain ⟨l2, ⟨a2, n2, c2, e2, f2⟩, g2⟩ := vwSteps19.2.2 m2 F2
  have e2' := slice_of Try.underlying25 k2 e2
  subst e2'
  refine (walk W a0 f0 p1 a1 n1 c1 l1 f1 j1 a2 n2 c2 l2 f2).mono fun e W' ⟨he, bel⟩ => ?_
  subst he
  exact ⟨_, rfl, _, _, _, [], _, [], hW', trodAll_mk1 (shut_bool Try.underlying4 _), trodAll_again laidOut bel (by kernel_rfl) hA2, rfl, bel.frame _, fun h => by cases h⟩

theorem over : Rows.clientBelievesRow.holds Try.pinned (OpenSpec.ofChange Rows.clientBelievesSpec) :=
  OpenClaim.holds_of_wide 3 Try.f3 rfl rfl rfl rfl rfl rfl rfl ⟨rfl, rfl, rfl, rfl, rfl⟩ rfl rfl rfl rfl rfl (by kernel_rfl) Try.func3 (by kernel_rfl)
    (of_decide_eq_true (by kernel_rfl)) (by unfold Func.isWrapper; first | (rw [if_pos (by decide +kernel)]; kernel_rfl) | (rw [if_neg (by decide +kernel)]; exact ⟨rfl, rfl⟩))
    (fun os started H enc _ => lifted os started H enc)

theorem proved : Rows.ClientBelievesSaid := over
#print axioms proved
end Go.Proofs.Ytijeieamodjgbab.clientBelieves
