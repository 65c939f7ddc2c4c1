
/- ClientOnce: stamps rise by one, each request is accepted once at most, in order, and none is asked while one is open: for every input the law returns true, and its arguments read as before. No condition. -/
import Derived.Test.YtijeieamodjgbaaCr
import Derived.Test.YtijeieamodjgbaaWw
import Derived.Test.YtijeieamodjgbaaCa
import Derived.Test.YtijeieamodjgbaaCk
import Derived.Test.YtijeieamodjgbaaDv
import Derived.Test.YtijeieamodjgbaaNews3
import Derived.Test.YtijeieamodjgbaaWe
import Derived.Test.YtijeieamodjgbaaCo
import Derived.Test.YtijeieamodjgbaaCn

namespace Go.Proofs.Ytijeieamodjgbaa
set_option maxRecDepth 100000
open Go.RowKit Go.Maps Go.Deep
set_option linter.unusedVariables false
set_option linter.unusedSimpArgs false
attribute [local go_sem] run_store_float

def stateS (s : Cst) (L : List Lk) : Cst := if takeC s.c0 s.cs L = 0 then { s with cs := L.map (·.1), ss := L.map (·.2) } else s
def handleS (s : Cst) (fr : Int) (m : Mg) : Cst := if mgErr m ≠ 0 then s else if m.k = 8 then replyS s fr m.e m.q m.c m.r else if m.k = 10 then stateS s m.lk else s
theorem take_parts {c0 : Cf} {cs : List Cf} {L : List Lk} (h : takeC c0 cs L = 0) : L.length ≤ 64 ∧ chainC c0 L = 0 ∧ cs.length ≤ L.length := by
  unfold takeC at h
  split at h
  · cases h
  · refine ⟨by omega, ?_, ?_⟩
    · unfold checkC at h
      split at h
      · exact absurd h (by assumption)
      · rename_i hc
        simpa using hc
    · unfold checkC at h
      split at h
      · exact absurd h (by assumption)
      · split at h
        · cases h
        · split at h
          · cases h
          · simp only [List.length_cons] at *; omega
theorem state_inv {s : Cst} (h : CInv s) {L : List Lk} (ht : takeC s.c0 s.cs L = 0) : CInv { s with cs := L.map (·.1), ss := L.map (·.2) } := by
  have hp := take_parts ht
  refine ⟨by simp, by simpa using hp.1, h.id, h.st, h.q, fun c hc => ?_, h.opn, h.na, h.nr, h.ac, h.hs⟩
  rcases List.mem_cons.1 hc with rfl | hc
  · exact h.right _ (.head _)
  · obtain ⟨y, hy, rfl⟩ := List.mem_map.1 hc
    obtain ⟨i, hi⟩ := List.getElem?_of_mem hy
    exact (chain_epoch L s.c0 hp.2.1 i y hi).2
def HandlePost (Z : Nat → Prop) (B p : Nat) (s s' : Cst) (w : World) (r : Ending) (w' : World) : Prop :=
  r = .returned (.slice none 0 0) ∧ Keep Z w w' ∧ ∃ Z' : Nat → Prop, (∀ k, Z' k → Z k ∨ w.heap.size ≤ k) ∧ Cli Z' w' B p s'
theorem handle_none {Z : Nat → Prop} {B p : Nat} {s : Cst} {w w' : World} (h : Cli Z w B p s) (hb : Below w.heap.size w w') : HandlePost Z B p s s w (.returned (.slice none 0 0)) w' :=
  ⟨rfl, Keep.of_below hb, Z, fun k hk => .inl hk, h.old hb⟩
/-- The tracker alone has turned. -/
theorem CliAt.take {X X' : Nat → Prop} {w w' : World} {B p t : Nat} {oc os oc' os' om oa ob : Option Nat} {s : Cst} (h : CliAt X w B p t oc os om oa ob s) {L : List Lk} (hz : takeC s.c0 s.cs L = 0)
    (hsub : ∀ j, trX t oc' os' j → trX t oc os j ∨ w.heap.size ≤ j) (hX : XSub X X' w) (ht : Trk X' w' B t oc' os' (s.c0 :: L.map (·.1)) (L.map (·.2))) (hk : Keep (trX t oc os) w w') :
    CliAt X' w' B p t oc' os' om oa ob { s with cs := L.map (·.1), ss := L.map (·.2) } := by
  have hlt := h.lt
  obtain ⟨va, vb, hp, h1, e1, h2, e2⟩ := h.ex
  refine ⟨ht, state_inv h.inv hz, h.hB, fun k hm => ⟨(h.hm k hm).1, Nat.lt_of_lt_of_le (h.hm k hm).2 hk.size⟩, fun k hy => ⟨hX.2 k (hlt k hy).2 (h.own k hy).1, fun hc => ?_⟩, h.nop, h.nom, h.noa, ⟨va, vb, ?_, ?_, e1, ?_, e2⟩, fun hq => ?_⟩
  · rcases hsub k hc with hc | hc
    · exact (h.own k hy).2 hc
    · have := (hlt k hy).2; omega
  · rw [hk.block p (blk_lt hp) (h.own p (.inl rfl)).2]; exact hp
  · exact owns_keep h1 hk (fun k hk' => (h.own k (.inr (.inr (.inl (by rw [← e1]; exact hk'))))).2)
  · exact owns_keep h2 hk (fun k hk' => (h.own k (.inr (.inr (.inr (by rw [← e2]; exact hk'))))).2)
  · obtain ⟨m, n, D, hm, ho, hn, hc⟩ := h.mp hq
    exact ⟨m, n, D, hm, rawC_block ho (hk.block m ho.lt (h.own m (.inr (.inl hm))).2), hn, hc⟩
theorem rsl_sub {α : Type} {S : Sh α} {X X' : Nat → Prop} {w : World} {a : Option Addr} {n c : Nat} {l : List α} (h : RSl S X w a n c l) (hX : ∀ k, X' k → X k) : RSl S X' w a n c l :=
  h.step (Keep.refl (fun _ => False) w) (fun _ _ hf => hf.elim) (fun k _ hx => hX k hx)
set_option maxHeartbeats 4000000 in
theorem handle_any {Z : Nat → Prop} {B p : Nat} {s : Cst} (w : World) (h : Cli Z w B p s) (hB : B ≤ w.heap.size) (nw fr : Int) (m : Mg) (a1 : Option Addr) (n1 c1 : Nat) (a2 : Option Addr) (n2 c2 : Nat) (a3 : Option Addr) (n3 c3 : Nat) (a4 : Option Addr) (n4 c4 : Nat)
    (hm : MsgIn w m a1 n1 c1 a2 n2 c2 a3 n3 c3 a4 n4 c4) (hr : RSl shLink Z w a4 n4 c4 m.lk) (hfr : i64 fr) (hhs : s.hs < 70368744177664) :
    Calls Try.prog 92 #[.pointer (some ⟨p, 0, none⟩), .int .i64 nw, .int .i64 fr, .agg (mgCs m a1 n1 c1 a2 n2 c2 a3 n3 c3 a4 n4 c4).toArray] w (HandlePost Z B p s (handleS s fr m) w) := by
  have H0 := Lib.hid h
  obtain ⟨w1, hw1⟩ : ∃ u, u = w.alloc (.cells (mgCs m a1 n1 c1 a2 n2 c2 a3 n3 c3 a4 n4 c4).toArray 34 (0, 0)) := ⟨_, rfl⟩
  have b1 : Below w.heap.size w w1 := by rw [hw1]; exact below_alloc _ _
  have k1 : w1.heap[w.heap.size]? = some (.cells (mgCs m a1 n1 c1 a2 n2 c2 a3 n3 c3 a4 n4 c4).toArray 34 (0, 0)) := by rw [hw1]; exact blk_alloc _ _
  have CB := Lib.hid (fun (wa : World) (hb : Below w.heap.size w wa) => bytes13_any m a1 n1 c1 a2 n2 c2 a3 n3 c3 a4 n4 c4 wa (hm.old hb))
  have CR := Lib.hid (show ∀ (wa : World), Below w.heap.size w wa → Calls Try.prog 136 #[.pointer (some ⟨p, 0, none⟩), .int .i64 fr, .agg (mgCs m a1 n1 c1 a2 n2 c2 a3 n3 c3 a4 n4 c4).toArray] wa (ReplyPost Z B p s (replyS s fr m.e m.q m.c m.r) wa) from
    fun wa hb => reply_any wa (h.old hb) fr m.e m.q hm.q m.c m.r hm.r (.int .i64 m.k) (.int .i64 m.v) (.int .i64 m.s) (.string m.t) (.slice a1 n1 c1) (.slice a2 n2 c2) (.slice a3 n3 c3) (.slice a4 n4 c4) hfr hm.e hhs)
  obtain ⟨X, t, oc, os, om, oa, ob, h, hz⟩ := h.ex
  have CT := Lib.hid (fun (wa : World) (hb : Below w.heap.size w wa) => take_any X B t oc os s.c0 s.cs s.ss a4 n4 c4 m.lk wa (h.old hb).trk (Nat.le_trans hB hb.size) (by have := h.len; have := h.l64; simp; omega) (by have := h.l64; omega)
    ((rsl_sub hr (fun k hk => (hz k).2 (.inr hk))).step (Y := fun _ => False) (Keep.of_below hb) (fun _ _ hf => hf.elim) (fun _ _ h => h)))
  obtain ⟨va, vb, hp, -⟩ := h.ex
  have HP := Lib.hid hp
  have HZ := Lib.hid hz; have H := Lib.hid h
  have B1 := Lib.hid b1
  have KM := Lib.hid k1
  have HMS := Lib.hid (show handleS s fr m = if mgErr m ≠ 0 then s else if m.k = 8 then replyS s fr m.e m.q m.c m.r else if m.k = 10 then stateS s m.lk else s from rfl)
  have HSS := Lib.hid (show stateS s m.lk = if takeC s.c0 s.cs m.lk = 0 then { s with cs := m.lk.map (·.1), ss := m.lk.map (·.2) } else s from rfl)
  have y0 : w1.cell? ⟨w.heap.size, 0, none⟩ = some (.int .i64 m.k) := by rw [blk_cell k1]; rfl
  have y16 : w1.cell? ⟨w.heap.size, 16, none⟩ = some (.slice a4 n4 c4) := by rw [blk_cell k1]; rfl
  have hml : (mgCs m a1 n1 c1 a2 n2 c2 a3 n3 c3 a4 n4 c4).length = 17 := rfl
  have p1 : w1.cell? ⟨p, 1, none⟩ = some (.pointer (some ⟨t, 0, none⟩)) := by rw [blk_cell (blk_below hp b1)]; rfl
  generalize mgCs m a1 n1 c1 a2 n2 c2 a3 n3 c3 a4 n4 c4 = ms at *
  generalize mgErr m = E at *
  generalize mgText m = TX at *
  generalize handleS s fr m = s' at *
  generalize replyS s fr m.e m.q m.c m.r = sr at *
  generalize stateS s m.lk = sl at *
  generalize hTC : takeC s.c0 s.cs m.lk = TC at *
  have HTC := Lib.hid hTC
  clear hTC
  generalize m.k = mk at *
  have HLD := Lib.hid (show ∀ (wa : World), Below w1.heap.size w1 wa → ∀ (j : Nat) (u : Value), ms[j]? = some u → wa.cell? ⟨w.heap.size, 0 + j, none⟩ = some u from fun wa hb j u hu => by rw [Nat.zero_add, blk_cell (blk_below k1 hb)]; simpa using hu)
  have hmi : (Try.prog.info? 34).map (·.size) = some ms.length := by rw [hml]; kernel_rfl
  have HMI := Lib.hid hmi
  have HML := Lib.hid hml
  clear h hz hp b1 k1 hm hr hfr hhs hml hmi
  go_enter Try.func92, Try.ntmps92
  go_upto_region 3 with (fail)
  rw [← hw1]
  clear hw1
  refine wp_region_lit ?_
  refine wpList_load_mid rfl 34 (.tmp 7) rfl w.heap.size 0 rfl ms _ (HLD.out w1 (Below.refl _ _)) Try.underlying34 rfl HMI.out ?_
  simp only [Act.put, List.setIfInBounds_toArray, List.set_cons_succ, List.set_cons_zero]
  go_wp2_with fail
  refine (CB.out w1 B1.out).mono ?_
  rintro r w2 ⟨rfl, hb2⟩
  have B2 := Lib.hid (bthen B1.out hb2)
  have z0 := below_cell hb2 y0
  have z16 := below_cell hb2 y16
  have z1 := below_cell hb2 p1
  have BB2 := Lib.hid hb2
  clear hb2 y0 y16 p1 CB
  by_cases hE : E = 0
  · subst hE
    by_cases h8 : mk = 8
    · subst h8
      have HX := Lib.hid (show s' = sr by rw [HMS.out, if_neg (by simp), if_pos rfl])
      go_upto_region 8 with (fail)
      refine wp_region_lit ?_
      refine wpList_val (w' := w2) rfl (v := .pointer (some ⟨p, 0, none⟩)) (by simp only [execOp]; go_simp) ?_
      simp only [Act.put, List.setIfInBounds_toArray, List.set_cons_succ, List.set_cons_zero]
      refine wpList_val (w' := w2) rfl (v := .int .i64 fr) (by simp only [execOp]; go_simp) ?_
      simp only [Act.put, List.setIfInBounds_toArray, List.set_cons_succ, List.set_cons_zero]
      refine wpList_load_mid rfl 34 (.tmp 7) rfl w.heap.size 0 rfl ms _ (HLD.out w2 BB2.out) Try.underlying34 rfl HMI.out ?_
      simp only [Act.put, List.setIfInBounds_toArray, List.set_cons_succ, List.set_cons_zero]
      go_wp2_with fail
      refine (CR.out w2 B2.out).mono ?_
      rintro r w3 ⟨rfl, hk3, Z', hz', hc'⟩
      have HK3 := Lib.hid hk3; have HZ3 := Lib.hid hz'; have HC3 := Lib.hid hc'
      clear hk3 hz' hc' z0 z16 z1
      go_wp2_with fail
      go_ret
      rw [HX.out]
      exact ⟨rfl, (Keep.of_below (X := Z) B2.out).trans HK3.out (fun _ _ h => h), Z', fun k hk => (HZ3.out k hk).imp id (fun h => Nat.le_trans B2.out.size h), HC3.out⟩
    · by_cases h10 : mk = 10
      · subst h10
        have HX := Lib.hid (show s' = sl by rw [HMS.out, if_neg (by simp), if_neg h8, if_pos rfl])
        go_upto_region 10 with (fail)
        have hy1 := World.block_lt z16
        have hy2 := World.block_lt z1
        clear z0
        go_region_law (first | (refine step_at 137 rfl ?_; refine step_calls rfl 137 #[.pointer (some ⟨t, 0, none⟩), .slice a4 n4 c4] (by go_simp) (CT.out _ (bdrew B2.out)) ?_; rintro r w3 ⟨rfl, hT1, hT2⟩; refine ⟨_, rfl, ?_⟩; have HT1 := Lib.hid hT1; have HT2 := Lib.hid hT2; clear hT1 hT2 z16 z1))
        all_goals
          go_wp2_with fail
          go_ret
          rw [HX.out, HSS.out]
          by_cases hT : TC = 0
          · rw [if_pos hT]
            obtain ⟨X', oc', os', g1, g2, g3, g4⟩ := HT2.out hT
            have hold := H.out.old (bdrew B2.out)
            refine ⟨rfl, ?_, _, ?_, ⟨_, _, _, _, _, _, _, hold.take (HTC.out.trans hT) g1 g2 g3 g4, fun k => Iff.rfl⟩⟩
            · exact (Keep.of_below (X := Z) (bdrew B2.out)).trans (keep_sub g4 (fun k hk => (HZ.out k).2 (.inr hk))) (fun _ _ h => h)
            · rintro k (hk | hk)
              · exact .inl ((HZ.out k).2 (.inl hk))
              · rcases g1 k hk with hk | hk
                · exact .inl ((HZ.out k).2 (.inr hk))
                · exact .inr (Nat.le_trans B2.out.size hk)
          · rw [if_neg hT]
            exact handle_none H0.out (bthen (bdrew B2.out) (HT1.out hT))
      · have d8 : (mk == 8) = false := by simp [h8]
        have d10 : (mk == 10) = false := by simp [h10]
        have HX := Lib.hid (show s' = s by rw [HMS.out, if_neg (by simp), if_neg h8, if_neg h10])
        go_wp2_with fail
        go_ret
        rw [HX.out]
        exact handle_none H0.out B2.out
  · have dE : (E == 0) = false := by simp [hE]
    have HX := Lib.hid (show s' = s by rw [HMS.out, if_pos hE])
    go_wp2_with fail
    go_ret
    rw [HX.out]
    exact handle_none H0.out B2.out
end Go.Proofs.Ytijeieamodjgbaa

namespace Go.Proofs.Ytijeieamodjgbaa
set_option maxRecDepth 100000
open Go.RowKit Go.Maps Go.Deep
set_option linter.unusedVariables false
set_option linter.unusedSimpArgs false
attribute [local go_sem] run_store_float

/-- Some packets, or none; memory as it was. -/
def TickPost (w : World) (r : Ending) (w' : World) : Prop := (∃ a n c, r = .returned (.slice a n c)) ∧ Below w.heap.size w w'
def fetchMs (e : Int) : List Value := [.int .i64 9, .int .i64 e, .int .i64 0, .int .i64 0, .int .i64 0, .int .i64 0, .int .i64 0, .string ⟨#[]⟩, .float .f64 0, .int .i64 0, .int .i64 0, .float .f64 0, .string ⟨#[]⟩, .slice none 0 0, .slice none 0 0, .slice none 0 0, .slice none 0 0]
theorem tellV_one {id : Int} {l : List Int} {ms : List Value} (h : ∀ u ∈ ms, u.oneCell' = true) : ∀ u ∈ tellV id l ms, u.oneCell' = true := by
  intro u hu
  obtain ⟨x, hx, h1⟩ := List.mem_flatMap.1 hu
  rcases List.mem_cons.1 h1 with rfl | h1
  · rfl
  · rcases List.mem_cons.1 h1 with rfl | h1
    · rfl
    · exact h u h1
theorem tellV_len {id : Int} {l : List Int} {ms : List Value} (h : ms.length = 17) : (tellV id l ms).length = l.length * 19 := by
  unfold tellV
  induction l with
  | nil => rfl
  | cons x r ih => rw [List.flatMap_cons, List.length_append, ih]; simp [h]; omega
theorem last_conf {s : Cst} (h : CInv s) : ∃ e l, (s.c0 :: s.cs)[s.ss.length]? = some (e, l) := by
  have hl : s.ss.length < (s.c0 :: s.cs).length := by have := h.len; simp; omega
  exact ⟨_, _, List.getElem?_eq_getElem hl⟩
set_option maxHeartbeats 4000000 in
theorem tick_any {Z : Nat → Prop} {B p : Nat} {s : Cst} (w : World) (h : Cli Z w B p s) (nw : Int) :
    Calls Try.prog 99 #[.pointer (some ⟨p, 0, none⟩), .int .i64 nw] w (TickPost w) := by
  obtain ⟨X, t, oc, os, om, oa, ob, h, hz⟩ := h.ex
  obtain ⟨e, l, hl⟩ := last_conf h.inv
  obtain ⟨ii, hii, hz0, hz1, hz2⟩ := info_parts info_pk
  have hln := risingB_len (rightB_rising (h.right _ (List.mem_of_getElem? hl))).2.2
  obtain ⟨hl4, hln⟩ := hln
  obtain ⟨va, vb, hp, -⟩ := h.ex
  have CW := Lib.hid (waiting_any w h)
  have CA := Lib.hid (anew_any w h e l hl)
  have CE := Lib.hid (fun (wa : World) (hb : Below w.heap.size w wa) => epoch_any X B t oc os (s.c0 :: s.cs) s.ss wa (h.old hb).trk (by have := h.len; have := h.l64; simp; omega) (by have := h.l64; omega))
  have CT := Lib.hid (fun (wa : World) (hb : Below w.heap.size w wa) => tell_any wa (h.old hb) (fetchMs s.ss.length) rfl (by unfold fetchMs; simp [Value.oneCell']) e l hl)
  have HON := Lib.hid (tellV_one (id := 100 + s.id) (l := l) (ms := fetchMs s.ss.length) (by unfold fetchMs; simp [Value.oneCell']))
  have HLN := Lib.hid (show (tellV (100 + s.id) l (fetchMs s.ss.length)).length = l.length * 19 from tellV_len rfl)
  have HP := Lib.hid hp
  have p1 : w.cell? ⟨p, 1, none⟩ = some (.pointer (some ⟨t, 0, none⟩)) := by rw [blk_cell hp]; rfl
  generalize tellV (100 + s.id) l (fetchMs s.ss.length) = xs at *
  generalize s.ss.length = ns at *
  unfold fetchMs at CT
  generalize wtB s = D at *
  clear h hz hp hl
  by_cases hr : nw.tmod 4 = 0
  · go_enter Try.func99, Try.ntmps99
    go_wp2_with fail
    refine CW.out.mono ?_
    rintro r w1 ⟨rfl, rfl⟩
    go_upto_if 14 with (fail)
    go_cut [5] (fun v5 wc => Hid (∃ a n c ys, v5 = .slice a n c ∧ n ≤ 10 ∧ wc.ownsRow w.heap.size 56 19 (.slice a n c) n ys ∧ Below w.heap.size w wc))
    case first =>
      cases D with
      | false =>
        go_wp2_with fail
        go_meet
        case rel => exact Lib.hid ⟨none, 0, 0, [], rfl, by omega, World.ownsRow_nil _ _ _ _, Below.refl _ _⟩
      | true =>
        go_wp2_with fail
        refine CA.out.mono ?_
        rintro r w2 ⟨a2, c2, xs2, rfl, ho2, hb2⟩
        have HO2 := Lib.hid ho2; have HB2 := Lib.hid hb2
        clear ho2 hb2
        go_wp2_with fail
        go_meet
        case rel => exact Lib.hid ⟨a2, _, c2, xs2, rfl, hln, HO2.out, HB2.out⟩
    case rest =>
      obtain ⟨a5, n5, c5, ys, rfl, hn5, ho5, hb5⟩ := hcut.out
      have HO5 := Lib.hid ho5; have HB5 := Lib.hid hb5
      have p5 := below_cell hb5 p1
      clear hcut ho5 hb5
      go_wp2_with fail
      refine (CE.out _ HB5.out).mono ?_
      rintro r w6 ⟨rfl, rfl⟩
      go_wp2_with fail
      refine (CT.out _ HB5.out).mono ?_
      rintro r w7 ⟨a7, c7, rfl, ho7, hb7⟩
      rcases ho7.2 with ⟨-, h0⟩ | ⟨g, cap, cur, hv, hB, hg, hnc, hcm, _, _⟩
      · omega
      · obtain ⟨rfl, rfl⟩ : a7 = some ⟨g, 0, none⟩ ∧ c7 = cap := by injection hv with h1 h2 h3; exact ⟨h1, h3⟩
        have hcell : ∀ ad', (some ⟨g, 0, none⟩ : Option Addr) = some ad' → ∀ j u, xs[j]? = some u → w7.cell? (ad'.add j) = some u := fun ad' had j u hu => by
          injection had with had; subst had
          exact ho7.cells (g := g) rfl j u hu
        have HC := Lib.hid hcell
        have HO6 := Lib.hid (owns_old HO5.out hb7)
        have B7 := Lib.hid (bthen HB5.out hb7)
        have HLE := Lib.hid B7.out.size
        have k1 : n5 + l.length ≤ maxLen := by unfold maxLen; omega
        have k2 : (n5 + l.length) * 232 ≤ 140737488355328 := by omega
        clear hcell ho7 hb7 hv hB hg hnc hcm p5 p1 CT CE CA CW HO5 HB5
        go_wp2_with (first | (refine wpList_append_any _ rfl (.tmp 17) (.tmp 25) 50 rfl w.heap.size 56 ii (.agg zeroPk.toArray) 19 232 Try.underlying50 hii hz0 hz1 hz2 rfl (by decide) _ n5 ys rfl HO6.out (some ⟨g, 0, none⟩) l.length c7 xs rfl HLN.out (fun h => by cases h) HC.out HON.out k1 k2 HLE.out ?_) | fail)
        intro v8 w8 ho8 hg8 hor8
        obtain ⟨a8, c8, rfl⟩ := owns_form ho8
        have HB8 := Lib.hid (show Below w.heap.size w w8 from grown_below B7.out hg8 (fun j hj => (HO6.out.lt j hj).1))
        clear ho8 hg8 hor8 k1 k2
        go_wp2_with fail
        go_ret
        exact ⟨⟨_, _, _, rfl⟩, HB8.out⟩
  · go_enter Try.func99, Try.ntmps99
    have hr2 : (nw.tmod 4 == 0) = false := by simp [hr]
    go_wp2_with fail
    go_ret
    exact ⟨⟨_, _, _, rfl⟩, Below.refl _ _⟩
end Go.Proofs.Ytijeieamodjgbaa

namespace Go.Proofs.Ytijeieamodjgbaa
set_option maxRecDepth 100000
open Go.ChangeShapes Go.WideShapes Go.ChangeAt Go.RowKit Go.Deep Go.Maps
set_option linter.unusedVariables false
set_option linter.unusedSimpArgs false

/-- A step: its kind, time, sender, ask and message. -/
structure St19 where
  kd : Int
  nw : Int
  fr : Int
  a : Int × Int × Int × ByteArray × Int × Int
  m : Mg
def St19.q (y : St19) : Rq := ⟨y.a.1, y.a.2.1, y.a.2.2.1, y.a.2.2.2.1, y.a.2.2.2.2.1.toNat, y.a.2.2.2.2.2⟩
def shAsk19 : Sh (Int × Int × Int × ByteArray × Int × Int) := (Sh.int.pair (Sh.int.pair (Sh.int.pair (Sh.str.pair (Sh.u64.pair Sh.int))))).bytes 56
theorem vwAsk19 : Vw Try.prog 83 shAsk19 := vw_struct Try.underlying83 (fsv_cons vwInt (fsv_cons vwInt (fsv_cons vwInt (fsv_cons vwStr (fsv_cons vwU64 (fsv_one vwInt) rfl) rfl) rfl) rfl) rfl) (by kernel_rfl) (by kernel_rfl)
def shStep19 : Sh St19 := ((Sh.int.pair (Sh.int.pair (Sh.int.pair (shAsk19.pair shMsg)))).bytes 296).map fun s => (s.kd, s.nw, s.fr, s.a, s.m)
theorem vwStep19 : Vw Try.prog 85 shStep19 := vw_map _ (fun y => ⟨y.1, y.2.1, y.2.2.1, y.2.2.2.1, y.2.2.2.2⟩) (fun _ => rfl) (vw_struct Try.underlying85 (fsv_cons vwInt (fsv_cons vwInt (fsv_cons vwInt (fsv_cons vwAsk19 (fsv_one vwMsg) rfl) rfl) rfl) rfl) (by kernel_rfl) (by kernel_rfl))
theorem vwSteps19 : Vw Try.prog 75 shStep19.slice := vw_slice Try.underlying75 (by kernel_rfl) (by kernel_rfl) vwStep19 (by decide) (by decide)
def stCs (y : St19) (a1 : Option Addr) (n1 c1 : Nat) (a2 : Option Addr) (n2 c2 : Nat) (a3 : Option Addr) (n3 c3 : Nat) (a4 : Option Addr) (n4 c4 : Nat) : List Value :=
  .int .i64 y.kd :: .int .i64 y.nw :: .int .i64 y.fr :: .int .i64 y.q.c :: .int .i64 y.q.s :: .int .i64 y.q.kind :: .string y.q.key :: .int .u64 y.q.b :: .int .i64 y.q.id :: mgCs y.m a1 n1 c1 a2 n2 c2 a3 n3 c3 a4 n4 c4
structure StepIn (w : World) (y : St19) (a1 : Option Addr) (n1 c1 : Nat) (a2 : Option Addr) (n2 c2 : Nat) (a3 : Option Addr) (n3 c3 : Nat) (a4 : Option Addr) (n4 c4 : Nat) : Prop where
  kd : i64 y.kd
  nw : i64 y.nw
  fr : i64 y.fr
  q : y.q.Ok
  m : MsgIn w y.m a1 n1 c1 a2 n2 c2 a3 n3 c3 a4 n4 c4
theorem step19_open {w : World} {y : St19} {cs : List Value} (h : shStep19.E w y cs) : ∃ a1 n1 c1 a2 n2 c2 a3 n3 c3 a4 n4 c4, cs = stCs y a1 n1 c1 a2 n2 c2 a3 n3 c3 a4 n4 c4 ∧ StepIn w y a1 n1 c1 a2 n2 c2 a3 n3 c3 a4 n4 c4 := by
  obtain ⟨kd, nw, fr, ⟨c, s, kind, key, b, id⟩, m⟩ := y
  obtain ⟨_, _, rfl, ⟨rfl, h1⟩, _, _, rfl, ⟨rfl, h2⟩, _, _, rfl, ⟨rfl, h3⟩, _, _, rfl, ⟨_, _, rfl, ⟨rfl, g1⟩, _, _, rfl, ⟨rfl, g2⟩, _, _, rfl, ⟨rfl, g3⟩, _, _, rfl, ⟨rfl, g4⟩, _, _, rfl, ⟨rfl, g5, g6⟩, rfl, g7⟩, hm⟩ := h
  obtain ⟨a1, n1, c1, a2, n2, c2, a3, n3, c3, a4, n4, c4, rfl, hmi⟩ := msg_open hm
  refine ⟨a1, n1, c1, a2, n2, c2, a3, n3, c3, a4, n4, c4, ?_, h1, h2, h3, ⟨g1, g2, g3, g7, ?_, g4⟩, hmi⟩
  · have hb : ((b.toNat : Nat) : Int) = b := Int.toNat_of_nonneg g5
    show _ = Value.int .i64 kd :: .int .i64 nw :: .int .i64 fr :: .int .i64 c :: .int .i64 s :: .int .i64 kind :: .string key :: .int .u64 ((b.toNat : Nat) : Int) :: .int .i64 id :: mgCs m a1 n1 c1 a2 n2 c2 a3 n3 c3 a4 n4 c4
    rw [hb]
    rfl
  · show b.toNat < _
    dsimp only at g5 g6
    omega
theorem step19_cells {w : World} {a : Option Addr} {n c : Nat} {l : List St19} (h : SlAt shStep19 w a n c l) {i : Nat} {y : St19} (hi : l[i]? = some y) :
    ∃ b o a1 n1 c1 a2 n2 c2 a3 n3 c3 a4 n4 c4, a = some ⟨b, o, none⟩ ∧ (∀ j u, (stCs y a1 n1 c1 a2 n2 c2 a3 n3 c3 a4 n4 c4)[j]? = some u → w.cell? ⟨b, o + i * 26 + j, none⟩ = some u) ∧ StepIn w y a1 n1 c1 a2 n2 c2 a3 n3 c3 a4 n4 c4 := by
  obtain ⟨b, o, xs, ha, hE, hc⟩ := h.cell i _ hi
  obtain ⟨a1, n1, c1, a2, n2, c2, a3, n3, c3, a4, n4, c4, rfl, hs⟩ := step19_open hE
  exact ⟨b, o, a1, n1, c1, a2, n2, c2, a3, n3, c3, a4, n4, c4, ha, hc, hs⟩
theorem StepIn.old {w w' : World} {y : St19} {a1 : Option Addr} {n1 c1 : Nat} {a2 : Option Addr} {n2 c2 : Nat} {a3 : Option Addr} {n3 c3 : Nat} {a4 : Option Addr} {n4 c4 : Nat} (h : StepIn w y a1 n1 c1 a2 n2 c2 a3 n3 c3 a4 n4 c4) (hb : Below w.heap.size w w') : StepIn w' y a1 n1 c1 a2 n2 c2 a3 n3 c3 a4 n4 c4 := ⟨h.kd, h.nw, h.fr, h.q, h.m.old hb⟩
def kind19 (k : Int) : Int := wrap64 ((IntKind.u64.wrap k).tmod 3)
theorem kind19_in (k : Int) : 0 ≤ kind19 k ∧ kind19 k ≤ 2 := by
  have h : IntKind.u64.wrap k = k % 18446744073709551616 := by simp [IntKind.wrap, IntKind.bits, IntKind.signed]
  have h3 : (IntKind.u64.wrap k).tmod 3 = (IntKind.u64.wrap k) % 3 := Int.tmod_eq_emod_of_nonneg (by rw [h]; omega)
  unfold kind19 wrap64
  rw [h3]
  omega
set_option maxHeartbeats 1000000 in
theorem kind19_any (cs : List Value) (k : Int) (h0 : cs[0]? = some (.int .i64 k)) (w : World) : Calls Try.prog 39 #[.agg cs.toArray] w fun r w' => r = .returned (.int .i64 (kind19 k)) ∧ Below w.heap.size w w' := by
  have hb := below_alloc w (.cells cs.toArray 85 (0, 0))
  have y0 : (w.alloc (.cells cs.toArray 85 (0, 0))).cell? ⟨w.heap.size, 0, none⟩ = some (.int .i64 k) := by rw [blk_cell (blk_alloc _ _)]; simpa using h0
  have hu : ∀ x, IntKind.u64.wrap x = IntKind.u64.wrap x := fun _ => rfl
  go_enter Try.func39, Try.ntmps39
  go_wp2_with fail
  go_ret
  exact ⟨rfl, hb⟩
/-- What a step leaves. -/
def doesS (s : Cst) (y : St19) : Cst := if kind19 y.kd = 0 then (if askE s y.q.kind y.q.key y.q.b y.q.id = 0 then askS s y.q.kind y.q.key y.q.b y.q.id else s) else if kind19 y.kd = 1 then handleS s y.fr y.m else s
set_option maxHeartbeats 4000000 in
theorem does_any {Z : Nat → Prop} {B p : Nat} {s : Cst} (w : World) (h : Cli Z w B p s) (hB : B ≤ w.heap.size) (y : St19) (a1 : Option Addr) (n1 c1 : Nat) (a2 : Option Addr) (n2 c2 : Nat) (a3 : Option Addr) (n3 c3 : Nat) (a4 : Option Addr) (n4 c4 : Nat)
    (hm : StepIn w y a1 n1 c1 a2 n2 c2 a3 n3 c3 a4 n4 c4) (hr : RSl shLink Z w a4 n4 c4 y.m.lk) (hhs : s.hs < 70368744177664) :
    Calls Try.prog 42 #[.pointer (some ⟨p, 0, none⟩), .agg (stCs y a1 n1 c1 a2 n2 c2 a3 n3 c3 a4 n4 c4).toArray] w (ReplyPost Z B p s (doesS s y) w) := by
  have H0 := Lib.hid h
  obtain ⟨e, l, hl⟩ := (show ∃ e l, (s.c0 :: s.cs)[s.ss.length]? = some (e, l) by obtain ⟨X, t, oc, os, om, oa, ob, h, hz⟩ := h.ex; exact last_conf h.inv)
  obtain ⟨w1, hw1⟩ : ∃ u, u = w.alloc (.cells (stCs y a1 n1 c1 a2 n2 c2 a3 n3 c3 a4 n4 c4).toArray 85 (0, 0)) := ⟨_, rfl⟩
  have b1 : Below w.heap.size w w1 := by rw [hw1]; exact below_alloc _ _
  have k1 : w1.heap[w.heap.size]? = some (.cells (stCs y a1 n1 c1 a2 n2 c2 a3 n3 c3 a4 n4 c4).toArray 85 (0, 0)) := by rw [hw1]; exact blk_alloc _ _
  have HKD := Lib.hid (fun (wa : World) => kind19_any (stCs y a1 n1 c1 a2 n2 c2 a3 n3 c3 a4 n4 c4) y.kd rfl wa)
  have CQ := Lib.hid (fun (wa : World) => request_any y.q wa)
  have CA := Lib.hid (fun (wa : World) (hb : Below w.heap.size w wa) => ask_any wa (h.old hb) e l hl y.q.kind y.q.key y.q.b y.q.id hm.q.kind hm.q.id hm.q.b hm.q.key)
  have CH := Lib.hid (fun (wa : World) (hb : Below w.heap.size w wa) => handle_any wa (h.old hb) (Nat.le_trans hB hb.size) y.nw y.fr y.m a1 n1 c1 a2 n2 c2 a3 n3 c3 a4 n4 c4 (hm.m.old hb) (hr.step (Y := fun _ => False) (Keep.of_below hb) (fun _ _ hf => hf.elim) (fun _ _ h => h)) hm.fr hhs)
  have CT := Lib.hid (fun (wa : World) (hb : Below w.heap.size w wa) => tick_any wa (h.old hb) y.nw)
  have HS := Lib.hid (show doesS s y = if kind19 y.kd = 0 then (if askE s y.q.kind y.q.key y.q.b y.q.id = 0 then askS s y.q.kind y.q.key y.q.b y.q.id else s) else if kind19 y.kd = 1 then handleS s y.fr y.m else s from rfl)
  have hin := kind19_in y.kd
  have B1 := Lib.hid b1
  have hsl : (stCs y a1 n1 c1 a2 n2 c2 a3 n3 c3 a4 n4 c4).length = 26 := rfl
  have HLD := Lib.hid (show ∀ (wa : World), Below w1.heap.size w1 wa → ∀ (j : Nat) (u : Value), (stCs y a1 n1 c1 a2 n2 c2 a3 n3 c3 a4 n4 c4)[j]? = some u → wa.cell? ⟨w.heap.size, 0 + j, none⟩ = some u from fun wa hb j u hu => by rw [Nat.zero_add, blk_cell (blk_below k1 hb)]; simpa using hu)
  have HLM := Lib.hid (show ∀ (wa : World), Below w1.heap.size w1 wa → ∀ (j : Nat) (u : Value), (mgCs y.m a1 n1 c1 a2 n2 c2 a3 n3 c3 a4 n4 c4)[j]? = some u → wa.cell? ⟨w.heap.size, 9 + j, none⟩ = some u from fun wa hb j u hu => by
    have := HLD.out wa hb (j + 9) u hu
    rw [Nat.zero_add, Nat.add_comm] at this; exact this)
  have hmi : (Try.prog.info? 85).map (·.size) = some (stCs y a1 n1 c1 a2 n2 c2 a3 n3 c3 a4 n4 c4).length := by rw [hsl]; kernel_rfl
  have hmj : (Try.prog.info? 34).map (·.size) = some (mgCs y.m a1 n1 c1 a2 n2 c2 a3 n3 c3 a4 n4 c4).length := by show _ = some 17; kernel_rfl
  have HMI := Lib.hid hmi; have HMJ := Lib.hid hmj
  have y1 : w1.cell? ⟨w.heap.size, 1, none⟩ = some (.int .i64 y.nw) := by rw [blk_cell k1]; rfl
  have y2 : w1.cell? ⟨w.heap.size, 2, none⟩ = some (.int .i64 y.fr) := by rw [blk_cell k1]; rfl
  have y3 : w1.cell? ⟨w.heap.size, 3, none⟩ = some (.int .i64 y.q.c) := by rw [blk_cell k1]; rfl
  have y4 : w1.cell? ⟨w.heap.size, 4, none⟩ = some (.int .i64 y.q.s) := by rw [blk_cell k1]; rfl
  have y5 : w1.cell? ⟨w.heap.size, 5, none⟩ = some (.int .i64 y.q.kind) := by rw [blk_cell k1]; rfl
  have y6 : w1.cell? ⟨w.heap.size, 6, none⟩ = some (.string y.q.key) := by rw [blk_cell k1]; rfl
  have y7 : w1.cell? ⟨w.heap.size, 7, none⟩ = some (.int .u64 y.q.b) := by rw [blk_cell k1]; rfl
  have y8 : w1.cell? ⟨w.heap.size, 8, none⟩ = some (.int .i64 y.q.id) := by rw [blk_cell k1]; rfl
  unfold Rq.ask Rq.v at CQ
  have hfl : ∀ (wa : World), (Instr.field 26 (.agg #[.int .i64 y.q.c, .int .i64 y.q.s, .int .i64 y.q.kind, .string y.q.key, .float .f64 y.q.b, .int .i64 y.q.id]) 2).run Try.prog wa = .ok (.agg #[.int .i64 y.q.kind, .string y.q.key, .float .f64 y.q.b, .int .i64 y.q.id]) wa := fun wa => by kernel_rfl
  generalize stCs y a1 n1 c1 a2 n2 c2 a3 n3 c3 a4 n4 c4 = cs at *
  generalize mgCs y.m a1 n1 c1 a2 n2 c2 a3 n3 c3 a4 n4 c4 = ms at *
  generalize doesS s y = s' at *
  generalize y.q = q at *
  generalize kind19 y.kd = kk at *
  clear h hm hr hhs hsl hmi hmj hl b1 k1
  go_enter Try.func42, Try.ntmps42
  go_upto_region 1 with (fail)
  rw [← hw1]
  clear hw1
  refine wp_region_lit ?_
  refine wpList_load_mid rfl 85 (.tmp 3) rfl w.heap.size 0 rfl cs _ (HLD.out w1 (Below.refl _ _)) Try.underlying85 rfl HMI.out ?_
  simp only [Act.put, List.setIfInBounds_toArray, List.set_cons_succ, List.set_cons_zero]
  go_wp2_with fail
  refine (HKD.out w1).mono ?_
  rintro r w2 ⟨rfl, hb2⟩
  have BB2 := Lib.hid hb2
  have B2 := Lib.hid (bthen B1.out hb2)
  have HRN := Lib.hid (show ∀ w', Below w.heap.size w w' → ReplyPost Z B p s s w (.returned (.tuple #[])) w' from fun w' hb => reply_none H0.out hb)
  have z1 := below_cell hb2 y1
  have z2 := below_cell hb2 y2
  have z3 := below_cell hb2 y3
  have z4 := below_cell hb2 y4
  have z5 := below_cell hb2 y5
  have z6 := below_cell hb2 y6
  have z7 := below_cell hb2 y7
  have z8 := below_cell hb2 y8
  clear hb2 y1 y2 y3 y4 y5 y6 y7 y8 HKD
  have hk3 : kk = 0 ∨ kk = 1 ∨ kk = 2 := by omega
  rcases hk3 with rfl | rfl | rfl
  · rw [if_pos rfl] at HS
    go_wp2_with fail
    refine (CQ.out w2).mono ?_
    rintro r w3 ⟨rfl, hb3⟩
    have B3 := Lib.hid (bthen B2.out hb3)
    clear hb3 z1 z2 z3 z4 z5 z6 z7 z8
    go_wp2_with fail
    refine (CA.out w3 B3.out).mono ?_
    rintro r w4 hA
    have HA := Lib.hid hA
    clear hA
    rcases HA.out with ⟨he, rfl, hb4⟩ | ⟨he, ⟨a4', c4', rfl⟩, hk4, Z', hz', hc'⟩
    · have HX := Lib.hid (show ReplyPost Z B p s s' w (.returned (.tuple #[])) w4 by rw [HS.out, if_neg he]; exact HRN.out w4 (bthen B3.out hb4))
      clear hb4
      go_wp2_with fail
      go_end0
      exact HX.out
    · have HX := Lib.hid (show ReplyPost Z B p s s' w (.returned (.tuple #[])) w4 by
        rw [HS.out, if_pos he]
        exact ⟨rfl, (Keep.of_below (X := Z) B3.out).trans hk4 (fun _ _ h => h), Z', fun k hk => (hz' k hk).imp id (fun h => Nat.le_trans B3.out.size h), hc'⟩)
      clear hk4 hz' hc'
      go_wp2_with fail
      go_end0
      exact HX.out
  · rw [if_neg (by decide), if_pos rfl] at HS
    go_upto_region 5 with (fail)
    refine wp_region_lit ?_
    refine wpList_val (w' := w2) rfl (v := .pointer (some ⟨p, 0, none⟩)) (by simp only [execOp]; go_simp) ?_
    simp only [Act.put, List.setIfInBounds_toArray, List.set_cons_succ, List.set_cons_zero]
    refine wpList_val (w' := w2) rfl (v := .pointer (some ⟨w.heap.size, 1, none⟩)) (by simp only [execOp]; go_simp) ?_
    simp only [Act.put, List.setIfInBounds_toArray, List.set_cons_succ, List.set_cons_zero]
    refine wpList_val (w' := w2) rfl (v := .int .i64 y.nw) (by simp only [execOp]; go_simp) ?_
    simp only [Act.put, List.setIfInBounds_toArray, List.set_cons_succ, List.set_cons_zero]
    refine wpList_val (w' := w2) rfl (v := .pointer (some ⟨w.heap.size, 2, none⟩)) (by simp only [execOp]; go_simp) ?_
    simp only [Act.put, List.setIfInBounds_toArray, List.set_cons_succ, List.set_cons_zero]
    refine wpList_val (w' := w2) rfl (v := .int .i64 y.fr) (by simp only [execOp]; go_simp) ?_
    simp only [Act.put, List.setIfInBounds_toArray, List.set_cons_succ, List.set_cons_zero]
    refine wpList_val (w' := w2) rfl (v := .pointer (some ⟨w.heap.size, 9, none⟩)) (by simp only [execOp]; go_simp) ?_
    simp only [Act.put, List.setIfInBounds_toArray, List.set_cons_succ, List.set_cons_zero]
    refine wpList_load_mid rfl 34 (.tmp 21) rfl w.heap.size 9 rfl ms _ (HLM.out w2 BB2.out) Try.underlying34 rfl HMJ.out ?_
    simp only [Act.put, List.setIfInBounds_toArray, List.set_cons_succ, List.set_cons_zero]
    go_wp2_with fail
    refine (CH.out w2 B2.out).mono ?_
    rintro r w4 ⟨rfl, hk4, Z', hz', hc'⟩
    have HX := Lib.hid (show ReplyPost Z B p s s' w (.returned (.tuple #[])) w4 by
      rw [HS.out]
      exact ⟨rfl, (Keep.of_below (X := Z) B2.out).trans hk4 (fun _ _ h => h), Z', fun k hk => (hz' k hk).imp id (fun h => Nat.le_trans B2.out.size h), hc'⟩)
    clear hk4 hz' hc' z1 z2 z3 z4 z5 z6 z7 z8
    go_wp2_with fail
    go_end0
    exact HX.out
  · rw [if_neg (by decide), if_neg (by decide)] at HS
    go_wp2_with fail
    refine (CT.out w2 B2.out).mono ?_
    rintro r w4 ⟨⟨a4', n4', c4', rfl⟩, hb4⟩
    have HX := Lib.hid (show ReplyPost Z B p s s' w (.returned (.tuple #[])) w4 by rw [HS.out]; exact HRN.out w4 (bthen B2.out hb4))
    clear hb4 z1 z2 z3 z4 z5 z6 z7 z8
    go_wp2_with fail
    go_end0
    exact HX.out
end Go.Proofs.Ytijeieamodjgbaa

namespace Go.Proofs.Ytijeieamodjgbaa
set_option maxRecDepth 100000
open Go.RowKit Go.Deep
set_option linter.unusedVariables false
set_option linter.unusedSimpArgs false

/-- A block of one thing is made and stored at once. -/
theorem ops_made {ops : Array Oper} {rest : List Oper} {o1 o2 : Oper} {a : Act} {w : World} {Q : Exit → Act → World → Prop} (T : TypeId) (zs : List Value) (hg1 : o1.guard = none) (hg2 : o2.guard = none) (x y : Operand) (hal : ∀ ρ w, (execOp ρ o1).run Try.prog w = .ok (.value (.pointer (some ⟨w.heap.size, 0, none⟩))) (w.alloc (.cells zs.toArray T (0, 0)))) (ho2 : o2.op = .store T x y)
    (cs : List Value) (hl : cs.length = zs.length) (hinfo : (Try.prog.info? T).map (·.size) = some zs.length) (h1 : cs.toArray.all (·.oneCell') = true)
    (hx : (a.put o1.dst (.pointer (some ⟨w.heap.size, 0, none⟩))).eval x = .pointer (some ⟨w.heap.size, 0, none⟩)) (hy : (a.put o1.dst (.pointer (some ⟨w.heap.size, 0, none⟩))).eval y = .agg cs.toArray)
    (h : ∀ w', Below w.heap.size w w' → w'.heap[w.heap.size]? = some (.cells cs.toArray T (0, 0)) → w'.heap.size = w.heap.size + 1 → wpList Try.prog ops Q rest ((a.put o1.dst (.pointer (some ⟨w.heap.size, 0, none⟩))).put o2.dst undef) w') :
    wpList Try.prog ops Q (o1 :: o2 :: rest) a w := by
  refine ops_val (w' := w.alloc (.cells zs.toArray T (0, 0))) (by simp [Region.wanted, hg1]) (hal a.eval w) ?_
  have b1 : Below w.heap.size w (w.alloc (.cells zs.toArray T (0, 0))) := below_alloc _ _
  have hz1 : (w.alloc (.cells zs.toArray T (0, 0))).heap.size = w.heap.size + 1 := by simp
  have k1 : (w.alloc (.cells zs.toArray T (0, 0))).heap[w.heap.size]? = some (.cells zs.toArray T (0, 0)) := blk_alloc _ _
  generalize w.alloc (.cells zs.toArray T (0, 0)) = w1 at b1 hz1 k1 ⊢
  refine wpList_store_mid hg2 T x y ho2 w.heap.size 0 cs.toArray hx hy (fun j hj => ⟨?_, ?_⟩) (by rw [List.size_toArray, hl]; exact hinfo) h1 ?_
  · have : j < zs.length := by simpa [hl] using hj
    rw [blk_cell k1, Option.isSome_iff_exists, Nat.zero_add]
    exact ⟨_, Array.getElem?_eq_getElem (by simpa using this)⟩
  · exact blk_frozen k1 _
  · exact h _ (sets_old (Nat.le_refl _) _ b1) (by have := sets_blk cs w1 [] zs k1 hl.symm; simpa using this) (by rw [sets_len, hz1])
end Go.Proofs.Ytijeieamodjgbaa

namespace Go.Proofs.Ytijeieamodjgbaa
set_option maxRecDepth 100000
open Go.RowKit Go.Deep Go.Maps
set_option linter.unusedVariables false
set_option linter.unusedSimpArgs false
attribute [local go_sem] run_store_float

def keyK : ByteArray := ⟨#[107]⟩
def q19 : Rq := ⟨2, 1, 5, keyK, 0, 0⟩
def msg19 : Mg := ⟨8, 0, 0, 0, q19, 0, 4619567317775286272, ⟨#[]⟩, [], [], [], []⟩
def st19a : Cst := askS (cst0 2 0 [0, 1, 2, 3]) 5 keyK 0 0
def st19b : Cst := handleS st19a 0 msg19
def st19c : Cst := handleS st19b 0 msg19
def st19d : Cst := handleS st19c 3 msg19
theorem st19_ask : askE (cst0 2 0 [0, 1, 2, 3]) 5 keyK 0 0 = 0 := by kernel_rfl
theorem st19_w : wtB st19c = true := by kernel_rfl
theorem st19_q : st19c.q = q19 := by kernel_rfl
theorem st19_ac : st19d.ac.length = 1 := by kernel_rfl
theorem st19_rs : st19d.rs = [(0, 4619567317775286272)] := by kernel_rfl
theorem st19_hs : st19a.hs = 0 ∧ st19b.hs = 1 ∧ st19c.hs = 1 := ⟨by kernel_rfl, by kernel_rfl, by kernel_rfl⟩
set_option maxHeartbeats 1000000 in
theorem four19_any (w : World) : Calls Try.prog 90 #[] w fun r w' => ∃ b, r = .returned (.agg #[.int .i64 0, .slice (some ⟨b, 0, none⟩) 4 4]) ∧ SlAt Sh.int w' (some ⟨b, 0, none⟩) 4 4 [0, 1, 2, 3] ∧ Below w.heap.size w w' := by
  go_enter Try.func90, Try.ntmps90
  go_wp2_with fail
  have k1 := blk_alloc w (.cells #[.int .i64 0, .slice (some ⟨w.heap.size + 1, 0, none⟩) 4 4] 74)
  have b2 := below_alloc (w.alloc (.cells #[.int .i64 0, .slice (some ⟨w.heap.size + 1, 0, none⟩) 4 4] 74)) (.cells #[.int .i64 0, .int .i64 1, .int .i64 2, .int .i64 3] 3)
  have k2 := blk_alloc (w.alloc (.cells #[.int .i64 0, .slice (some ⟨w.heap.size + 1, 0, none⟩) 4 4] 74)) (.cells #[.int .i64 0, .int .i64 1, .int .i64 2, .int .i64 3] 3)
  have k3 := blk_below k1 b2
  rw [World.size_alloc] at k2
  have B2 := bthen (below_alloc w _) b2
  generalize World.alloc (World.alloc _ _) _ = w2 at *
  have x0 : w2.cell? ⟨w.heap.size, 0, none⟩ = some (.int .i64 0) := by rw [blk_cell k3]; rfl
  have x1 : w2.cell? ⟨w.heap.size, 1, none⟩ = some (.slice (some ⟨w.heap.size + 1, 0, none⟩) 4 4) := by rw [blk_cell k3]; rfl
  refine bodyPost_ret (v := .agg #[.int .i64 0, .slice (some ⟨w.heap.size + 1, 0, none⟩) 4 4]) (by simp [results, Try.results90, go_sem, x0, x1]) rfl ⟨w.heap.size + 1, rfl, ?_, B2⟩
  refine ⟨rfl, Nat.le_refl _, by decide, by decide, fun h => (by cases h), fun i y hy => ⟨w.heap.size + 1, 0, [.int .i64 y], rfl, ?_, fun j v hv => ?_⟩⟩
  · have hi : i < 4 := (List.getElem?_eq_some_iff.1 hy).1
    obtain rfl | rfl | rfl | rfl : i = 0 ∨ i = 1 ∨ i = 2 ∨ i = 3 := by omega
    all_goals (injection hy with hy; subst hy; exact ⟨rfl, by simp [i64]⟩)
  · have hj : j = 0 := by have := (List.getElem?_eq_some_iff.1 hv).1; simp at this; omega
    subst hj
    injection hv with hv; subst hv
    have hi : i < 4 := (List.getElem?_eq_some_iff.1 hy).1
    obtain rfl | rfl | rfl | rfl : i = 0 ∨ i = 1 ∨ i = 2 ∨ i = 3 := by omega
    all_goals (injection hy with hy; subst hy; rw [blk_cell k2]; rfl)

set_option maxHeartbeats 1000000 in
theorem get19_any (w : World) : Calls Try.prog 91 #[.int .i64 1] w fun r w' => r = .returned (.agg #[.int .i64 2, .int .i64 1, .int .i64 5, .string keyK, .float .f64 0, .int .i64 0]) ∧ Below w.heap.size w w' := by
  have k1 := blk_alloc w (.cells #[.int .i64 2, .int .i64 1, .int .i64 5, .string keyK, .float .f64 0, .int .i64 0] 26)
  have hb := below_alloc w (.cells #[.int .i64 2, .int .i64 1, .int .i64 5, .string keyK, .float .f64 0, .int .i64 0] 26)
  have x0 : (w.alloc (.cells #[.int .i64 2, .int .i64 1, .int .i64 5, .string ⟨#[107]⟩, .float .f64 0, .int .i64 0] 26)).cell? ⟨w.heap.size, 0, none⟩ = some (.int .i64 2) := by rw [blk_cell (blk_alloc _ _)]; rfl
  have x1 : (w.alloc (.cells #[.int .i64 2, .int .i64 1, .int .i64 5, .string ⟨#[107]⟩, .float .f64 0, .int .i64 0] 26)).cell? ⟨w.heap.size, 1, none⟩ = some (.int .i64 1) := by rw [blk_cell (blk_alloc _ _)]; rfl
  have x2 : (w.alloc (.cells #[.int .i64 2, .int .i64 1, .int .i64 5, .string ⟨#[107]⟩, .float .f64 0, .int .i64 0] 26)).cell? ⟨w.heap.size, 2, none⟩ = some (.int .i64 5) := by rw [blk_cell (blk_alloc _ _)]; rfl
  have x3 : (w.alloc (.cells #[.int .i64 2, .int .i64 1, .int .i64 5, .string ⟨#[107]⟩, .float .f64 0, .int .i64 0] 26)).cell? ⟨w.heap.size, 3, none⟩ = some (.string ⟨#[107]⟩) := by rw [blk_cell (blk_alloc _ _)]; rfl
  have x4 : (w.alloc (.cells #[.int .i64 2, .int .i64 1, .int .i64 5, .string ⟨#[107]⟩, .float .f64 0, .int .i64 0] 26)).cell? ⟨w.heap.size, 4, none⟩ = some (.float .f64 0) := by rw [blk_cell (blk_alloc _ _)]; rfl
  have x5 : (w.alloc (.cells #[.int .i64 2, .int .i64 1, .int .i64 5, .string ⟨#[107]⟩, .float .f64 0, .int .i64 0] 26)).cell? ⟨w.heap.size, 5, none⟩ = some (.int .i64 0) := by rw [blk_cell (blk_alloc _ _)]; rfl
  go_enter Try.func91, Try.ntmps91
  go_wp2_with fail
  exact bodyPost_ret (v := .agg #[.int .i64 2, .int .i64 1, .int .i64 5, .string ⟨#[107]⟩, .float .f64 0, .int .i64 0]) (by simp [results, Try.results91, go_sem, x0, x1, x2, x3, x4, x5]) rfl ⟨rfl, hb⟩
theorem alloc_msg19 (ρ : Operand → Value) (o : Oper) (ho : o.op = .alloc 34) (w : World) : (execOp ρ o).run Try.prog w = .ok (.value (.pointer (some ⟨w.heap.size, 0, none⟩))) (w.alloc (.cells zeroMg.toArray 34 (0, 0))) := by
  rw [zeroMg_row]
  simp only [execOp, ho]
  go_simp
def cs19 : List Value := mgCs msg19 none 0 0 none 0 0 none 0 0 none 0 0
theorem msg19_in (w : World) : MsgIn w msg19 none 0 0 none 0 0 none 0 0 none 0 0 :=
  ⟨⟨by decide, by decide⟩, z64, z64, z64, ⟨⟨by decide, by decide⟩, ⟨by decide, by decide⟩, ⟨by decide, by decide⟩, z64, (show (0 : Nat) < 18446744073709551616 by decide), (show keyK.size ≤ 140737488351232 by decide)⟩, z64, (show (4619567317775286272 : Nat) < 18446744073709551616 by decide), (show (⟨#[]⟩ : ByteArray).size ≤ 140737488351232 by decide), sl_nil, sl_nil, sl_nil, sl_nil⟩
theorem rsl_nil {α : Type} {S : Sh α} {X : Nat → Prop} {w : World} : RSl S X w none 0 0 [] := ⟨sl_nil, fun i y hy => by simp at hy⟩
set_option maxHeartbeats 4000000 in
theorem lives19_any (w : World) : Calls Try.prog 36 #[] w fun e w' => e = .returned (.bool true) ∧ Below w.heap.size w w' := by
  have CF := Lib.hid (four19_any w)
  have CG := Lib.hid get19_any
  go_enter Try.func36, Try.ntmps36
  go_wp2_with fail
  refine CF.out.mono ?_
  rintro r w1 ⟨fb, rfl, hI, hb1⟩
  have CN := Lib.hid (cnew_any 2 0 (some ⟨fb, 0, none⟩) 4 4 [0, 1, 2, 3] w1 (ints_of_sl hI) (fun h => by cases h) (by decide) z64)
  have B1 := Lib.hid hb1
  clear hI hb1
  go_wp2_with fail
  refine CN.out.mono ?_
  rintro r w2 ⟨hb2, hh⟩
  rcases hh with ⟨p, Z, rfl, hc, -⟩ | ⟨hno, -⟩
  · have HC2 := Lib.hid hc
    have B2 := Lib.hid (bthen B1.out hb2)
    have HW := Lib.hid (Nat.le_trans B1.out.size (Nat.le_refl w1.heap.size))
    have CA := Lib.hid (fun (wa : World) (hb : Below w2.heap.size w2 wa) => ask_any wa (hc.old hb) 0 [0, 1, 2, 3] rfl 5 keyK 0 0 ⟨by decide, by decide⟩ z64 (by decide) (by decide))
    have S12 := Lib.hid hb2.size
    clear hb2 hc CN
    go_wp2_with fail
    refine (CG.out w2).mono ?_
    rintro r w3 ⟨rfl, hb3⟩
    have hfl : ∀ (wa : World), (Instr.field 26 (.agg #[.int .i64 2, .int .i64 1, .int .i64 5, .string keyK, .float .f64 0, .int .i64 0]) 2).run Try.prog wa = .ok (.agg #[.int .i64 5, .string keyK, .float .f64 0, .int .i64 0]) wa := fun wa => by kernel_rfl
    have B3 := Lib.hid (bthen B2.out hb3)
    have C3 := Lib.hid (CA.out w3 hb3)
    have S23 := Lib.hid hb3.size
    clear hb3 CA
    go_wp2_with fail
    refine C3.out.mono ?_
    rintro r w4 hA
    rcases hA with ⟨he, -⟩ | ⟨-, ⟨a4, c4, hr⟩, hk4, Z4, hz4, hc4⟩
    · exact absurd st19_ask he
    · have hr : r = .returned (.tuple #[.slice a4 4 c4, .int .i64 0]) := hr
      subst hr
      have hge : ∀ k, Z k → w.heap.size ≤ k := fun k hk => Nat.le_trans HW.out (HC2.out.lt k hk).1
      have B4 := Lib.hid (hk4.below B3.out hge)
      have HC4 := Lib.hid (show Cli Z4 w4 w1.heap.size p st19a from hc4)
      have hge4 : ∀ k, Z4 k → w.heap.size ≤ k := fun k hk => Nat.le_trans HW.out (HC4.out.lt k hk).1
      have HG4 := Lib.hid hge4
      have S14 := Lib.hid (show w1.heap.size ≤ w4.heap.size from Nat.le_trans S12.out (Nat.le_trans S23.out hk4.size))
      clear hk4 hz4 hc4 hge hge4 hfl
      go_wp2_with fail
      refine (CG.out w4).mono ?_
      rintro r w5 ⟨rfl, hb5⟩
      have B5 := Lib.hid (bthen B4.out hb5)
      have HC5 := Lib.hid (HC4.out.old hb5)
      have S15 := Lib.hid (Nat.le_trans S14.out hb5.size)
      clear hb5
      rename_i hK
      refine hK _ _ ?_
      clear hK
      refine ops_val rfl (w' := w5) (v := .agg #[.int .i64 0, .float .f64 4619567317775286272]) (by kernel_rfl) ?_
      simp only [Act.put, List.setIfInBounds_toArray, List.set_cons_succ, List.set_cons_zero]
      refine ops_val rfl (w' := w5) (v := .agg cs19.toArray) (by kernel_rfl) ?_
      simp only [Act.put, List.setIfInBounds_toArray, List.set_cons_succ, List.set_cons_zero]
      refine ops_made 34 zeroMg rfl rfl (.tmp 5) (.tmp 28) (fun ρ w => alloc_msg19 ρ _ rfl w) rfl cs19 rfl (by kernel_rfl) (by kernel_rfl) rfl rfl fun w6 b6 k6 z6 => ?_
      simp only [Act.put, List.setIfInBounds_toArray, List.set_cons_succ, List.set_cons_zero]
      have B6 := Lib.hid (bthen B5.out b6)
      have HC6 := Lib.hid (HC5.out.old b6)
      have K6 := Lib.hid k6
      have S16 := Lib.hid (Nat.le_trans S15.out b6.size)
      have N6 := Lib.hid (show ¬ Z4 w5.heap.size from fun hz => by have := (HC5.out.lt _ hz).2; omega)
      generalize hmb : w5.heap.size = mb at *
      have hmi : (Try.prog.info? 34).map (·.size) = some cs19.length := by show _ = some 17; kernel_rfl
      have HMI := Lib.hid hmi
      have HLD := Lib.hid (show ∀ (wa : World), wa.heap[mb]? = some (.cells cs19.toArray 34 (0, 0)) → ∀ (j : Nat) (u : Value), cs19[j]? = some u → wa.cell? ⟨mb, 0 + j, none⟩ = some u from fun wa hb j u hu => by rw [Nat.zero_add, blk_cell hb]; simpa using hu)
      have CH := Lib.hid (show ∀ (s : Cst) (Z : Nat → Prop) (wa : World) (fr : Int), Cli Z wa w1.heap.size p s → w1.heap.size ≤ wa.heap.size → i64 fr → s.hs < 70368744177664 → Calls Try.prog 92 #[.pointer (some ⟨p, 0, none⟩), .int .i64 1, .int .i64 fr, .agg cs19.toArray] wa (HandlePost Z w1.heap.size p s (handleS s fr msg19) wa) from
        fun s Z wa fr hc hw hf hh => handle_any wa hc hw 1 fr msg19 none 0 0 none 0 0 none 0 0 none 0 0 (msg19_in wa) rsl_nil hf hh)
      clear b6 k6 z6 hmi hmb B2 B3 CF
      generalize cs19 = ms at *
      go_upto_region 6 with (fail)
      refine wp_region_lit ?_
      refine wpList_val (w' := w6) rfl (v := .pointer (some ⟨p, 0, none⟩)) (by simp only [execOp]; go_simp) ?_
      simp only [Act.put, List.setIfInBounds_toArray, List.set_cons_succ, List.set_cons_zero]
      refine wpList_load_mid rfl 34 (.tmp 5) rfl mb 0 rfl ms _ (HLD.out w6 K6.out) Try.underlying34 rfl HMI.out ?_
      simp only [Act.put, List.setIfInBounds_toArray, List.set_cons_succ, List.set_cons_zero]
      go_wp2_with fail
      refine (CH.out st19a Z4 w6 0 HC6.out S16.out z64 (by rw [st19_hs.1]; decide)).mono ?_
      rintro r w7 ⟨rfl, hk7, Z7, hz7, hc7⟩
      have HC7 := Lib.hid (show Cli Z7 w7 w1.heap.size p st19b from hc7)
      have K7 := Lib.hid ((hk7.block mb (blk_lt K6.out) N6.out).trans K6.out)
      have N7 := Lib.hid (show ¬ Z7 mb from fun h => (hz7 mb h).elim N6.out (fun h => by have := blk_lt K6.out; omega))
      have B7 := Lib.hid (hk7.below B6.out HG4.out)
      have S17 := Lib.hid (Nat.le_trans S16.out hk7.size)
      have HG7 := Lib.hid (show ∀ k, Z7 k → w.heap.size ≤ k from fun k hk => Nat.le_trans HW.out (HC7.out.lt k hk).1)
      clear hk7 hz7 hc7 HC6 K6 N6 B6 S16 HG4
      go_upto_region 7 with (fail)
      refine wp_region_lit ?_
      refine wpList_val (w' := w7) rfl (v := .pointer (some ⟨p, 0, none⟩)) (by simp only [execOp]; go_simp) ?_
      simp only [Act.put, List.setIfInBounds_toArray, List.set_cons_succ, List.set_cons_zero]
      refine wpList_load_mid rfl 34 (.tmp 5) rfl mb 0 rfl ms _ (HLD.out w7 K7.out) Try.underlying34 rfl HMI.out ?_
      simp only [Act.put, List.setIfInBounds_toArray, List.set_cons_succ, List.set_cons_zero]
      go_wp2_with fail
      refine (CH.out st19b Z7 w7 0 HC7.out S17.out z64 (by rw [st19_hs.2.1]; decide)).mono ?_
      rintro r w8 ⟨rfl, hk8, Z8, hz8, hc8⟩
      have HC8 := Lib.hid (show Cli Z8 w8 w1.heap.size p st19c from hc8)
      have K8 := Lib.hid ((hk8.block mb (blk_lt K7.out) N7.out).trans K7.out)
      have N8 := Lib.hid (show ¬ Z8 mb from fun h => (hz8 mb h).elim N7.out (fun h => by have := blk_lt K7.out; omega))
      have B8 := Lib.hid (hk8.below B7.out HG7.out)
      have S18 := Lib.hid (Nat.le_trans S17.out hk8.size)
      have HG8 := Lib.hid (show ∀ k, Z8 k → w.heap.size ≤ k from fun k hk => Nat.le_trans HW.out (HC8.out.lt k hk).1)
      clear hk8 hz8 hc8 HC7 K7 N7 B7 S17 HG7
      have CO := Lib.hid (open_any w8 HC8.out)
      rw [st19_w, st19_q, show q19.v = .agg #[.int .i64 2, .int .i64 1, .int .i64 5, .string keyK, .float .f64 0, .int .i64 0] from rfl] at CO
      go_wp2_with fail
      refine CO.out.mono ?_
      rintro r w9 ⟨rfl, hb9⟩
      have HC9 := Lib.hid (HC8.out.old hb9)
      have K9 := Lib.hid (blk_below K8.out hb9)
      have N9 := N8
      have B9 := Lib.hid (bthen B8.out hb9)
      have S19 := Lib.hid (Nat.le_trans S18.out hb9.size)
      clear hb9 HC8 K8 B8 S18 CO
      go_upto_region 9 with (fail)
      have hba := below_alloc w9 (.cells #[.int .i64 2, .int .i64 1, .int .i64 5, .string keyK, .float .f64 0, .int .i64 0] 26 (0, 0))
      generalize w9.alloc (.cells #[.int .i64 2, .int .i64 1, .int .i64 5, .string keyK, .float .f64 0, .int .i64 0] 26 (0, 0)) = w10 at *
      have HC10 := Lib.hid (HC9.out.old hba)
      have K10 := Lib.hid (blk_below K9.out hba)
      have B10 := Lib.hid (bthen B9.out hba)
      have S110 := Lib.hid (Nat.le_trans S19.out hba.size)
      clear hba HC9 K9 B9 S19
      refine wp_region_lit ?_
      refine wpList_val (w' := w10) rfl (v := .pointer (some ⟨p, 0, none⟩)) (by simp only [execOp]; go_simp) ?_
      simp only [Act.put, List.setIfInBounds_toArray, List.set_cons_succ, List.set_cons_zero]
      refine wpList_load_mid rfl 34 (.tmp 5) rfl mb 0 rfl ms _ (HLD.out w10 K10.out) Try.underlying34 rfl HMI.out ?_
      simp only [Act.put, List.setIfInBounds_toArray, List.set_cons_succ, List.set_cons_zero]
      go_wp2_with fail
      refine (CH.out st19c Z8 w10 3 HC10.out S110.out ⟨by decide, by decide⟩ (by rw [st19_hs.2.2]; decide)).mono ?_
      rintro r w11 ⟨rfl, hk11, Z11, hz11, hc11⟩
      have HC11 := Lib.hid (show Cli Z11 w11 w1.heap.size p st19d from hc11)
      have B11 := Lib.hid (hk11.below B10.out HG8.out)
      clear hk11 hz11 hc11 HC10 K10 N9 B10 S110 HG8
      have CAc := Lib.hid (accepted_any w11 HC11.out)
      rw [st19_ac] at CAc
      go_wp2_with fail
      refine CAc.out.mono ?_
      rintro r w12 ⟨v12, rfl, ho12, hb12⟩
      obtain ⟨a12, c12, rfl⟩ := owns_form ho12
      have HC12 := Lib.hid (HC11.out.old hb12)
      have B12 := Lib.hid (bthen B11.out hb12)
      have CRs := Lib.hid (results_any w12 HC12.out)
      rw [st19_rs] at CRs
      clear ho12 hb12 CAc HC11 B11
      go_wp2_with fail
      refine CRs.out.mono ?_
      rintro r w13 ⟨v13, rfl, ho13, hb13⟩
      have hx : ressV [((0 : Int), (4619567317775286272 : Nat))] = [.int .i64 0, .float .f64 4619567317775286272] := rfl
      rw [hx] at ho13
      rcases ho13.2 with ⟨-, h0⟩ | ⟨g, cap, cur, hv, hB, hg, hnc, hcm, _, _⟩
      · cases h0
      · subst hv
        have x1 : w13.cell? ⟨g, 1, none⟩ = some (.float .f64 4619567317775286272) := by
          have := ho13.cells (g := g) rfl 1 _ rfl
          rw [Addr.add_lit] at this
          exact this
        have B13 := Lib.hid (bthen B12.out hb13)
        clear ho13 hb13 hB hg hnc hcm HC12 B12 CRs hx
        go_wp2_with fail
        rw [show (FloatKind.f64.format.order 4619567317775286272 4619567317775286272 == some Ordering.eq) = true by kernel_rfl]
        go_ret
        exact ⟨rfl, B13.out⟩
  · exact absurd ⟨by decide +kernel, rfl, by decide, by decide⟩ hno
end Go.Proofs.Ytijeieamodjgbaa

namespace Go.Proofs.Ytijeieamodjgbaa
set_option maxRecDepth 100000
open Go.RowKit Go.Deep Go.Maps
theorem reply_same (s : Cst) (fr ep : Int) (rq : Rq) (rc : Int) (rb : Nat) : (replyS s fr ep rq rc rb).id = s.id ∧ (replyS s fr ep rq rc rb).st = s.st ∧ (replyS s fr ep rq rc rb).hs ≤ s.hs + 1 ∧ (replyS s fr ep rq rc rb).c0 = s.c0 := by
  unfold replyS
  split
  · exact ⟨rfl, rfl, Nat.le_succ _, rfl⟩
  · split
    · exact ⟨rfl, rfl, Nat.le_succ _, rfl⟩
    · split
      · exact ⟨rfl, rfl, Nat.le_refl _, rfl⟩
      · exact ⟨rfl, rfl, Nat.le_refl _, rfl⟩
theorem handle_same (s : Cst) (fr : Int) (m : Mg) : (handleS s fr m).id = s.id ∧ (handleS s fr m).st = s.st ∧ (handleS s fr m).hs ≤ s.hs + 1 ∧ (handleS s fr m).c0 = s.c0 := by
  unfold handleS
  split
  · exact ⟨rfl, rfl, Nat.le_succ _, rfl⟩
  · split
    · exact reply_same _ _ _ _ _ _
    · split
      · unfold stateS
        split <;> exact ⟨rfl, rfl, Nat.le_succ _, rfl⟩
      · exact ⟨rfl, rfl, Nat.le_succ _, rfl⟩
theorem ask_free {s : Cst} {kd : Int} {ky : ByteArray} {fb : Nat} {oi : Int} (h : askE s kd ky fb oi = 0) : wtB s = false := by
  unfold askE at h
  split at h
  · cases h
  · split at h
    · cases h
    · rename_i h2
      simpa using h2
theorem does_same {s : Cst} {y : St19} (h : kind19 y.kd ≠ 0) : (doesS s y).id = s.id ∧ (doesS s y).st = s.st ∧ (doesS s y).hs ≤ s.hs + 1 ∧ (doesS s y).c0 = s.c0 := by
  unfold doesS
  rw [if_neg h]
  split
  · exact handle_same _ _ _
  · exact ⟨rfl, rfl, Nat.le_succ _, rfl⟩
theorem ents_cells {w : World} {B : Nat} {v : Value} {l : List (Int × Rq)} (h : w.ownsRow B 93 7 v l.length (entsV l)) {k : Nat} {x : Int × Rq} (hk : l[k]? = some x) :
    ∃ g c, v = .slice (some ⟨g, 0, none⟩) l.length c ∧ l.length ≤ c ∧ w.cell? ⟨g, k * 7, none⟩ = some (.int .i64 x.1) ∧ w.cell? ⟨g, k * 7 + 1, none⟩ = some (.int .i64 x.2.c) ∧ w.cell? ⟨g, k * 7 + 2, none⟩ = some (.int .i64 x.2.s) := by
  rcases h.2 with ⟨_, h0⟩ | ⟨g, cap, cur, rfl, hB, hg, hnc, hcm, _, _⟩
  · have := (List.getElem?_eq_some_iff.1 hk).1
    omega
  · have hrow : ∀ (l : List (Int × Rq)) (k : Nat), l[k]? = some x → ∀ (j : Nat) (u : Value), (Value.int .i64 x.1 :: x.2.cs)[j]? = some u → (entsV l)[k * 7 + j]? = some u := by
      intro l
      induction l with
      | nil => intro k hk; simp at hk
      | cons y r ih =>
        intro k hk j u hu
        have hev : entsV (y :: r) = (Value.int .i64 y.1 :: y.2.cs) ++ entsV r := by unfold entsV; rw [List.flatMap_cons]
        have hyl : (Value.int .i64 y.1 :: y.2.cs).length = 7 := rfl
        rw [hev]
        cases k with
        | zero =>
          have hy : y = x := by simpa using hk
          subst hy
          have := (List.getElem?_eq_some_iff.1 hu).1
          rw [List.getElem?_append_left (by omega), Nat.zero_mul, Nat.zero_add]
          exact hu
        | succ k =>
          rw [List.getElem?_append_right (by rw [hyl]; omega), hyl, show (k + 1) * 7 + j - 7 = k * 7 + j by omega]
          exact ih k (by simpa using hk) j u hu
    have hc := fun j u hj => h.cells (g := g) rfl (k * 7 + j) u (hrow l k hk j u hj)
    have h0 := hc 0 _ rfl
    have h1 := hc 1 _ rfl
    have h2 := hc 2 _ rfl
    rw [Addr.add_lit] at h0 h1 h2
    exact ⟨g, cap, rfl, hnc, by simpa using h0, by simpa using h1, by simpa using h2⟩
end Go.Proofs.Ytijeieamodjgbaa
namespace Go.Proofs.Ytijeieamodjgbaa.clientOnce
set_option maxRecDepth 100000
open Go.ChangeShapes Go.WideShapes Go.ChangeAt Go.RowKit Go.Deep Go.Maps
set_option linter.unusedVariables false
set_option linter.unusedSimpArgs false
attribute [local go_sem] run_store_float

def OSt (w : World) (B p : Nat) (id : Int) (asked j : Nat) (wr : World) : Prop :=
  ∃ Z s, Cli Z wr B p s ∧ s.id = id ∧ s.st = asked ∧ s.hs ≤ j ∧ Below w.heap.size w wr ∧ B ≤ wr.heap.size

set_option maxRecDepth 100000 in
set_option maxHeartbeats 8000000 in
theorem walk (w : World) (id : Int) (hid : -9223372036854775808 ≤ id ∧ id ≤ 9223372036854775807) (e0 : Int) (a0 : Option Addr) (n0 c0 : Nat) (l0 : List Int) (h0 : i64 e0) (s0 : SlAt Sh.int w a0 n0 c0 l0) (a : Option Addr) (n c : Nat) (script : List St19) (hs : SlAt shStep19 w a n c script) :
    Calls Try.prog 12 #[.int .i64 id, .agg #[.int .i64 e0, .slice a0 n0 c0], .slice a n c] w fun e w' => e = .returned (.bool true) ∧ Below w.heap.size w w' := by
  have hlen := hs.len
  have hmax := Nat.le_trans hs.cap hs.max
  have hbyt := hs.bytes
  have HS := Lib.hid hs
  have HI := Lib.hid s0
  have hn := s0.nil; have hcap0 := s0.cap; have hby := s0.bytes
  have HN := Lib.hid (show a0 = none → c0 = 0 ∧ n0 = 0 from fun h => ⟨hn h, by have := hn h; omega⟩)
  have LV := Lib.hid lives19_any
  clear hs s0 hn hcap0
  go_enter Try.func12, Try.ntmps12
  go_wp2_with fail
  refine (LV.out _).mono ?_
  rintro r w1 ⟨rfl, b1⟩
  have x0 := below_cell b1 (b := w.heap.size) (o := 0) (v := .int .i64 e0) (by simp)
  have x1 := below_cell b1 (b := w.heap.size) (o := 1) (v := .slice a0 n0 c0) (by simp)
  have B1 := Lib.hid (bthen (below_alloc w _) b1)
  clear b1
  go_wp2_with fail
  refine (cnew_any id e0 a0 n0 c0 l0 w1 (ints_of_sl (HI.out.old B1.out)) HN.out hby h0).mono ?_
  rintro r w2 ⟨b2, h2⟩
  have B2 := Lib.hid (bthen B1.out b2)
  clear x0 x1
  rcases h2 with ⟨p, Z, rfl, hc, hr, he, hi1, hi2⟩ | ⟨_, rfl⟩
  · have HG := Lib.hid (show OSt w w1.heap.size p id 0 0 w2 from ⟨Z, _, hc, rfl, rfl, Nat.le_refl _, B2.out, b2.size⟩)
    have hBw := B1.out.size
    clear b2 hc hr
    generalize w1.heap.size = B at *
    go_wp2_with fail
    go_loopw [9, 10] (fun v i wr => ∃ j ak : Nat, j ≤ n ∧ i = .int .i64 j ∧ v = .int .i64 ak ∧ Hid (OSt w B p id ak j wr)) (fun _ i _ => n - (intOf i).toNat)
    case atStart => exact ⟨0, 0, by omega, rfl, rfl, HG⟩
    case round =>
      clear HG B2
      obtain ⟨j, ak, hj, rfl, rfl, HG⟩ := hrel
      obtain ⟨wo, rfl⟩ : ∃ wo : World, wo = wr := ⟨_, rfl⟩
      by_cases hlt : j < n
      · obtain ⟨y, hy⟩ : ∃ y, script[j]? = some y := ⟨_, List.getElem?_eq_getElem (by omega)⟩
        obtain ⟨b, o, a1, n1, c1, a2, n2, c2, a3, n3, c3, a4, n4, c4, rfl, hcell, hst⟩ := step19_cells HS.out hy
        obtain ⟨Z, s, hc, hsid, hsst, hshs, hb, hBz⟩ := HG.out
        have hj0 : (0 : Int) ≤ (j : Int) := by omega
        have hj1 : (j : Int) < (n : Int) := by omega
        have hw0 := hb.size
        have HRL := Lib.hid (rsl_old (X := Z) hst.m.lk hb (fun k hk => by have := (hc.lt k hk).1; omega))
        have HST := Lib.hid (hst.old hb)
        have HLD := Lib.hid (show ∀ (wa : World), Below wo.heap.size wo wa → ∀ (i : Nat) (u : Value), (stCs y a1 n1 c1 a2 n2 c2 a3 n3 c3 a4 n4 c4)[i]? = some u → wa.cell? ⟨b, o + j * 26 + i, none⟩ = some u from fun wa hwa i u hu => below_cell (bthen hb hwa) (hcell i u hu))
        have y3 : wo.cell? ⟨b, o + j * 26 + 3, none⟩ = some (.int .i64 y.q.c) := below_cell hb (hcell 3 _ rfl)
        have y4 : wo.cell? ⟨b, o + j * 26 + 3 + 1, none⟩ = some (.int .i64 y.q.s) := below_cell hb (hcell 4 _ rfl)
        have y5 : wo.cell? ⟨b, o + j * 26 + 3 + 2, none⟩ = some (.int .i64 y.q.kind) := below_cell hb (hcell 5 _ rfl)
        have y6 : wo.cell? ⟨b, o + j * 26 + 3 + 3, none⟩ = some (.string y.q.key) := below_cell hb (hcell 6 _ rfl)
        have y7 : wo.cell? ⟨b, o + j * 26 + 3 + 4, none⟩ = some (.int .u64 y.q.b) := below_cell hb (hcell 7 _ rfl)
        have y8 : wo.cell? ⟨b, o + j * 26 + 3 + 5, none⟩ = some (.int .i64 y.q.id) := below_cell hb (hcell 8 _ rfl)
        have CO := Lib.hid (open_any wo hc)
        have hkj : IntKind.i64.wrap ((j : Int) + 1) = ((j + 1 : Nat) : Int) := IntWalk.i64_in _ (by omega)
        have hj2 : j < 549755813888 := by have : n * 296 ≤ 140737488355328 := hbyt; omega
        have HC := Lib.hid hc
        have HB := Lib.hid hb
        have HY := Lib.hid hy
        have hinv : CInv s := by obtain ⟨X, t, oc, os, om, oa, ob, h, hz⟩ := hc.ex; exact h.inv
        have HIN := Lib.hid hinv
        have hak := hinv.st
        rw [hsst] at hak
        have hmi : (Try.prog.info? 85).map (·.size) = some (stCs y a1 n1 c1 a2 n2 c2 a3 n3 c3 a4 n4 c4).length := by show _ = some 26; kernel_rfl
        have HMI := Lib.hid hmi
        have HKD := Lib.hid (fun (wa : World) => kind19_any (stCs y a1 n1 c1 a2 n2 c2 a3 n3 c3 a4 n4 c4) y.kd rfl wa)
        have CQ := Lib.hid (fun (wa : World) => request_any y.q wa)
        have hfl : ∀ (wa : World), (Instr.field 26 (.agg #[.int .i64 y.q.c, .int .i64 y.q.s, .int .i64 y.q.kind, .string y.q.key, .float .f64 y.q.b, .int .i64 y.q.id]) 2).run Try.prog wa = .ok (.agg #[.int .i64 y.q.kind, .string y.q.key, .float .f64 y.q.b, .int .i64 y.q.id]) wa := fun wa => by kernel_rfl
        obtain ⟨e, l, hl⟩ := last_conf hinv
        have CA := Lib.hid (fun (wa : World) (hwa : Below wo.heap.size wo wa) => ask_any wa (hc.old hwa) e l hl y.q.kind y.q.key y.q.b y.q.id hst.q.kind hst.q.id hst.q.b hst.q.key)
        have CD := Lib.hid (fun (wa : World) (hwa : Below wo.heap.size wo wa) => does_any wa (hc.old hwa) (Nat.le_trans hBz hwa.size) y a1 n1 c1 a2 n2 c2 a3 n3 c3 a4 n4 c4 (hst.old (bthen hb hwa)) (HRL.out.step (Y := fun _ => False) (Keep.of_below hwa) (fun _ _ hf => hf.elim) (fun _ _ h => h)) (by omega))
        have HSD := Lib.hid (show s.id = id ∧ s.st = (ak : Int) ∧ s.hs ≤ j from ⟨hsid, hsst, hshs⟩)
        have HW0 := Lib.hid (show wtB s = decide (0 < s.q.c) from rfl)
        unfold Rq.ask Rq.v at CQ
        unfold Rq.v at CO
        generalize hcs : stCs y a1 n1 c1 a2 n2 c2 a3 n3 c3 a4 n4 c4 = cs at *
        clear hcs hcell hst hc hb hy hinv hmi hl hsid hsst hshs HG HRL
        go_wp2_with fail
        refine CO.out.mono ?_
        rintro r w3 ⟨rfl, hb3⟩
        have B3 := Lib.hid hb3
        have z3 := below_cell hb3 y3; have z4 := below_cell hb3 y4; have z5 := below_cell hb3 y5; have z6 := below_cell hb3 y6; have z7 := below_cell hb3 y7; have z8 := below_cell hb3 y8
        clear hb3 y3 y4 y5 y6 y7 y8 CO
        go_upto_region 11 with (fail)
        have hba := below_alloc w3 (.cells #[.int .i64 s.q.c, .int .i64 s.q.s, .int .i64 s.q.kind, .string s.q.key, .float .f64 s.q.b, .int .i64 s.q.id] 26 (0, 0))
        generalize w3.alloc (.cells #[.int .i64 s.q.c, .int .i64 s.q.s, .int .i64 s.q.kind, .string s.q.key, .float .f64 s.q.b, .int .i64 s.q.id] 26 (0, 0)) = w4 at *
        have B4 := Lib.hid (bthen B3.out hba)
        have y3 := below_cell hba z3; have y4 := below_cell hba z4; have y5 := below_cell hba z5; have y6 := below_cell hba z6; have y7 := below_cell hba z7; have y8 := below_cell hba z8
        clear hba z3 z4 z5 z6 z7 z8
        refine wp_region_lit ?_
        refine wpList_val (w' := w4) rfl (v := .slice (some ⟨b, o, none⟩) n c) (by simp only [execOp]; go_simp) ?_
        simp only [Act.put, List.setIfInBounds_toArray, List.set_cons_succ, List.set_cons_zero]
        refine wpList_val (w' := w4) rfl (v := .int .i64 j) (by simp only [execOp]; go_simp) ?_
        simp only [Act.put, List.setIfInBounds_toArray, List.set_cons_succ, List.set_cons_zero]
        refine wpList_val (w' := w4) rfl (v := .pointer (some ⟨b, o + j * 26, none⟩)) (by simp only [execOp]; go_simp) ?_
        simp only [Act.put, List.setIfInBounds_toArray, List.set_cons_succ, List.set_cons_zero]
        refine wpList_load_mid rfl 85 (.tmp 46) rfl b (o + j * 26) rfl cs _ (HLD.out w4 B4.out) Try.underlying85 rfl HMI.out ?_
        simp only [Act.put, List.setIfInBounds_toArray, List.set_cons_succ, List.set_cons_zero]
        go_wp2_with fail
        refine (HKD.out w4).mono ?_
        rintro r w5 ⟨rfl, hb5⟩
        have B5 := Lib.hid (bthen B4.out hb5)
        have z3 := below_cell hb5 y3; have z4 := below_cell hb5 y4; have z5 := below_cell hb5 y5; have z6 := below_cell hb5 y6; have z7 := below_cell hb5 y7; have z8 := below_cell hb5 y8
        clear hb5 y3 y4 y5 y6 y7 y8
        by_cases hk0 : kind19 y.kd = 0
        · have hkb : (kind19 y.kd == 0) = true := by simp [hk0]
          go_wp2_with fail
          refine (CQ.out w5).mono ?_
          rintro r w6 ⟨rfl, hb6⟩
          have B6 := Lib.hid (bthen B5.out hb6)
          clear hb6 z3 z4 z5 z6 z7 z8 CD
          go_wp2_with fail
          refine (CA.out w6 B6.out).mono ?_
          rintro r w7 hA
          rcases hA with ⟨he, rfl, hb7⟩ | ⟨he, ⟨a7, c7, rfl⟩, hk7, Z', hz', hc'⟩
          · have HO := Lib.hid (show OSt w B p id ak (j + 1) w7 from ⟨Z, s, HC.out.old (bthen B6.out hb7), HSD.out.1, HSD.out.2.1, Nat.le_succ_of_le HSD.out.2.2, bthen HB.out (bthen B6.out hb7), Nat.le_trans hBz (Nat.le_trans B6.out.size hb7.size)⟩)
            have heb : (askE s y.q.kind y.q.key y.q.b y.q.id == 0) = false := by simp [he]
            generalize askE s y.q.kind y.q.key y.q.b y.q.id = ae at *
            generalize wtB s = D at *
            clear hb7 CA CQ hfl
            cases D with
            | false =>
              go_wp2_with fail
              go_roundw
              case rel => exact ⟨j + 1, ak, by omega, by go_num, rfl, HO⟩
              case measure => simp [intOf]; omega
            | true =>
              go_wp2_with fail
              go_roundw
              case rel => exact ⟨j + 1, ak, by omega, by go_num, rfl, HO⟩
              case measure => simp [intOf]; omega
          · have hD := ask_free he
            rw [hD] at *
            have HC7 := Lib.hid hc'
            have HB7 := Lib.hid (hk7.below (bthen HB.out B6.out) (fun k hk => Nat.le_trans hBw ((HC.out.lt k hk).1)))
            have hsz7 := Nat.le_trans hBz (Nat.le_trans B6.out.size hk7.size)
            have CO := Lib.hid (open_any w7 hc')
            have hst7 := HSD.out
            rw [show (askS s y.q.kind y.q.key y.q.b y.q.id).q.v = .agg #[.int .i64 id, .int .i64 ((ak : Int) + 1), .int .i64 y.q.kind, .string y.q.key, .float .f64 y.q.b, .int .i64 y.q.id] by rw [← hst7.1, ← hst7.2.1]; rfl,
              show wtB (askS s y.q.kind y.q.key y.q.b y.q.id) = true from decide_eq_true (show 0 < s.id from by have := HIN.out.id; omega)] at CO
            have hwk : IntKind.i64.wrap ((ak : Int) + 1) = (ak : Int) + 1 := IntWalk.i64_in _ (by omega)
            clear hk7 hz' hc' CA CQ hfl hst7
            go_wp2_with fail
            refine CO.out.mono ?_
            rintro r w8 ⟨rfl, hb8⟩
            have hba := below_alloc w8 (.cells #[.int .i64 id, .int .i64 ((ak : Int) + 1), .int .i64 y.q.kind, .string y.q.key, .float .f64 y.q.b, .int .i64 y.q.id] 26 (0, 0))
            have HO := Lib.hid (show OSt w B p id (ak + 1) (j + 1) (w8.alloc (.cells #[.int .i64 id, .int .i64 ((ak : Int) + 1), .int .i64 y.q.kind, .string y.q.key, .float .f64 y.q.b, .int .i64 y.q.id] 26 (0, 0))) from
              ⟨Z', _, HC7.out.old (bthen hb8 hba), HSD.out.1, by show s.st + 1 = ((ak + 1 : Nat) : Int); rw [HSD.out.2.1]; omega, Nat.le_succ_of_le HSD.out.2.2, bthen HB7.out (bthen hb8 hba), Nat.le_trans hsz7 (bthen hb8 hba).size⟩)
            have x0 : (w8.alloc (.cells #[.int .i64 id, .int .i64 ((ak : Int) + 1), .int .i64 y.q.kind, .string y.q.key, .float .f64 y.q.b, .int .i64 y.q.id] 26 (0, 0))).cell? ⟨w8.heap.size, 0, none⟩ = some (.int .i64 id) := by rw [blk_cell (blk_alloc _ _)]; rfl
            have x1 : (w8.alloc (.cells #[.int .i64 id, .int .i64 ((ak : Int) + 1), .int .i64 y.q.kind, .string y.q.key, .float .f64 y.q.b, .int .i64 y.q.id] 26 (0, 0))).cell? ⟨w8.heap.size, 1, none⟩ = some (.int .i64 ((ak : Int) + 1)) := by rw [blk_cell (blk_alloc _ _)]; rfl
            clear hb8 hba CO HC7 HB7 hsz7
            go_wp2_with fail
            go_roundw
            case rel => exact ⟨j + 1, ak + 1, by omega, by go_num, by simp, HO⟩
            case measure => simp [intOf]; omega
        · have hkb : (kind19 y.kd == 0) = false := by simp [hk0]
          have HDS := Lib.hid (does_same (s := s) hk0)
          go_upto_region 20 with (fail)
          clear z3 z4 z5 z6 z7 z8 CA CQ hfl
          refine wp_region_lit ?_
          refine wpList_val (w' := w5) rfl (v := .pointer (some ⟨p, 0, none⟩)) (by simp only [execOp]; go_simp) ?_
          simp only [Act.put, List.setIfInBounds_toArray, List.set_cons_succ, List.set_cons_zero]
          refine wpList_val (w' := w5) rfl (v := .slice (some ⟨b, o, none⟩) n c) (by simp only [execOp]; go_simp) ?_
          simp only [Act.put, List.setIfInBounds_toArray, List.set_cons_succ, List.set_cons_zero]
          refine wpList_val (w' := w5) rfl (v := .int .i64 j) (by simp only [execOp]; go_simp) ?_
          simp only [Act.put, List.setIfInBounds_toArray, List.set_cons_succ, List.set_cons_zero]
          refine wpList_val (w' := w5) rfl (v := .pointer (some ⟨b, o + j * 26, none⟩)) (by simp only [execOp]; go_simp) ?_
          simp only [Act.put, List.setIfInBounds_toArray, List.set_cons_succ, List.set_cons_zero]
          refine wpList_load_mid rfl 85 (.tmp 102) rfl b (o + j * 26) rfl cs _ (HLD.out w5 B5.out) Try.underlying85 rfl HMI.out ?_
          simp only [Act.put, List.setIfInBounds_toArray, List.set_cons_succ, List.set_cons_zero]
          go_wp2_with fail
          refine (CD.out w5 B5.out).mono ?_
          rintro r w7 ⟨rfl, hk7, Z', hz', hc'⟩
          have hinv' : CInv (doesS s y) := by obtain ⟨X, t, oc, os, om, oa, ob, h, hz⟩ := hc'.ex; exact h.inv
          have hdid := HDS.out.1.trans HSD.out.1
          have hdst := HDS.out.2.1.trans HSD.out.2.1
          have hna := hinv'.na
          rw [hdst] at hna
          have hopn : wtB (doesS s y) = decide (0 < (doesS s y).q.c) := rfl
          have HAC := Lib.hid (show ∀ (k : Nat) x, (doesS s y).ac[k]? = some x → x.1 = k + 1 ∧ x.2.c = id ∧ x.2.s = k + 1 from fun k x hk => by
            have := hinv'.ac k x hk
            rw [hdid] at this
            exact this)
          have HSD2 := Lib.hid (show (doesS s y).id = id ∧ (doesS s y).st = (ak : Int) ∧ (doesS s y).hs ≤ j + 1 from ⟨hdid, hdst, Nat.le_trans HDS.out.2.2.1 (by have := HSD.out.2.2; omega)⟩)
          have HC7 := Lib.hid hc'
          have HB7 := Lib.hid (hk7.below (bthen HB.out B5.out) (fun k hk => Nat.le_trans hBw ((HC.out.lt k hk).1)))
          have hsz7 := Nat.le_trans hBz (Nat.le_trans B5.out.size hk7.size)
          have CAc := Lib.hid (accepted_any w7 hc')
          have CO := Lib.hid (fun (wa : World) (hwa : Below w7.heap.size w7 wa) => open_any wa (hc'.old hwa))
          have hacl := hinv'.acl
          unfold Rq.v at CO
          generalize doesS s y = s' at *
          clear hk7 hz' hc' CD HDS HKD
          go_wp2_with fail
          refine CAc.out.mono ?_
          rintro r w8 ⟨v8, rfl, ho8, hb8⟩
          obtain ⟨a8, c8, rfl⟩ := owns_form ho8
          have HO8 := Lib.hid ho8
          have B8 := Lib.hid hb8
          clear ho8 CAc
          go_wp2_with fail
          refine (CO.out w8 hb8).mono ?_
          rintro r w9 ⟨rfl, hb9⟩
          have B9 := Lib.hid (bthen B8.out hb9)
          have HO9 := Lib.hid (owns_old HO8.out hb9)
          clear hb8 hb9 CO HO8 B8
          generalize hD : wtB s' = D at *
          cases D with
          | false =>
            have hq0 : ¬ 0 < s'.q.c := by simpa using hopn
            rw [if_neg hq0] at hna
            clear hopn hq0 hD
            generalize hnl : s'.ac.length = na at *
            obtain rfl : na = ak := by omega
            have d1 : decide ((na : Int) < (na : Int)) = false := by simp
            have d2 : ((na : Int) == (na : Int)) = true := by simp
            have hba := below_alloc w9 (.cells #[.int .i64 s'.q.c, .int .i64 s'.q.s, .int .i64 s'.q.kind, .string s'.q.key, .float .f64 s'.q.b, .int .i64 s'.q.id] 26 (0, 0))
            have HO10 := Lib.hid (owns_old HO9.out hba)
            have B10 := Lib.hid (bthen B9.out hba)
            go_upto_region 23 with (fail)
            generalize w9.alloc (.cells #[.int .i64 s'.q.c, .int .i64 s'.q.s, .int .i64 s'.q.kind, .string s'.q.key, .float .f64 s'.q.b, .int .i64 s'.q.id] 26 (0, 0)) = w10 at *
            clear hba
            go_wp2_with fail
            go_loopw [20] (fun v wr => ∃ k : Nat, k ≤ na ∧ v = .int .i64 k ∧ Hid (Below w10.heap.size w10 wr)) (fun v _ => na - (intOf v).toNat)
            case atStart => exact ⟨0, by omega, rfl, Lib.hid (Below.refl _ _)⟩
            case round =>
              obtain ⟨k, hk, rfl, Hb⟩ := hrel
              by_cases hlk : k < na
              · obtain ⟨x, hx⟩ : ∃ x, s'.ac[k]? = some x := ⟨_, List.getElem?_eq_getElem (by omega)⟩
                have hac := HAC.out k x hx
                have hoo := owns_old HO10.out Hb.out
                rw [← hnl] at hoo
                obtain ⟨g, cc, hv, hcap, x0, x1, x2⟩ := ents_cells hoo hx
                rw [hac.2.1] at x1
                rw [hac.2.2] at x2
                obtain ⟨rfl, rfl⟩ : a8 = some ⟨g, 0, none⟩ ∧ c8 = cc := by injection hv with h1 h2 h3; exact ⟨h1, h3⟩
                have hdk : decide ((k : Int) < (na : Int)) = true := by simp; omega
                have hkk : IntKind.i64.wrap ((k : Int) + 1) = (k : Int) + 1 := IntWalk.i64_in _ (by omega)
                have hk0' : (0 : Int) ≤ (k : Int) := by omega
                have hk1' : (k : Int) < (na : Int) := by omega
                clear hoo hac hx hv
                go_wp2_with fail
                go_roundw
                case rel => exact ⟨k + 1, by omega, by simp, Hb⟩
                case measure => simp [intOf]; omega
              · have hkn : k = na := by omega
                subst hkn
                have hdk : decide ((k : Int) < (k : Int)) = false := by simp
                have HO := Lib.hid (show OSt w B p id k (j + 1) wr from ⟨Z', s', HC7.out.old (bthen B10.out Hb.out), HSD2.out.1, HSD2.out.2.1, HSD2.out.2.2, bthen HB7.out (bthen B10.out Hb.out), Nat.le_trans hsz7 (bthen B10.out Hb.out).size⟩)
                go_wp2_with fail
                go_roundw
                case rel => exact ⟨j + 1, k, by omega, by go_num, by simp, HO⟩
                case measure => simp [intOf]; omega
          | true =>
            have hq0 : 0 < s'.q.c := by simpa using hopn
            rw [if_pos hq0] at hna
            clear hopn hq0 hD
            generalize hnl : s'.ac.length = na at *
            have d1 : decide ((ak : Int) < (na : Int)) = false := by simp; omega
            have d2 : ((na : Int) == (ak : Int)) = false := by simp; omega
            have hne1 : ¬ na = ak := by omega
            have hne3 : ¬ ak < na := by omega
            have d4 : decide (ak < na) = false := by simp; omega
            have hne2 : ¬ (na : Int) = (ak : Int) := by omega
            have d3 : (na == ak) = false := by simp [hne1]
            clear hna
            have hba := below_alloc w9 (.cells #[.int .i64 s'.q.c, .int .i64 s'.q.s, .int .i64 s'.q.kind, .string s'.q.key, .float .f64 s'.q.b, .int .i64 s'.q.id] 26 (0, 0))
            have HO10 := Lib.hid (owns_old HO9.out hba)
            have B10 := Lib.hid (bthen B9.out hba)
            go_upto_region 23 with (fail)
            generalize w9.alloc (.cells #[.int .i64 s'.q.c, .int .i64 s'.q.s, .int .i64 s'.q.kind, .string s'.q.key, .float .f64 s'.q.b, .int .i64 s'.q.id] 26 (0, 0)) = w10 at *
            clear hba
            go_wp2_with fail
            go_loopw [20] (fun v wr => ∃ k : Nat, k ≤ na ∧ v = .int .i64 k ∧ Hid (Below w10.heap.size w10 wr)) (fun v _ => na - (intOf v).toNat)
            case atStart => exact ⟨0, by omega, rfl, Lib.hid (Below.refl _ _)⟩
            case round =>
              obtain ⟨k, hk, rfl, Hb⟩ := hrel
              by_cases hlk : k < na
              · obtain ⟨x, hx⟩ : ∃ x, s'.ac[k]? = some x := ⟨_, List.getElem?_eq_getElem (by omega)⟩
                have hac := HAC.out k x hx
                have hoo := owns_old HO10.out Hb.out
                rw [← hnl] at hoo
                obtain ⟨g, cc, hv, hcap, x0, x1, x2⟩ := ents_cells hoo hx
                rw [hac.2.1] at x1
                rw [hac.2.2] at x2
                obtain ⟨rfl, rfl⟩ : a8 = some ⟨g, 0, none⟩ ∧ c8 = cc := by injection hv with h1 h2 h3; exact ⟨h1, h3⟩
                have hdk : decide ((k : Int) < (na : Int)) = true := by simp; omega
                have hkk : IntKind.i64.wrap ((k : Int) + 1) = (k : Int) + 1 := IntWalk.i64_in _ (by omega)
                have hk0' : (0 : Int) ≤ (k : Int) := by omega
                have hk1' : (k : Int) < (na : Int) := by omega
                clear hoo hac hx hv
                go_wp2_with fail
                go_roundw
                case rel => exact ⟨k + 1, by omega, by simp, Hb⟩
                case measure => simp [intOf]; omega
              · have hkn : k = na := by omega
                subst hkn
                have hdk : decide ((k : Int) < (k : Int)) = false := by simp
                have HO := Lib.hid (show OSt w B p id ak (j + 1) wr from ⟨Z', s', HC7.out.old (bthen B10.out Hb.out), HSD2.out.1, HSD2.out.2.1, HSD2.out.2.2, bthen HB7.out (bthen B10.out Hb.out), Nat.le_trans hsz7 (bthen B10.out Hb.out).size⟩)
                go_wp2_with fail
                go_roundw
                case rel => exact ⟨j + 1, ak, by omega, by go_num, by simp, HO⟩
                case measure => simp [intOf]; omega
      · have hjn : j = n := by omega
        subst hjn
        have hd : decide ((j : Int) < (j : Int)) = false := by simp
        obtain ⟨Z, s, hc, hsid, hsst, hshs, hb, hBz⟩ := HG.out
        have B := Lib.hid hb
        clear hc hb HG
        go_wp2_with fail
        go_ret
        exact ⟨rfl, B.out⟩
  · go_wp2_with fail
    go_ret
    exact ⟨rfl, B2.out⟩

set_option maxRecDepth 100000 in
theorem lifted (os : Os) (started : os.Started) (H : Type) (enc : TypeId × Value → H) :
    ReturnsInHanded {} Try.checked os 12 .any (Rows.clientOnceSpec.pre6 enc Try.prog Try.f12 Rows.clientOnceRow.domain false) (Rows.clientOnceSpec.post enc Try.prog Try.f12 false true false false) := by
  refine returnsInHanded_of_change_sized (C := Try.checked) own started (by kernel_rfl) Try.func12
    (ChangeSpec.witness6 (enc := enc) (C := Try.checked) false ⟨#[], #[.int .i64 0, .agg #[.int .i64 0, .slice none 0 0], .slice none 0 0], []⟩ 8 (by kernel_rfl) (by kernel_rfl) (by kernel_rfl) (by kernel_rfl)) ?_
  intro W base args ds gs before hval0 hW hcnd hsz _
  have hval : ∀ (j : Nat) t v, Try.f12.params[j]? = some t → args[j]? = some v → Value.okWide Try.prog W .any base t v := hval0
  have hW' := hW
  obtain ⟨p, q, hA0, hV, rfl, hfz, hnd⟩ := hW
  have hA : DataW.TrodAll enc Try.prog W 0 (fun _ => true) true Try.f12.params.toList args.toList ds p := hA0
  rw [Try.params12] at hA hval hsz
  have hA2 := hA
  obtain ⟨v0, vs0, d0, ds0, p0, q0, hargs, rfl, rfl, h0, r0⟩ := trodAll_cons hA
  obtain ⟨v1, vs1, d1, ds1, p1, q1, rfl, rfl, rfl, h1, r1⟩ := trodAll_cons r0
  obtain ⟨v2, vs2, d2, ds2, p2, q2, rfl, rfl, rfl, h2, r2⟩ := trodAll_cons r1
  obtain ⟨rfl, rfl, rfl⟩ := trodAll_nil r2
  obtain rfl : args = #[v0, v1, v2] := by cases args; simp_all
  obtain ⟨rfl, rfl⟩ := trodVars_none hV
  clear hargs
  have k0 := hval 0 3 v0 rfl rfl
  obtain ⟨fu0, m0⟩ := h0
  have w0 := weights_of hsz (j := 0) (t := 3) rfl rfl
  obtain ⟨a0, e0, f0⟩ := view_int Try.underlying3 m0
  have e0' := int_of Try.underlying3 k0 e0
  subst e0'
  have k1 := hval 1 74 v1 rfl rfl
  obtain ⟨fu1, m1⟩ := h1
  have w1 := weights_of hsz (j := 1) (t := 74) rfl rfl
  have F1 : Fit Try.prog 74 d1 := .inl w1
  have s1 := cells_agg Try.underlying74 k1
  obtain ⟨y1, E1, g1⟩ := vwConf.2.2 m1 F1
  obtain ⟨p1, l1, a1, n1, c1, rfl, e1, f1, j1⟩ := conf_open E1
  obtain ⟨z1, s11, s12⟩ := s1
  have e1' := agg_of ⟨s11, s12⟩ e1
  subst e1'
  have k2 := hval 2 75 v2 rfl rfl
  obtain ⟨fu2, m2⟩ := h2
  have w2 := weights_of hsz (j := 2) (t := 75) rfl rfl
  have F2 : Fit Try.prog 75 d2 := .inl w2
  obtain ⟨l2, ⟨a2, n2, c2, e2, f2⟩, g2⟩ := vwSteps19.2.2 m2 F2
  have e2' := slice_of Try.underlying75 k2 e2
  subst e2'
  refine (walk W a0 f0 p1 a1 n1 c1 l1 f1 j1 a2 n2 c2 l2 f2).mono fun e W' ⟨he, bel⟩ => ?_
  subst he
  exact ⟨_, rfl, _, _, _, [], _, [], hW', trodAll_mk1 (shut_bool Try.underlying4 _), trodAll_again laidOut bel (by kernel_rfl) hA2, rfl, bel.frame _, fun h => by cases h⟩

theorem over : Rows.clientOnceRow.holds Try.pinned (OpenSpec.ofChange Rows.clientOnceSpec) :=
  OpenClaim.holds_of_wide 12 Try.f12 rfl rfl rfl rfl rfl rfl rfl ⟨rfl, rfl, rfl, rfl, rfl⟩ rfl rfl rfl rfl rfl (by kernel_rfl) Try.func12 (by kernel_rfl)
    (of_decide_eq_true (by kernel_rfl)) (by unfold Func.isWrapper; first | (rw [if_pos (by decide +kernel)]; kernel_rfl) | (rw [if_neg (by decide +kernel)]; exact ⟨rfl, rfl⟩))
    (fun os started H enc _ => lifted os started H enc)

theorem proved : Rows.ClientOnceSaid := over
#print axioms proved
end Go.Proofs.Ytijeieamodjgbaa.clientOnce
