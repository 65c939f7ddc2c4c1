
/- The client: Ask. -/
import Derived.Test.YtijeieamodjgbabCa
import Derived.Test.YtijeieamodjgbabCn

namespace Go.Proofs.Ytijeieamodjgbab
set_option maxRecDepth 100000
open Go.RowKit Go.Maps Go.Deep
set_option linter.unusedVariables false
set_option linter.unusedSimpArgs false
attribute [local go_sem] run_store_float

section
variable {X : Nat → Prop} {w w' : World} {B p t : Nat} {oc os om om' oa ob : Option Nat} {s s' : Cst}
/-- The client's box alone has turned (and its map). -/
theorem CliAt.turn (h : CliAt X w B p t oc os om oa ob s) (hk : Keep (fun k => k = p) w w') (e1 : s'.c0 = s.c0) (e2 : s'.cs = s.cs) (e3 : s'.ss = s.ss) (e4 : s'.ac = s.ac) (e5 : s'.rs = s.rs)
    (hbox : ∀ va vb, w.heap[p]? = some (.cells #[.int .i64 s.id, .pointer (some ⟨t, 0, none⟩), .int .i64 s.st, .int .i64 s.q.c, .int .i64 s.q.s, .int .i64 s.q.kind, .string s.q.key, .float .f64 s.q.b, .int .i64 s.q.id, .map om, va, vb] 79 (0, 0)) → w'.heap[p]? = some (.cells #[.int .i64 s'.id, .pointer (some ⟨t, 0, none⟩), .int .i64 s'.st, .int .i64 s'.q.c, .int .i64 s'.q.s, .int .i64 s'.q.kind, .string s'.q.key, .float .f64 s'.q.b, .int .i64 s'.q.id, .map om', va, vb] 79 (0, 0)))
    (hom : ∀ m, om' = some m → (om = some m ∨ w.heap.size ≤ m) ∧ m < w'.heap.size)
    (hmp : 0 < s'.q.c → ∃ m n D, om' = some m ∧ w'.ownsMap Try.prog 128 rawC m n D ∧ n ≤ s'.cm.length ∧ CMp s'.cm D) (hi : CInv s') : CliAt X w' B p t oc os om' oa ob s' := by
  have hlt := h.lt
  have hlp := hlt p (.inl rfl)
  obtain ⟨va, vb, hp, h1, e6, h2, e7⟩ := h.ex
  have htl := h.trk.lt
  have ht : Trk X w' B t oc os (s'.c0 :: s'.cs) s'.ss := by
    rw [e1, e2, e3]
    exact h.trk.keep hk (fun k _ hy => by subst hy; exact h.own _ (.inl rfl))
  have hold : ∀ m, om' = some m → om = some m ∨ w.heap.size ≤ m := fun m hm => (hom m hm).1
  refine ⟨ht, hi, h.hB, fun k hm => ⟨?_, (hom k hm).2⟩, fun k hy => ?_, ⟨fun hc => ?_, h.nop.2⟩, fun k hm => ?_, h.noa, ⟨va, vb, hbox va vb hp, ?_, e6, ?_, e7⟩, hmp⟩
  · rcases hold k hm with hm | hm
    · exact (h.hm k hm).1
    · omega
  · rcases hy with hy | hm | hy | hy
    · exact h.own k (.inl hy)
    · rcases hold k hm with hm | hm
      · exact h.own k (.inr (.inl hm))
      · refine ⟨h.trk.new k hm, fun hc => ?_⟩
        rcases hc with hc | hc | hc
        · omega
        · have := (htl.2.1 k hc).2; omega
        · have := (htl.2.2 k hc).2; omega
    · exact h.own k (.inr (.inr (.inl hy)))
    · exact h.own k (.inr (.inr (.inr hy)))
  · rcases hold p hc with hc | hc
    · exact h.nop.1 hc
    · omega
  · rcases hold k hm with hm | hm
    · exact h.nom k hm
    · exact ⟨fun hc => by have := (hlt k (.inr (.inr (.inl hc)))).2; omega, fun hc => by have := (hlt k (.inr (.inr (.inr hc)))).2; omega⟩
  · rw [e4]
    exact owns_keep h1 hk (fun k hk' hy => by subst hy; exact h.nop.2.1 (by rw [← e6]; exact hk'))
  · rw [e5]
    exact owns_keep h2 hk (fun k hk' hy => by subst hy; exact h.nop.2.2 (by rw [← e7]; exact hk'))
end
def askE (s : Cst) (kd : Int) (ky : ByteArray) (fb : Nat) (oi : Int) : Int := if rightQ s.id (s.st + 1) kd ky fb oi = false then 1 else if wtB s = true then 18 else 0
def askS (s : Cst) (kd : Int) (ky : ByteArray) (fb : Nat) (oi : Int) : Cst := { s with st := s.st + 1, q := ⟨s.id, s.st + 1, kd, ky, fb, oi⟩, cm := [] }
theorem ask_inv {s : Cst} (h : CInv s) {kd : Int} {ky : ByteArray} {fb : Nat} {oi : Int} (h1 : i64 kd) (h2 : i64 oi) (h3 : fb < 18446744073709551616) (h4 : ky.size ≤ 140737488351232) (hr : rightQ s.id (s.st + 1) kd ky fb oi = true) (hw : wtB s = false) : CInv (askS s kd ky fb oi) := by
  have hp := rightQ_parts hr
  have hi := h.id
  have hs := h.st
  have hw' : ¬ 0 < s.q.c := by simpa [wtB] using hw
  have hc : 0 < (askS s kd ky fb oi).q.c := by show 0 < s.id; omega
  refine ⟨h.len, h.l64, h.id, ⟨by show 0 ≤ s.st + 1; omega, by show s.st + 1 ≤ _; omega⟩, ⟨by show i64 s.id; unfold i64; omega, by show i64 (s.st + 1); unfold i64; omega, h1, h2, h3, h4⟩, h.right, fun _ => ⟨rfl, rfl⟩, ?_, h.nr, h.ac, Nat.zero_le _⟩
  rw [if_pos hc]
  have := h.na
  rw [if_neg hw'] at this
  show (s.ac.length : Int) = s.st + 1 - 1
  omega
theorem asked_at {X : Nat → Prop} {w w3 : World} {B p t : Nat} {oc os om oa ob : Option Nat} {s : Cst} (h : CliAt X w B p t oc os om oa ob s) (hb : Below w.heap.size w w3) {kd : Int} {ky : ByteArray} {fb : Nat} {oi : Int} (h1 : i64 kd) (h2 : i64 oi) (h3 : fb < 18446744073709551616) (h4 : ky.size ≤ 140737488351232)
    (hr : rightQ s.id (s.st + 1) kd ky fb oi = true) (hw : wtB s = false) {id st : Int} (hid : s.id = id) (hst : s.st = st) :
    CliAt X (((((((((w3.setCell ⟨p, 2, none⟩ (.int .i64 (st + 1))).setCell ⟨p, 3, none⟩ (.int .i64 id)).setCell ⟨p, 4, none⟩ (.int .i64 (st + 1))).setCell ⟨p, 5, none⟩ (.int .i64 kd)).setCell ⟨p, 6, none⟩ (.string ky)).setCell ⟨p, 7, none⟩ (.float .f64 fb)).setCell ⟨p, 8, none⟩ (.int .i64 oi)).alloc (.map #[] 0)).setCell ⟨p, 9, none⟩ (.map (some w3.heap.size))) B p t oc os (some w3.heap.size) oa ob (askS s kd ky fb oi) ∧ Keep (fun k => k = p) w (((((((((w3.setCell ⟨p, 2, none⟩ (.int .i64 (st + 1))).setCell ⟨p, 3, none⟩ (.int .i64 id)).setCell ⟨p, 4, none⟩ (.int .i64 (st + 1))).setCell ⟨p, 5, none⟩ (.int .i64 kd)).setCell ⟨p, 6, none⟩ (.string ky)).setCell ⟨p, 7, none⟩ (.float .f64 fb)).setCell ⟨p, 8, none⟩ (.int .i64 oi)).alloc (.map #[] 0)).setCell ⟨p, 9, none⟩ (.map (some w3.heap.size))) := by
  have hpl := (h.lt p (.inl rfl)).2
  have hz : (((((((w3.setCell ⟨p, 2, none⟩ (.int .i64 (st + 1))).setCell ⟨p, 3, none⟩ (.int .i64 id)).setCell ⟨p, 4, none⟩ (.int .i64 (st + 1))).setCell ⟨p, 5, none⟩ (.int .i64 kd)).setCell ⟨p, 6, none⟩ (.string ky)).setCell ⟨p, 7, none⟩ (.float .f64 fb)).setCell ⟨p, 8, none⟩ (.int .i64 oi)).heap.size = w3.heap.size := by simp [World.setCell]
  have hk : Keep (fun k => k = p) w w3 := Keep.of_below hb
  have hk4 : Keep (fun k => k = p) w (((((((w3.setCell ⟨p, 2, none⟩ (.int .i64 (st + 1))).setCell ⟨p, 3, none⟩ (.int .i64 id)).setCell ⟨p, 4, none⟩ (.int .i64 (st + 1))).setCell ⟨p, 5, none⟩ (.int .i64 kd)).setCell ⟨p, 6, none⟩ (.string ky)).setCell ⟨p, 7, none⟩ (.float .f64 fb)).setCell ⟨p, 8, none⟩ (.int .i64 oi)) := (((((((hk.set (.inr rfl) 2 (.int .i64 (st + 1))).set (.inr rfl) 3 (.int .i64 id)).set (.inr rfl) 4 (.int .i64 (st + 1))).set (.inr rfl) 5 (.int .i64 kd)).set (.inr rfl) 6 (.string ky)).set (.inr rfl) 7 (.float .f64 fb)).set (.inr rfl) 8 (.int .i64 oi))
  have hk5 := (hk4.alloc (.map #[] 0)).set (p := p) (.inr rfl) 9 (.map (some w3.heap.size))
  have hmap := World.ownsMap_made (H := Value) (((((((w3.setCell ⟨p, 2, none⟩ (.int .i64 (st + 1))).setCell ⟨p, 3, none⟩ (.int .i64 id)).setCell ⟨p, 4, none⟩ (.int .i64 (st + 1))).setCell ⟨p, 5, none⟩ (.int .i64 kd)).setCell ⟨p, 6, none⟩ (.string ky)).setCell ⟨p, 7, none⟩ (.float .f64 fb)).setCell ⟨p, 8, none⟩ (.int .i64 oi)) Try.prog 128 rawC
  rw [hz] at hmap
  have hmm : (((((((((w3.setCell ⟨p, 2, none⟩ (.int .i64 (st + 1))).setCell ⟨p, 3, none⟩ (.int .i64 id)).setCell ⟨p, 4, none⟩ (.int .i64 (st + 1))).setCell ⟨p, 5, none⟩ (.int .i64 kd)).setCell ⟨p, 6, none⟩ (.string ky)).setCell ⟨p, 7, none⟩ (.float .f64 fb)).setCell ⟨p, 8, none⟩ (.int .i64 oi)).alloc (.map #[] 0)).setCell ⟨p, 9, none⟩ (.map (some w3.heap.size))).heap[w3.heap.size]? = ((((((((w3.setCell ⟨p, 2, none⟩ (.int .i64 (st + 1))).setCell ⟨p, 3, none⟩ (.int .i64 id)).setCell ⟨p, 4, none⟩ (.int .i64 (st + 1))).setCell ⟨p, 5, none⟩ (.int .i64 kd)).setCell ⟨p, 6, none⟩ (.string ky)).setCell ⟨p, 7, none⟩ (.float .f64 fb)).setCell ⟨p, 8, none⟩ (.int .i64 oi)).alloc (.map #[] 0)).heap[w3.heap.size]? := Below.heap_setCell _ _ _ _ (by
    intro hc
    have hc : w3.heap.size = p := hc
    have := hb.size
    omega)
  refine ⟨h.turn hk5 rfl rfl rfl rfl rfl (fun va vb hp => ?_) (fun m hm => ?_) (fun _ => ⟨w3.heap.size, 0, _, rfl, rawC_block hmap hmm, Nat.le_refl _, CMp.empty⟩) (ask_inv h.inv h1 h2 h3 h4 hr hw), hk5⟩
  · have h := (hb.block p hpl).trans hp
    have h9 := blk_set (show ((((((((w3.setCell ⟨p, 2, none⟩ (.int .i64 (st + 1))).setCell ⟨p, 3, none⟩ (.int .i64 id)).setCell ⟨p, 4, none⟩ (.int .i64 (st + 1))).setCell ⟨p, 5, none⟩ (.int .i64 kd)).setCell ⟨p, 6, none⟩ (.string ky)).setCell ⟨p, 7, none⟩ (.float .f64 fb)).setCell ⟨p, 8, none⟩ (.int .i64 oi)).alloc (.map #[] 0)).heap[p]? = _ from (Below.heap_alloc _ _ _ (by rw [hz]; exact Nat.lt_of_lt_of_le hpl hb.size)).trans (blk_set (blk_set (blk_set (blk_set (blk_set (blk_set (blk_set h 2 (.int .i64 (st + 1))) 3 (.int .i64 id)) 4 (.int .i64 (st + 1))) 5 (.int .i64 kd)) 6 (.string ky)) 7 (.float .f64 fb)) 8 (.int .i64 oi))) 9 (.map (some w3.heap.size))
    rw [h9]
    simp only [List.setIfInBounds_toArray, List.set_cons_succ, List.set_cons_zero]
    subst hid hst
    rfl
  · injection hm with hm
    subst hm
    refine ⟨.inr hb.size, ?_⟩
    have := hz
    simp [World.setCell] at this ⊢
def AskPost (Z : Nat → Prop) (B p : Nat) (s : Cst) (l : List Int) (kd : Int) (ky : ByteArray) (fb : Nat) (oi : Int) (w : World) (r : Ending) (w' : World) : Prop :=
  (askE s kd ky fb oi ≠ 0 ∧ r = .returned (.tuple #[.slice none 0 0, .int .i64 (askE s kd ky fb oi)]) ∧ Below w.heap.size w w') ∨
  (askE s kd ky fb oi = 0 ∧ (∃ a c, r = .returned (.tuple #[.slice a l.length c, .int .i64 0])) ∧ Keep Z w w' ∧ ∃ Z' : Nat → Prop, (∀ k, Z' k → Z k ∨ w.heap.size ≤ k) ∧ Cli Z' w' B p (askS s kd ky fb oi))
set_option maxHeartbeats 1000000 in
theorem ask_any {Z : Nat → Prop} {B p : Nat} {s : Cst} (w : World) (h : Cli Z w B p s) (e : Int) (l : List Int) (hl : (s.c0 :: s.cs)[s.ss.length]? = some (e, l)) (kd : Int) (ky : ByteArray) (fb : Nat) (oi : Int) (h1 : i64 kd) (h2 : i64 oi) (h3 : fb < 18446744073709551616) (h4 : ky.size ≤ 140737488351232) :
    Calls Try.prog 16 #[.pointer (some ⟨p, 0, none⟩), .agg #[.int .i64 kd, .string ky, .float .f64 fb, .int .i64 oi]] w (AskPost Z B p s l kd ky fb oi w) := by
  obtain ⟨X, t, oc, os, om, oa, ob, h, hz⟩ := h.ex
  obtain ⟨va, vb, hp, -⟩ := h.ex
  obtain ⟨w1, hw1⟩ : ∃ w1, w1 = w.alloc (.cells #[.int .i64 kd, .string ky, .float .f64 fb, .int .i64 oi] 33 (0, 0)) := ⟨_, rfl⟩
  have b1 : Below w.heap.size w w1 := by rw [hw1]; exact below_alloc _ _
  have k1 : w1.heap[w.heap.size]? = some (.cells #[.int .i64 kd, .string ky, .float .f64 fb, .int .i64 oi] 33 (0, 0)) := by rw [hw1]; exact blk_alloc _ _
  have hst := h.st
  have hww : IntKind.i64.wrap (s.st + 1) = s.st + 1 := IntWalk.i64_in _ (by omega)
  have CR := Lib.hid (fun (wa : World) => qright_any s.id (s.st + 1) kd ky fb oi wa h4)
  have CW := Lib.hid (fun (wa : World) (hb : Below w.heap.size w wa) => waiting_any wa (h.old hb))
  have HA := Lib.hid (fun (w3 : World) (hb : Below w.heap.size w w3) hr hw => asked_at (kd := kd) (ky := ky) (fb := fb) (oi := oi) h hb h1 h2 h3 h4 hr hw rfl rfl)
  have HE := Lib.hid (show askE s kd ky fb oi = if rightQ s.id (s.st + 1) kd ky fb oi = false then 1 else if wtB s = true then 18 else 0 from rfl)
  have HP := Lib.hid hp; have HP1 := Lib.hid (blk_below hp b1)
  have HZ := Lib.hid hz; have HL := Lib.hid hl; have H := Lib.hid h
  have B1 := Lib.hid b1
  generalize hid : s.id = id at *
  generalize hst' : s.st = st at *
  generalize rightQ id (st + 1) kd ky fb oi = R at *
  generalize wtB s = D at *
  have p0 : w1.cell? ⟨p, 0, none⟩ = some (.int .i64 id) := by rw [blk_cell HP1.out]; rfl
  have p2 : w1.cell? ⟨p, 2, none⟩ = some (.int .i64 st) := by rw [blk_cell HP1.out]; rfl
  have m0 : w1.cell? ⟨w.heap.size, 0, none⟩ = some (.int .i64 kd) := by rw [blk_cell k1]; rfl
  have m1 : w1.cell? ⟨w.heap.size, 1, none⟩ = some (.string ky) := by rw [blk_cell k1]; rfl
  have m2 : w1.cell? ⟨w.heap.size, 2, none⟩ = some (.float .f64 fb) := by rw [blk_cell k1]; rfl
  have m3 : w1.cell? ⟨w.heap.size, 3, none⟩ = some (.int .i64 oi) := by rw [blk_cell k1]; rfl
  have nb : ∀ o v, w1.cell? ⟨p, o, none⟩ = some v → (w1.alloc (.cells #[.int .i64 0, .int .i64 0, .int .i64 0, .string ⟨#[]⟩, .float .f64 0, .int .i64 0] 35 (0, 0))).cell? ⟨p, o, none⟩ = some v := fun o v => below_cell (below_alloc _ _)
  have nb2 : ∀ o v, w1.cell? ⟨w.heap.size, o, none⟩ = some v → (w1.alloc (.cells #[.int .i64 0, .int .i64 0, .int .i64 0, .string ⟨#[]⟩, .float .f64 0, .int .i64 0] 35 (0, 0))).cell? ⟨w.heap.size, o, none⟩ = some v := fun o v => below_cell (below_alloc _ _)
  have q0 := nb _ _ p0
  have q2 := nb _ _ p2
  have n0 := nb2 _ _ m0
  have n1 := nb2 _ _ m1
  have n2 := nb2 _ _ m2
  have n3 := nb2 _ _ m3
  clear nb2
  clear h hz hp b1 k1 nb h1 h2 h3 h4 hl
  go_enter Try.func16, Try.ntmps16
  go_upto_region 3 with (fail)
  rw [← hw1]
  clear hw1
  go_cut [6] (fun v6 wc => Hid (∃ qb, v6 = .pointer (some ⟨qb, 0, none⟩) ∧ wc.heap[qb]? = some (.cells #[.int .i64 id, .int .i64 (st + 1), .int .i64 kd, .string ky, .float .f64 fb, .int .i64 oi] 35 (0, 0)) ∧ Below w1.heap.size w1 wc ∧ w1.heap.size ≤ qb))
  case first =>
    go_region
    have G := Lib.hid (show ∃ qb, (Value.pointer (some ⟨w1.heap.size, 0, none⟩)) = .pointer (some ⟨qb, 0, none⟩) ∧ (w1.alloc (.cells #[.int .i64 id, .int .i64 (st + 1), .int .i64 kd, .string ky, .float .f64 fb, .int .i64 oi] 35 (0, 0))).drew.heap[qb]? = some (.cells #[.int .i64 id, .int .i64 (st + 1), .int .i64 kd, .string ky, .float .f64 fb, .int .i64 oi] 35 (0, 0)) ∧ Below w1.heap.size w1 (w1.alloc (.cells #[.int .i64 id, .int .i64 (st + 1), .int .i64 kd, .string ky, .float .f64 fb, .int .i64 oi] 35 (0, 0))).drew ∧ w1.heap.size ≤ qb from ⟨_, rfl, blk_alloc _ _, bdrew (below_alloc _ _), Nat.le_refl _⟩)
    go_wp2_with fail
    go_meet
    case rel => exact G
  case rest =>
    obtain ⟨qb, rfl, kq, bq, hqb⟩ := hcut.out
    clear hcut p0 p2 m0 m1 m2 m3 q0 q2 n0 n1 n2 n3 hww
    have B2 := Lib.hid (bthen B1.out bq)
    have KQ := Lib.hid kq
    have r0 : wc.cell? ⟨qb, 0, none⟩ = some (.int .i64 id) := by rw [blk_cell kq]; rfl
    have r1 : wc.cell? ⟨qb, 1, none⟩ = some (.int .i64 (st + 1)) := by rw [blk_cell kq]; rfl
    have r2 : wc.cell? ⟨qb, 2, none⟩ = some (.int .i64 kd) := by rw [blk_cell kq]; rfl
    have r3 : wc.cell? ⟨qb, 3, none⟩ = some (.string ky) := by rw [blk_cell kq]; rfl
    have r4 : wc.cell? ⟨qb, 4, none⟩ = some (.float .f64 fb) := by rw [blk_cell kq]; rfl
    have r5 : wc.cell? ⟨qb, 5, none⟩ = some (.int .i64 oi) := by rw [blk_cell kq]; rfl
    clear kq bq
    go_wp2_with fail
    refine (CR.out wc).mono ?_
    rintro r w2 ⟨rfl, b2⟩
    have KQ2 := Lib.hid (blk_below KQ.out b2)
    have B3 := Lib.hid (bthen B2.out b2)
    clear b2 r0 r1 r2 r3 r4 r5 KQ
    cases R with
    | false =>
      rw [if_pos rfl] at HE
      go_wp2_with fail
      go_ret2
      exact .inl ⟨by rw [HE.out]; decide, by rw [HE.out]; rfl, B3.out⟩
    | true =>
      rw [if_neg (by decide)] at HE
      go_wp2_with fail
      refine (CW.out w2 B3.out).mono ?_
      rintro r w3 ⟨rfl, rfl⟩
      cases D with
      | true =>
        rw [if_pos rfl] at HE
        go_wp2_with fail
        go_ret2
        exact .inl ⟨by rw [HE.out]; decide, by rw [HE.out]; rfl, B3.out⟩
      | false =>
        rw [if_neg (by decide)] at HE
        have KP := blk_below HP.out B3.out
        have hpl := blk_lt HP.out
        have hne : ¬ p = qb := by have := B1.out.size; omega
        have hne2 : ¬ qb = p := fun h => hne h.symm
        have y2 : w2.cell? ⟨p, 2, none⟩ = some (.int .i64 st) := by rw [blk_cell KP]; rfl
        have yf : ∀ o, w2.frozen? ⟨p, o, none⟩ = false := fun o => blk_frozen KP o
        have r1 : w2.cell? ⟨qb, 1, none⟩ = some (.int .i64 (st + 1)) := by rw [blk_cell KQ2.out]; rfl
        obtain ⟨w4, hw4⟩ : ∃ w4, w4 = w2.setCell ⟨p, 2, none⟩ (.int .i64 (st + 1)) := ⟨_, rfl⟩
        have KP4 := blk_set KP 2 (.int .i64 (st + 1))
        have KQ4 := blk_set_other KQ2.out p 2 (.int .i64 (st + 1)) hne2
        rw [← hw4] at KP4 KQ4
        simp only [List.setIfInBounds_toArray, List.set_cons_succ, List.set_cons_zero] at KP4
        clear KP
        go_upto_region 9 with (fail)
        rw [← hw4]
        have HW4 := Lib.hid hw4
        clear hw4 y2 yf r1
        have y3 : w4.cell? ⟨p, 3, none⟩ = some (.int .i64 s.q.c) := by rw [blk_cell KP4]; rfl
        have y4 : w4.cell? ⟨p, 4, none⟩ = some (.int .i64 s.q.s) := by rw [blk_cell KP4]; rfl
        have y5 : w4.cell? ⟨p, 5, none⟩ = some (.int .i64 s.q.kind) := by rw [blk_cell KP4]; rfl
        have y6 : w4.cell? ⟨p, 6, none⟩ = some (.string s.q.key) := by rw [blk_cell KP4]; rfl
        have y7 : w4.cell? ⟨p, 7, none⟩ = some (.float .f64 s.q.b) := by rw [blk_cell KP4]; rfl
        have y8 : w4.cell? ⟨p, 8, none⟩ = some (.int .i64 s.q.id) := by rw [blk_cell KP4]; rfl
        have yf : ∀ o, w4.frozen? ⟨p, o, none⟩ = false := fun o => blk_frozen KP4 o
        have r0 : w4.cell? ⟨qb, 0, none⟩ = some (.int .i64 id) := by rw [blk_cell KQ4]; rfl
        have r1 : w4.cell? ⟨qb, 1, none⟩ = some (.int .i64 (st + 1)) := by rw [blk_cell KQ4]; rfl
        have r2 : w4.cell? ⟨qb, 2, none⟩ = some (.int .i64 kd) := by rw [blk_cell KQ4]; rfl
        have r3 : w4.cell? ⟨qb, 3, none⟩ = some (.string ky) := by rw [blk_cell KQ4]; rfl
        have r4 : w4.cell? ⟨qb, 4, none⟩ = some (.float .f64 fb) := by rw [blk_cell KQ4]; rfl
        have r5 : w4.cell? ⟨qb, 5, none⟩ = some (.int .i64 oi) := by rw [blk_cell KQ4]; rfl
        obtain ⟨w5, hw5⟩ : ∃ w5, w5 = (((((w4.setCell ⟨p, 3, none⟩ (.int .i64 id)).setCell ⟨p, 4, none⟩ (.int .i64 (st + 1))).setCell ⟨p, 5, none⟩ (.int .i64 kd)).setCell ⟨p, 6, none⟩ (.string ky)).setCell ⟨p, 7, none⟩ (.float .f64 fb)).setCell ⟨p, 8, none⟩ (.int .i64 oi) := ⟨_, rfl⟩
        have KP5 := (blk_set (blk_set (blk_set (blk_set (blk_set (blk_set KP4 3 (.int .i64 id)) 4 (.int .i64 (st + 1))) 5 (.int .i64 kd)) 6 (.string ky)) 7 (.float .f64 fb)) 8 (.int .i64 oi))
        rw [← hw5] at KP5
        simp only [List.setIfInBounds_toArray, List.set_cons_succ, List.set_cons_zero] at KP5
        clear KP4 KQ4
        go_upto_region 10 with (fail)
        rw [← hw5]
        have HW5 := Lib.hid hw5
        clear hw5 y3 y4 y5 y6 y7 y8 yf r0 r1 r2 r3 r4 r5
        have y9 : w5.cell? ⟨p, 9, none⟩ = some (.map om) := by rw [blk_cell KP5]; rfl
        have yf : w5.frozen? ⟨p, 9, none⟩ = false := blk_frozen KP5 9
        have x9 := below_cell (below_alloc w5 (.map #[] 0)) y9
        have xf := blk_frozen (blk_below KP5 (below_alloc w5 (.map #[] 0))) 9
        have hsz : w5.heap.size = w2.heap.size := by rw [HW5.out, HW4.out]; simp [World.setCell]
        have hs5 : w.heap.size ≤ w5.heap.size := by rw [hsz]; exact B3.out.size
        have HA1 := HA.out w2 B3.out (by simp) (by simp)
        rw [← HW4.out, ← HW5.out, ← hsz] at HA1
        have hmm := @run_makeMap Try.prog
        obtain ⟨w6, hw6⟩ : ∃ w6, w6 = (w5.alloc (.map #[] 0)).setCell ⟨p, 9, none⟩ (.map (some w5.heap.size)) := ⟨_, rfl⟩
        rw [← hw6] at HA1
        have HA2 := Lib.hid HA1
        clear hsz HA1 KP5
        go_upto_region 11 with (fail)
        rw [← hw6]
        clear hw6 hmm y9 yf x9 xf
        have CN := Lib.hid (anew_any w6 HA2.out.1 e l HL.out)
        go_wp2_with fail
        refine CN.out.mono ?_
        rintro r w7 ⟨a7, c7, xs7, rfl, ho7, hb7⟩
        have HB7 := Lib.hid hb7
        clear ho7 hb7 CN
        go_wp2_with fail
        go_ret2
        refine .inr ⟨HE.out, ⟨a7, c7, rfl⟩, ?_, _, ?_, ⟨_, _, _, _, _, _, _, HA2.out.1.old HB7.out, fun k => Iff.rfl⟩⟩
        · exact ((Keep.refl Z w).trans HA2.out.2 (fun k _ hk => by subst hk; exact (HZ.out _).2 (.inl (.inl rfl)))).trans (Keep.of_below (X := Z) HB7.out) (fun _ _ h => h)
        · rintro k ((hk | hk | hk | hk) | hk)
          · exact .inl ((HZ.out _).2 (.inl (.inl hk)))
          · injection hk with hk
            subst hk
            exact .inr hs5
          · exact .inl ((HZ.out _).2 (.inl (.inr (.inr (.inl hk)))))
          · exact .inl ((HZ.out _).2 (.inl (.inr (.inr (.inr hk)))))
          · exact .inl ((HZ.out _).2 (.inr hk))
end Go.Proofs.Ytijeieamodjgbab
