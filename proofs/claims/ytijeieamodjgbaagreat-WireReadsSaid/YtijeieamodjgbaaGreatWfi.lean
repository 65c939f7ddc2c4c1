
/- Wire: walk of the reference's Fits, on an abstract frame. (printed by mkWfi.py) -/
import Derived.Test.YtijeieamodjgbaaGreatWtz
import Derived.Test.YtijeieamodjgbaaGreatWta

namespace Go.Proofs.YtijeieamodjgbaaGreat
set_option maxRecDepth 100000
open Go.RowKit Go.Deep
set_option linter.unusedVariables false
set_option linter.unusedSimpArgs false
attribute [local go_sem] run_store_float

def okR1 (m : Mg) : Bool := ((m.e == 0) && m.q.right) && ((m.sg.length : Int) == 1) && restB { q := true, sg := true } m
def okR2 (m : Mg) : Bool := ((decide (0 ≤ m.v) && decide (m.v ≤ 15)) && ofR m.e m.s) && ((m.q.right && ((m.sg.length : Int) == 1)) || (m.q.nil && ((m.sg.length : Int) == 0))) && restB { v := true, s := true, q := true, sg := true } m
def okR3 (m : Mg) : Bool := ((decide (0 ≤ m.v) && decide (m.v ≤ 15)) && ofR m.e m.s) && askB m.q && ((m.sg.length : Int) == 1) && restB { v := true, s := true, q := true, sg := true } m
def okR4 (m : Mg) : Bool := ((decide (0 ≤ m.v) && decide (m.v ≤ 15)) && ofR m.e m.s) && askB m.q && restB { v := true, s := true, q := true } m
def okR5 (m : Mg) : Bool := (m.s == wrap64 (4 * wrap64 (m.e + 1))) && !(m.t.toList.isEmpty) && risingB m.nx && ((m.sg.length : Int) == 2) && restB { s := true, t := true, nx := true, sg := true } m
def okR6 (m : Mg) : Bool := ((m.ch.length : Int) == 1) && changesR m.e m.v none m.ch && restB { v := true, ch := true } m
def okR7 (m : Mg) : Bool := decide ((1 : Int) ≤ m.ch.length) && decide ((m.ch.length : Int) ≤ 10) && changesR m.e m.v none m.ch && restB { v := true, ch := true } m
def okR8 (m : Mg) : Bool := m.q.right && (resErr m.c == 0) && restB { q := true, r := true } m
def okR9 (m : Mg) : Bool := restB {} m
def okR10 (m : Mg) : Bool := decide (1 ≤ m.e) && (m.s == wrap64 (4 * m.e)) && !(m.t.toList.isEmpty) && ((m.lk.length : Int) == m.e) && linksB 0 m.lk && restB { s := true, t := true, sg := true, lk := true } m
def okR (m : Mg) : Bool := if m.k = 1 then okR1 m else if m.k = 2 then okR2 m else if m.k = 3 then okR3 m else if m.k = 4 then okR4 m else if m.k = 5 then okR5 m else if m.k = 6 then okR6 m else if m.k = 7 then okR7 m else if m.k = 8 then okR8 m else if m.k = 9 then okR9 m else okR10 m
def fitR (m : Mg) : Int := if kindB m then (if (!(okR m) || decide (m.e < 0) || decide (60 < m.e) || !(sigsB m.sg)) then 4 else 0) else 19
set_option maxHeartbeats 8000000 in
theorem rfits_any (m : Mg) (a1 : Option Addr) (n1 c1 : Nat) (a2 : Option Addr) (n2 c2 : Nat) (a3 : Option Addr) (n3 c3 : Nat) (a4 : Option Addr) (n4 c4 : Nat) (w : World) (hm : MsgIn w m a1 n1 c1 a2 n2 c2 a3 n3 c3 a4 n4 c4) :
    Calls Tryz.prog 38 #[.agg (mgCs m a1 n1 c1 a2 n2 c2 a3 n3 c3 a4 n4 c4).toArray] w fun r w' => r = .returned (.int .i64 (fitR m)) ∧ Below w.heap.size w w' := by
  have hl1 := hm.nx.len
  have hl2 := hm.sg.len
  have hl3 := hm.ch.len
  have hl4 := hm.lk.len
  subst hl1 hl2 hl3 hl4
  obtain ⟨w1, hw1⟩ : ∃ u, u = w.alloc (.cells (mgCs m a1 m.nx.length c1 a2 m.sg.length c2 a3 m.ch.length c3 a4 m.lk.length c4).toArray 35 (0, 0)) := ⟨_, rfl⟩
  have b1 : Below w.heap.size w w1 := by rw [hw1]; exact below_alloc _ _
  have K1 : w1.heap[w.heap.size]? = some (.cells (mgCs m a1 m.nx.length c1 a2 m.sg.length c2 a3 m.ch.length c3 a4 m.lk.length c4).toArray 35 (0, 0)) := by rw [hw1]; exact blk_alloc _ _
  have B1 := Lib.hid b1
  have HM := Lib.hid hm
  have X0 := Lib.hid (show ∀ u, Below w1.heap.size w1 u → u.cell? ⟨w.heap.size, 0, none⟩ = some (.int .i64 m.k) from fun u hu => mgAt_blk (blk_below K1 hu) 0 _ rfl)
  have X1 := Lib.hid (show ∀ u, Below w1.heap.size w1 u → u.cell? ⟨w.heap.size, 1, none⟩ = some (.int .i64 m.e) from fun u hu => mgAt_blk (blk_below K1 hu) 1 _ rfl)
  have X2 := Lib.hid (show ∀ u, Below w1.heap.size w1 u → u.cell? ⟨w.heap.size, 2, none⟩ = some (.int .i64 m.v) from fun u hu => mgAt_blk (blk_below K1 hu) 2 _ rfl)
  have X3 := Lib.hid (show ∀ u, Below w1.heap.size w1 u → u.cell? ⟨w.heap.size, 3, none⟩ = some (.int .i64 m.s) from fun u hu => mgAt_blk (blk_below K1 hu) 3 _ rfl)
  have X4 := Lib.hid (show ∀ u, Below w1.heap.size w1 u → u.cell? ⟨w.heap.size, 4, none⟩ = some (.int .i64 m.q.c) from fun u hu => mgAt_blk (blk_below K1 hu) 4 _ rfl)
  have X5 := Lib.hid (show ∀ u, Below w1.heap.size w1 u → u.cell? ⟨w.heap.size, 5, none⟩ = some (.int .i64 m.q.s) from fun u hu => mgAt_blk (blk_below K1 hu) 5 _ rfl)
  have X6 := Lib.hid (show ∀ u, Below w1.heap.size w1 u → u.cell? ⟨w.heap.size, 6, none⟩ = some (.int .i64 m.q.kind) from fun u hu => mgAt_blk (blk_below K1 hu) 6 _ rfl)
  have X7 := Lib.hid (show ∀ u, Below w1.heap.size w1 u → u.cell? ⟨w.heap.size, 7, none⟩ = some (.string m.q.key) from fun u hu => mgAt_blk (blk_below K1 hu) 7 _ rfl)
  have X8 := Lib.hid (show ∀ u, Below w1.heap.size w1 u → u.cell? ⟨w.heap.size, 8, none⟩ = some (.float .f64 m.q.b) from fun u hu => mgAt_blk (blk_below K1 hu) 8 _ rfl)
  have X9 := Lib.hid (show ∀ u, Below w1.heap.size w1 u → u.cell? ⟨w.heap.size, 9, none⟩ = some (.int .i64 m.q.id) from fun u hu => mgAt_blk (blk_below K1 hu) 9 _ rfl)
  have X10 := Lib.hid (show ∀ u, Below w1.heap.size w1 u → u.cell? ⟨w.heap.size, 10, none⟩ = some (.int .i64 m.c) from fun u hu => mgAt_blk (blk_below K1 hu) 10 _ rfl)
  have X11 := Lib.hid (show ∀ u, Below w1.heap.size w1 u → u.cell? ⟨w.heap.size, 11, none⟩ = some (.float .f64 m.r) from fun u hu => mgAt_blk (blk_below K1 hu) 11 _ rfl)
  have X12 := Lib.hid (show ∀ u, Below w1.heap.size w1 u → u.cell? ⟨w.heap.size, 12, none⟩ = some (.string m.t) from fun u hu => mgAt_blk (blk_below K1 hu) 12 _ rfl)
  have X13 := Lib.hid (show ∀ u, Below w1.heap.size w1 u → u.cell? ⟨w.heap.size, 13, none⟩ = some (.slice a1 m.nx.length c1) from fun u hu => mgAt_blk (blk_below K1 hu) 13 _ rfl)
  have X14 := Lib.hid (show ∀ u, Below w1.heap.size w1 u → u.cell? ⟨w.heap.size, 14, none⟩ = some (.slice a2 m.sg.length c2) from fun u hu => mgAt_blk (blk_below K1 hu) 14 _ rfl)
  have X15 := Lib.hid (show ∀ u, Below w1.heap.size w1 u → u.cell? ⟨w.heap.size, 15, none⟩ = some (.slice a3 m.ch.length c3) from fun u hu => mgAt_blk (blk_below K1 hu) 15 _ rfl)
  have X16 := Lib.hid (show ∀ u, Below w1.heap.size w1 u → u.cell? ⟨w.heap.size, 16, none⟩ = some (.slice a4 m.lk.length c4) from fun u hu => mgAt_blk (blk_below K1 hu) 16 _ rfl)
  obtain ⟨CS, hCS⟩ : ∃ CS, CS = (mgCs m a1 m.nx.length c1 a2 m.sg.length c2 a3 m.ch.length c3 a4 m.lk.length c4).toArray := ⟨_, rfl⟩
  rw [← hCS] at hw1 K1 ⊢
  have KB := Lib.hid (show ∀ u, Below w1.heap.size w1 u → u.heap[w.heap.size]? = some (.cells CS 35 (0, 0)) from fun u hu => blk_below K1 hu)
  have HI := Lib.hid (show (Tryz.prog.info? 35).map (·.size) = some CS.size by rw [hCS, List.size_toArray]; exact info_mg)
  have CR := Lib.hid (show ∀ u, Calls Tryz.prog 86 #[.agg #[.int .i64 m.q.c, .int .i64 m.q.s, .int .i64 m.q.kind, .string m.q.key, .float .f64 m.q.b, .int .i64 m.q.id]] u fun e w' => e = .returned (.bool m.q.right) ∧ Below u.heap.size u w' from fun u => rright_rq m.q hm.q u)
  have CN := Lib.hid (show ∀ u, Calls Tryz.prog 88 #[.agg #[.int .i64 m.q.c, .int .i64 m.q.s, .int .i64 m.q.kind, .string m.q.key, .float .f64 m.q.b, .int .i64 m.q.id]] u fun e w' => e = .returned (.bool m.q.nil) ∧ Below u.heap.size u w' from fun u => qrnull_any m.q.c m.q.s m.q.kind m.q.key m.q.b hm.q.b m.q.id u)
  have CA := Lib.hid (show ∀ u, Calls Tryz.prog 89 #[.agg #[.int .i64 m.q.c, .int .i64 m.q.s, .int .i64 m.q.kind, .string m.q.key, .float .f64 m.q.b, .int .i64 m.q.id]] u fun e w' => e = .returned (.bool (askB m.q)) ∧ Below u.heap.size u w' from fun u => rasked_any m.q hm.q u)
  have CO := Lib.hid (show ∀ u, Calls Tryz.prog 85 #[.int .i64 m.e, .int .i64 m.s] u fun e w' => e = .returned (.bool (ofR m.e m.s)) ∧ Below u.heap.size u w' from fun u => (rof_any m.e m.s u).mono (fun e w' h => ⟨h.1, h.2 ▸ Below.refl _ _⟩))
  have CM := Lib.hid (show ∀ u, Below w1.heap.size w1 u → Calls Tryz.prog 90 #[.slice a1 m.nx.length c1] u fun e w' => e = .returned (.bool (risingB m.nx)) ∧ Below u.heap.size u w' from fun u hu => (rmembers_any a1 _ c1 m.nx u (ints_of_sl (hm.nx.old (bthen b1 hu)))).mono (fun e w' h => ⟨h.1, by obtain ⟨q, hq⟩ := h.2; rw [hq]; exact below_drewN (Below.refl _ _) q⟩))
  have CG := Lib.hid (show ∀ u, Below w1.heap.size w1 u → Calls Tryz.prog 94 #[.slice a2 m.sg.length c2] u fun e w' => e = .returned (.bool (sigsB m.sg)) ∧ Below u.heap.size u w' from fun u hu => rsigs13_any a2 _ c2 m.sg u (hm.sg.old (bthen b1 hu)))
  have CC := Lib.hid (show ∀ u, Below w1.heap.size w1 u → Calls Tryz.prog 91 #[.int .i64 m.e, .int .i64 m.v, .slice a3 m.ch.length c3] u fun e w' => e = .returned (.bool (changesR m.e m.v none m.ch)) ∧ Below u.heap.size u w' from fun u hu => rchanges13_any m.e m.v a3 _ c3 m.ch u hm.v (hm.ch.old (bthen b1 hu)))
  have CL := Lib.hid (show ∀ u, Below w1.heap.size w1 u → Calls Tryz.prog 93 #[.slice a4 m.lk.length c4] u fun e w' => e = .returned (.bool (linksB 0 m.lk)) ∧ Below u.heap.size u w' from fun u hu => rlinks13_any a4 _ c4 m.lk u (hm.lk.old (bthen b1 hu)))
  have CT := Lib.hid (show ∀ u, Calls Tryz.prog 92 #[.agg #[.int .i64 m.c, .float .f64 m.r]] u fun e w' => e = .returned (.tuple #[.string (resText m.c m.r), .int .i64 (resErr m.c)]) ∧ Below u.heap.size u w' from fun u => rrestext_any m.c m.r u hm.r)
  have CZrg := Lib.hid (show ∀ u, Below w1.heap.size w1 u → Calls Tryz.prog 87 #[.agg CS, .string ⟨#[114, 103]⟩] u fun e w' => e = .returned (.bool (restB { q := true, sg := true } m)) ∧ Below u.heap.size u w' from fun u hu => by have h := rzero_any m a1 m.nx.length c1 a2 m.sg.length c2 a3 m.ch.length c3 a4 m.lk.length c4 ⟨#[114, 103]⟩ (by decide) (by decide) u (hm.old (bthen b1 hu)); rw [← hCS, zg_rg] at h; exact h)
  have CZvsrg := Lib.hid (show ∀ u, Below w1.heap.size w1 u → Calls Tryz.prog 87 #[.agg CS, .string ⟨#[118, 115, 114, 103]⟩] u fun e w' => e = .returned (.bool (restB { v := true, s := true, q := true, sg := true } m)) ∧ Below u.heap.size u w' from fun u hu => by have h := rzero_any m a1 m.nx.length c1 a2 m.sg.length c2 a3 m.ch.length c3 a4 m.lk.length c4 ⟨#[118, 115, 114, 103]⟩ (by decide) (by decide) u (hm.old (bthen b1 hu)); rw [← hCS, zg_vsrg] at h; exact h)
  have CZvsr := Lib.hid (show ∀ u, Below w1.heap.size w1 u → Calls Tryz.prog 87 #[.agg CS, .string ⟨#[118, 115, 114]⟩] u fun e w' => e = .returned (.bool (restB { v := true, s := true, q := true } m)) ∧ Below u.heap.size u w' from fun u hu => by have h := rzero_any m a1 m.nx.length c1 a2 m.sg.length c2 a3 m.ch.length c3 a4 m.lk.length c4 ⟨#[118, 115, 114]⟩ (by decide) (by decide) u (hm.old (bthen b1 hu)); rw [← hCS, zg_vsr] at h; exact h)
  have CZstng := Lib.hid (show ∀ u, Below w1.heap.size w1 u → Calls Tryz.prog 87 #[.agg CS, .string ⟨#[115, 116, 110, 103]⟩] u fun e w' => e = .returned (.bool (restB { s := true, t := true, nx := true, sg := true } m)) ∧ Below u.heap.size u w' from fun u hu => by have h := rzero_any m a1 m.nx.length c1 a2 m.sg.length c2 a3 m.ch.length c3 a4 m.lk.length c4 ⟨#[115, 116, 110, 103]⟩ (by decide) (by decide) u (hm.old (bthen b1 hu)); rw [← hCS, zg_stng] at h; exact h)
  have CZvc := Lib.hid (show ∀ u, Below w1.heap.size w1 u → Calls Tryz.prog 87 #[.agg CS, .string ⟨#[118, 99]⟩] u fun e w' => e = .returned (.bool (restB { v := true, ch := true } m)) ∧ Below u.heap.size u w' from fun u hu => by have h := rzero_any m a1 m.nx.length c1 a2 m.sg.length c2 a3 m.ch.length c3 a4 m.lk.length c4 ⟨#[118, 99]⟩ (by decide) (by decide) u (hm.old (bthen b1 hu)); rw [← hCS, zg_vc] at h; exact h)
  have CZrx := Lib.hid (show ∀ u, Below w1.heap.size w1 u → Calls Tryz.prog 87 #[.agg CS, .string ⟨#[114, 120]⟩] u fun e w' => e = .returned (.bool (restB { q := true, r := true } m)) ∧ Below u.heap.size u w' from fun u hu => by have h := rzero_any m a1 m.nx.length c1 a2 m.sg.length c2 a3 m.ch.length c3 a4 m.lk.length c4 ⟨#[114, 120]⟩ (by decide) (by decide) u (hm.old (bthen b1 hu)); rw [← hCS, zg_rx] at h; exact h)
  have CZe := Lib.hid (show ∀ u, Below w1.heap.size w1 u → Calls Tryz.prog 87 #[.agg CS, .string ⟨#[]⟩] u fun e w' => e = .returned (.bool (restB {} m)) ∧ Below u.heap.size u w' from fun u hu => by have h := rzero_any m a1 m.nx.length c1 a2 m.sg.length c2 a3 m.ch.length c3 a4 m.lk.length c4 ⟨#[]⟩ (by decide) (by decide) u (hm.old (bthen b1 hu)); rw [← hCS, zg_e] at h; exact h)
  have CZstgl := Lib.hid (show ∀ u, Below w1.heap.size w1 u → Calls Tryz.prog 87 #[.agg CS, .string ⟨#[115, 116, 103, 108]⟩] u fun e w' => e = .returned (.bool (restB { s := true, t := true, sg := true, lk := true } m)) ∧ Below u.heap.size u w' from fun u hu => by have h := rzero_any m a1 m.nx.length c1 a2 m.sg.length c2 a3 m.ch.length c3 a4 m.lk.length c4 ⟨#[115, 116, 103, 108]⟩ (by decide) (by decide) u (hm.old (bthen b1 hu)); rw [← hCS, zg_stgl] at h; exact h)
  have hwr1 : IntKind.i64.wrap (m.e + 1) = wrap64 (m.e + 1) := IntWalk.i64_left _
  have hwr2 : IntKind.i64.wrap (4 * wrap64 (m.e + 1)) = wrap64 (4 * wrap64 (m.e + 1)) := IntWalk.i64_left _
  have hwr3 : IntKind.i64.wrap (4 * m.e) = wrap64 (4 * m.e) := IntWalk.i64_left _
  clear hCS hm b1 K1
  go_enter Tryz.func38, Tryz.ntmps38
  refine wp_seq ?_
  refine fr_region (fun a' w' => a'.tmps.size = 268 ∧ a'.defers = [] ∧ Below w1.heap.size w1 w' ∧ a'.eval (.tmp 1) = .pointer (some ⟨w.heap.size, 0, none⟩)) (fun Q' hQ => ?_) ?_
  · refine ops_val rfl (w' := w1) (v := .pointer (some ⟨w.heap.size, 0, none⟩)) (by rw [hw1]; simp only [execOp]; go_simp) ?_
    refine ops_val rfl (w' := w1) (v := .int .i64 0) (by simp only [execOp]; go_simp) ?_
    exact hQ _ _ ⟨rfl, rfl, Below.refl _ _, rfl⟩
  clear hw1
  rintro af wf ⟨hsz, hdf, hb, e1⟩
  have HB := Lib.hid hb
  clear hb
  show Code.wp Tryz.prog _ _ af wf
  refine wp_seq ?_
  refine wp_seq ?_
  refine fr_region (fun a' w' => a'.tmps.size = 268 ∧ a'.defers = [] ∧ Below w1.heap.size w1 w' ∧ a'.eval (.tmp 1) = .pointer (some ⟨w.heap.size, 0, none⟩) ∧ a'.eval (.tmp 15) = .bool (!(kindB m))) (fun Q' hQ => ?_) ?_
  · skip
    refine fr_g hsz (t := 8) (by decide) rfl (by rfl) (v := .pointer (some ⟨w.heap.size, 0, none⟩)) (fun hG => by generalize af.eval = ρ at e1; simp only [execOp]; go_simp) fun ar1_0 fr1_0 => ?_
    have e1_r1_0 := (fr1_0.other 1 (by decide)).trans e1
    have e8_r1_0 : ar1_0.eval (.tmp 8) = .pointer (some ⟨w.heap.size, 0, none⟩) := fr1_0.own
    have zr1_0 := fr1_0.sz
    have dr1_0 := fr1_0.df.trans hdf
    clear fr1_0 e1 hsz hdf
    refine fr_g zr1_0 (t := 9) (by decide) rfl (by rfl) (v := .int .i64 m.k) (fun hG => by have y0 := X0.out wf HB.out; generalize ar1_0.eval = ρ at e8_r1_0; simp only [execOp]; go_simp) fun ar1_1 fr1_1 => ?_
    have e1_r1_1 := (fr1_1.other 1 (by decide)).trans e1_r1_0
    have e9_r1_1 : ar1_1.eval (.tmp 9) = .int .i64 m.k := fr1_1.own
    have zr1_1 := fr1_1.sz
    have dr1_1 := fr1_1.df.trans dr1_0
    clear fr1_1 e1_r1_0 e8_r1_0 zr1_0 dr1_0
    obtain ⟨Br1_2, hBr1_2⟩ : ∃ B, Hid (B = (decide ((m.k : Int) < 1))) := ⟨_, Lib.hid rfl⟩
    refine fr_g zr1_1 (t := 10) (by decide) rfl (by rfl) (v := .bool Br1_2) (fun hG => by have hc0 : ar1_1.eval (.const (.int .i64 1)) = .int .i64 1 := rfl; generalize ar1_1.eval = ρ at e9_r1_1 hc0; rw [hBr1_2.out]; simp only [execOp]; go_simp) fun ar1_2 fr1_2 => ?_
    have e1_r1_2 := (fr1_2.other 1 (by decide)).trans e1_r1_1
    have e10_r1_2 : ar1_2.eval (.tmp 10) = .bool Br1_2 := fr1_2.own
    have zr1_2 := fr1_2.sz
    have dr1_2 := fr1_2.df.trans dr1_1
    clear fr1_2 e1_r1_1 e9_r1_1 zr1_1 dr1_1
    refine fr_g zr1_2 (t := 11) (by decide) rfl (by rfl) (v := .bool Br1_2) (fun hG => by generalize ar1_2.eval = ρ at e10_r1_2; simp only [execOp]; go_simp) fun ar1_3 fr1_3 => ?_
    have e1_r1_3 := (fr1_3.other 1 (by decide)).trans e1_r1_2
    have e11_r1_3 : ar1_3.eval (.tmp 11) = .bool Br1_2 := fr1_3.own
    have zr1_3 := fr1_3.sz
    have dr1_3 := fr1_3.df.trans dr1_2
    clear fr1_3 e1_r1_2 e10_r1_2 zr1_2 dr1_2
    obtain ⟨Gr1_4, hGr1_4⟩ : ∃ G, Hid (G = (true && (Br1_2 == false))) := ⟨_, Lib.hid rfl⟩
    have iGr1_4 := Lib.hid (show Gr1_4 = true → true = true ∧ Br1_2 = false from fun h => by rw [hGr1_4.out] at h; simpa using h)
    refine fr_g zr1_3 (t := 12) (by decide) rfl ((fr_w0 (k := 3) (b := false) (t := 11) rfl rfl e11_r1_3).trans hGr1_4.out.symm) (v := .pointer (some ⟨w.heap.size, 0, none⟩)) (fun hG => by obtain ⟨hp0, hb0⟩ := iGr1_4.out hG; generalize ar1_3.eval = ρ at e1_r1_3; simp only [execOp]; go_simp) fun ar1_4 fr1_4 => ?_
    have e1_r1_4 := (fr1_4.other 1 (by decide)).trans e1_r1_3
    have e11_r1_4 := (fr1_4.other 11 (by decide)).trans e11_r1_3
    have e12_r1_4 : ar1_4.eval (.tmp 12) = vif Gr1_4 (.pointer (some ⟨w.heap.size, 0, none⟩)) := fr1_4.own
    have zr1_4 := fr1_4.sz
    have dr1_4 := fr1_4.df.trans dr1_3
    clear fr1_4 e1_r1_3 e11_r1_3 zr1_3 dr1_3
    refine fr_g zr1_4 (t := 13) (by decide) rfl ((fr_w0 (k := 3) (b := false) (t := 11) rfl rfl e11_r1_4).trans hGr1_4.out.symm) (v := .int .i64 m.k) (fun hG => by obtain ⟨hp0, hb0⟩ := iGr1_4.out hG; have y0 := X0.out wf HB.out; generalize ar1_4.eval = ρ at e12_r1_4; simp only [vif, cond_true, cond_false, hG, hp0, hb0] at e12_r1_4; simp only [execOp]; go_simp) fun ar1_5 fr1_5 => ?_
    have e1_r1_5 := (fr1_5.other 1 (by decide)).trans e1_r1_4
    have e11_r1_5 := (fr1_5.other 11 (by decide)).trans e11_r1_4
    have e13_r1_5 : ar1_5.eval (.tmp 13) = vif Gr1_4 (.int .i64 m.k) := fr1_5.own
    have zr1_5 := fr1_5.sz
    have dr1_5 := fr1_5.df.trans dr1_4
    clear fr1_5 e1_r1_4 e11_r1_4 e12_r1_4 zr1_4 dr1_4
    obtain ⟨Br1_6, hBr1_6⟩ : ∃ B, Hid (B = (decide ((10 : Int) < m.k))) := ⟨_, Lib.hid rfl⟩
    refine fr_g zr1_5 (t := 14) (by decide) rfl ((fr_w0 (k := 3) (b := false) (t := 11) rfl rfl e11_r1_5).trans hGr1_4.out.symm) (v := .bool Br1_6) (fun hG => by obtain ⟨hp0, hb0⟩ := iGr1_4.out hG; have hc0 : ar1_5.eval (.const (.int .i64 10)) = .int .i64 10 := rfl; generalize ar1_5.eval = ρ at e13_r1_5 hc0; simp only [vif, cond_true, cond_false, hG, hp0, hb0] at e13_r1_5; rw [hBr1_6.out]; simp only [execOp]; go_simp) fun ar1_6 fr1_6 => ?_
    have e1_r1_6 := (fr1_6.other 1 (by decide)).trans e1_r1_5
    have e11_r1_6 := (fr1_6.other 11 (by decide)).trans e11_r1_5
    have e14_r1_6 : ar1_6.eval (.tmp 14) = vif Gr1_4 (.bool Br1_6) := fr1_6.own
    have zr1_6 := fr1_6.sz
    have dr1_6 := fr1_6.df.trans dr1_5
    clear fr1_6 e1_r1_5 e11_r1_5 e13_r1_5 zr1_5 dr1_5
    obtain ⟨Br1_7, hBr1_7⟩ : ∃ B, Hid (B = ((Br1_2 || Br1_6))) := ⟨_, Lib.hid rfl⟩
    refine fr_g zr1_6 (t := 15) (by decide) rfl (by rfl) (v := .bool Br1_7) (fun hG => by have hc0 : ar1_6.eval (.const (.bool true)) = .bool true := rfl; generalize ar1_6.eval = ρ at e11_r1_6 e14_r1_6 hc0; rw [hBr1_7.out]; cases Br1_2 <;> simp only [execOp, vif, cond_true, cond_false, Bool.true_and, Bool.false_and, Bool.true_or, Bool.false_or, beq_self_eq_true, hGr1_4.out] at e14_r1_6 ⊢ <;> go_simp) fun ar1_7 fr1_7 => ?_
    have e1_r1_7 := (fr1_7.other 1 (by decide)).trans e1_r1_6
    have e15_r1_7 : ar1_7.eval (.tmp 15) = .bool Br1_7 := fr1_7.own
    have zr1_7 := fr1_7.sz
    have dr1_7 := fr1_7.df.trans dr1_6
    clear fr1_7 e1_r1_6 e11_r1_6 e14_r1_6 zr1_6 dr1_6
    have hv : Br1_7 = !(kindB m) := by
      simp only [hBr1_7.out, hBr1_6.out, hBr1_2.out]
      unfold kindB
      by_cases h1 : 1 ≤ m.k <;> by_cases h2 : m.k ≤ 10 <;> simp [h1, h2] <;> omega
    exact hQ _ _ ⟨zr1_7, dr1_7, HB.out, e1_r1_7, by rw [e15_r1_7, hv]⟩
  rintro af wf ⟨hsz, hdf, hb, e1, e15⟩
  have HB := Lib.hid hb
  clear hb
  show Code.wp Tryz.prog _ _ af wf
  cases hk : kindB m with
  | false =>
    rw [hk] at e15
    refine wp_cond_true e15 ?_
    refine wp_seq ?_
    refine fr_region (fun a' w' => a'.tmps.size = 268 ∧ a'.defers = [] ∧ Below w1.heap.size w1 w' ∧ a'.eval (.tmp 2) = .int .i64 19) (fun Q' hQ => ?_) ?_
    · refine fr_g hsz (t := 2) (by decide) rfl (by rfl) (v := .int .i64 19) (fun hG => by have hc0 : af.eval (.const (.int .i64 19)) = .int .i64 19 := rfl; generalize af.eval = ρ at hc0; simp only [execOp]; go_simp) fun a2 f2 => ?_
      exact hQ _ _ ⟨f2.sz, f2.df.trans hdf, HB.out, f2.own⟩
    rintro a2 w2 ⟨hsz2, hdf2, hb2, e2⟩
    show Code.wp Tryz.prog _ _ a2 w2
    refine wp_ret ?_
    refine then_ret ?_
    refine bodyPost_ret (v := .int .i64 19) ?_ hdf2 (show _ ∧ _ from ⟨by rw [show fitR m = 19 by unfold fitR; rw [hk]; rfl], bthen B1.out hb2⟩)
    have e2' : a2.tmps[2]?.getD undef = .int .i64 19 := by rw [← Array.getD_eq_getD_getElem?]; exact e2
    simp [results, Tryz.results38, e2']
  | true =>
    rw [hk] at e15
    refine wp_cond_false e15 ?_
    refine wp_skip ?_
    show Code.wp Tryz.prog _ _ af wf
    clear e15
    refine wp_seq ?_
    refine fr_region (fun a' w' => a'.tmps.size = 268 ∧ a'.defers = [] ∧ Below w1.heap.size w1 w' ∧ a'.eval (.tmp 1) = .pointer (some ⟨w.heap.size, 0, none⟩) ∧ a'.eval (.tmp 3) = .bool (decide (0 ≤ m.v) && decide (m.v ≤ 15))) (fun Q' hQ => ?_) ?_
    · skip
      refine fr_g hsz (t := 16) (by decide) rfl (by rfl) (v := .pointer (some ⟨w.heap.size, 2, none⟩)) (fun hG => by generalize af.eval = ρ at e1; simp only [execOp]; go_simp) fun ar3_0 fr3_0 => ?_
      have e1_r3_0 := (fr3_0.other 1 (by decide)).trans e1
      have e16_r3_0 : ar3_0.eval (.tmp 16) = .pointer (some ⟨w.heap.size, 2, none⟩) := fr3_0.own
      have zr3_0 := fr3_0.sz
      have dr3_0 := fr3_0.df.trans hdf
      clear fr3_0 e1 hsz hdf
      refine fr_g zr3_0 (t := 17) (by decide) rfl (by rfl) (v := .int .i64 m.v) (fun hG => by have y2 := X2.out wf HB.out; generalize ar3_0.eval = ρ at e16_r3_0; simp only [execOp]; go_simp) fun ar3_1 fr3_1 => ?_
      have e1_r3_1 := (fr3_1.other 1 (by decide)).trans e1_r3_0
      have e17_r3_1 : ar3_1.eval (.tmp 17) = .int .i64 m.v := fr3_1.own
      have zr3_1 := fr3_1.sz
      have dr3_1 := fr3_1.df.trans dr3_0
      clear fr3_1 e1_r3_0 e16_r3_0 zr3_0 dr3_0
      obtain ⟨Br3_2, hBr3_2⟩ : ∃ B, Hid (B = (decide ((0 : Int) ≤ m.v))) := ⟨_, Lib.hid rfl⟩
      refine fr_g zr3_1 (t := 18) (by decide) rfl (by rfl) (v := .bool Br3_2) (fun hG => by have hc0 : ar3_1.eval (.const (.int .i64 0)) = .int .i64 0 := rfl; generalize ar3_1.eval = ρ at e17_r3_1 hc0; rw [hBr3_2.out]; simp only [execOp]; go_simp) fun ar3_2 fr3_2 => ?_
      have e1_r3_2 := (fr3_2.other 1 (by decide)).trans e1_r3_1
      have e18_r3_2 : ar3_2.eval (.tmp 18) = .bool Br3_2 := fr3_2.own
      have zr3_2 := fr3_2.sz
      have dr3_2 := fr3_2.df.trans dr3_1
      clear fr3_2 e1_r3_1 e17_r3_1 zr3_1 dr3_1
      refine fr_g zr3_2 (t := 19) (by decide) rfl (by rfl) (v := .bool Br3_2) (fun hG => by generalize ar3_2.eval = ρ at e18_r3_2; simp only [execOp]; go_simp) fun ar3_3 fr3_3 => ?_
      have e1_r3_3 := (fr3_3.other 1 (by decide)).trans e1_r3_2
      have e19_r3_3 : ar3_3.eval (.tmp 19) = .bool Br3_2 := fr3_3.own
      have zr3_3 := fr3_3.sz
      have dr3_3 := fr3_3.df.trans dr3_2
      clear fr3_3 e1_r3_2 e18_r3_2 zr3_2 dr3_2
      obtain ⟨Gr3_4, hGr3_4⟩ : ∃ G, Hid (G = (true && (Br3_2 == true))) := ⟨_, Lib.hid rfl⟩
      have iGr3_4 := Lib.hid (show Gr3_4 = true → true = true ∧ Br3_2 = true from fun h => by rw [hGr3_4.out] at h; simpa using h)
      refine fr_g zr3_3 (t := 20) (by decide) rfl ((fr_w0 (k := 3) (b := true) (t := 19) rfl rfl e19_r3_3).trans hGr3_4.out.symm) (v := .pointer (some ⟨w.heap.size, 2, none⟩)) (fun hG => by obtain ⟨hp0, hb0⟩ := iGr3_4.out hG; generalize ar3_3.eval = ρ at e1_r3_3; simp only [execOp]; go_simp) fun ar3_4 fr3_4 => ?_
      have e1_r3_4 := (fr3_4.other 1 (by decide)).trans e1_r3_3
      have e19_r3_4 := (fr3_4.other 19 (by decide)).trans e19_r3_3
      have e20_r3_4 : ar3_4.eval (.tmp 20) = vif Gr3_4 (.pointer (some ⟨w.heap.size, 2, none⟩)) := fr3_4.own
      have zr3_4 := fr3_4.sz
      have dr3_4 := fr3_4.df.trans dr3_3
      clear fr3_4 e1_r3_3 e19_r3_3 zr3_3 dr3_3
      refine fr_g zr3_4 (t := 21) (by decide) rfl ((fr_w0 (k := 3) (b := true) (t := 19) rfl rfl e19_r3_4).trans hGr3_4.out.symm) (v := .int .i64 m.v) (fun hG => by obtain ⟨hp0, hb0⟩ := iGr3_4.out hG; have y2 := X2.out wf HB.out; generalize ar3_4.eval = ρ at e20_r3_4; simp only [vif, cond_true, cond_false, hG, hp0, hb0] at e20_r3_4; simp only [execOp]; go_simp) fun ar3_5 fr3_5 => ?_
      have e1_r3_5 := (fr3_5.other 1 (by decide)).trans e1_r3_4
      have e19_r3_5 := (fr3_5.other 19 (by decide)).trans e19_r3_4
      have e21_r3_5 : ar3_5.eval (.tmp 21) = vif Gr3_4 (.int .i64 m.v) := fr3_5.own
      have zr3_5 := fr3_5.sz
      have dr3_5 := fr3_5.df.trans dr3_4
      clear fr3_5 e1_r3_4 e19_r3_4 e20_r3_4 zr3_4 dr3_4
      obtain ⟨Br3_6, hBr3_6⟩ : ∃ B, Hid (B = (decide ((m.v : Int) ≤ 15))) := ⟨_, Lib.hid rfl⟩
      refine fr_g zr3_5 (t := 22) (by decide) rfl ((fr_w0 (k := 3) (b := true) (t := 19) rfl rfl e19_r3_5).trans hGr3_4.out.symm) (v := .bool Br3_6) (fun hG => by obtain ⟨hp0, hb0⟩ := iGr3_4.out hG; have hc0 : ar3_5.eval (.const (.int .i64 15)) = .int .i64 15 := rfl; generalize ar3_5.eval = ρ at e21_r3_5 hc0; simp only [vif, cond_true, cond_false, hG, hp0, hb0] at e21_r3_5; rw [hBr3_6.out]; simp only [execOp]; go_simp) fun ar3_6 fr3_6 => ?_
      have e1_r3_6 := (fr3_6.other 1 (by decide)).trans e1_r3_5
      have e19_r3_6 := (fr3_6.other 19 (by decide)).trans e19_r3_5
      have e22_r3_6 : ar3_6.eval (.tmp 22) = vif Gr3_4 (.bool Br3_6) := fr3_6.own
      have zr3_6 := fr3_6.sz
      have dr3_6 := fr3_6.df.trans dr3_5
      clear fr3_6 e1_r3_5 e19_r3_5 e21_r3_5 zr3_5 dr3_5
      obtain ⟨Br3_7, hBr3_7⟩ : ∃ B, Hid (B = ((Br3_2 && Br3_6))) := ⟨_, Lib.hid rfl⟩
      refine fr_g zr3_6 (t := 23) (by decide) rfl (by rfl) (v := .bool Br3_7) (fun hG => by have hc0 : ar3_6.eval (.const (.bool false)) = .bool false := rfl; generalize ar3_6.eval = ρ at e19_r3_6 e22_r3_6 hc0; rw [hBr3_7.out]; cases Br3_2 <;> simp only [execOp, vif, cond_true, cond_false, Bool.true_and, Bool.false_and, Bool.true_or, Bool.false_or, beq_self_eq_true, hGr3_4.out] at e22_r3_6 ⊢ <;> go_simp) fun ar3_7 fr3_7 => ?_
      have e1_r3_7 := (fr3_7.other 1 (by decide)).trans e1_r3_6
      have e23_r3_7 : ar3_7.eval (.tmp 23) = .bool Br3_7 := fr3_7.own
      have zr3_7 := fr3_7.sz
      have dr3_7 := fr3_7.df.trans dr3_6
      clear fr3_7 e1_r3_6 e19_r3_6 e22_r3_6 zr3_6 dr3_6
      refine fr_g zr3_7 (t := 3) (by decide) rfl (by rfl) (v := .bool Br3_7) (fun hG => by generalize ar3_7.eval = ρ at e23_r3_7; simp only [execOp]; go_simp) fun ar3_8 fr3_8 => ?_
      have e1_r3_8 := (fr3_8.other 1 (by decide)).trans e1_r3_7
      have e3_r3_8 : ar3_8.eval (.tmp 3) = .bool Br3_7 := fr3_8.own
      have zr3_8 := fr3_8.sz
      have dr3_8 := fr3_8.df.trans dr3_7
      clear fr3_8 e1_r3_7 e23_r3_7 zr3_7 dr3_7
      exact hQ _ _ ⟨zr3_8, dr3_8, HB.out, e1_r3_8, by rw [e3_r3_8]; simp only [hBr3_7.out, hBr3_6.out, hBr3_2.out]⟩
    rintro af wf ⟨hsz, hdf, hb, e1, e3⟩
    have HB := Lib.hid hb
    clear hb
    show Code.wp Tryz.prog _ _ af wf
    refine wp_seq ?_
    refine fr_region (fun a' w' => a'.tmps.size = 268 ∧ a'.defers = [] ∧ Below w1.heap.size w1 w' ∧ a'.eval (.tmp 1) = .pointer (some ⟨w.heap.size, 0, none⟩) ∧ a'.eval (.tmp 3) = .bool (decide (0 ≤ m.v) && decide (m.v ≤ 15)) ∧ a'.eval (.tmp 4) = .bool (ofR m.e m.s)) (fun Q' hQ => ?_) ?_
    · skip
      refine fr_g hsz (t := 24) (by decide) rfl (by rfl) (v := .pointer (some ⟨w.heap.size, 1, none⟩)) (fun hG => by generalize af.eval = ρ at e1; simp only [execOp]; go_simp) fun ar4_0 fr4_0 => ?_
      have e1_r4_0 := (fr4_0.other 1 (by decide)).trans e1
      have e3_r4_0 := (fr4_0.other 3 (by decide)).trans e3
      have e24_r4_0 : ar4_0.eval (.tmp 24) = .pointer (some ⟨w.heap.size, 1, none⟩) := fr4_0.own
      have zr4_0 := fr4_0.sz
      have dr4_0 := fr4_0.df.trans hdf
      clear fr4_0 e1 e3 hsz hdf
      refine fr_g zr4_0 (t := 25) (by decide) rfl (by rfl) (v := .int .i64 m.e) (fun hG => by have y1 := X1.out wf HB.out; generalize ar4_0.eval = ρ at e24_r4_0; simp only [execOp]; go_simp) fun ar4_1 fr4_1 => ?_
      have e1_r4_1 := (fr4_1.other 1 (by decide)).trans e1_r4_0
      have e3_r4_1 := (fr4_1.other 3 (by decide)).trans e3_r4_0
      have e25_r4_1 : ar4_1.eval (.tmp 25) = .int .i64 m.e := fr4_1.own
      have zr4_1 := fr4_1.sz
      have dr4_1 := fr4_1.df.trans dr4_0
      clear fr4_1 e1_r4_0 e3_r4_0 e24_r4_0 zr4_0 dr4_0
      refine fr_g zr4_1 (t := 26) (by decide) rfl (by rfl) (v := .pointer (some ⟨w.heap.size, 3, none⟩)) (fun hG => by generalize ar4_1.eval = ρ at e1_r4_1; simp only [execOp]; go_simp) fun ar4_2 fr4_2 => ?_
      have e1_r4_2 := (fr4_2.other 1 (by decide)).trans e1_r4_1
      have e3_r4_2 := (fr4_2.other 3 (by decide)).trans e3_r4_1
      have e25_r4_2 := (fr4_2.other 25 (by decide)).trans e25_r4_1
      have e26_r4_2 : ar4_2.eval (.tmp 26) = .pointer (some ⟨w.heap.size, 3, none⟩) := fr4_2.own
      have zr4_2 := fr4_2.sz
      have dr4_2 := fr4_2.df.trans dr4_1
      clear fr4_2 e1_r4_1 e3_r4_1 e25_r4_1 zr4_1 dr4_1
      refine fr_g zr4_2 (t := 27) (by decide) rfl (by rfl) (v := .int .i64 m.s) (fun hG => by have y3 := X3.out wf HB.out; generalize ar4_2.eval = ρ at e26_r4_2; simp only [execOp]; go_simp) fun ar4_3 fr4_3 => ?_
      have e1_r4_3 := (fr4_3.other 1 (by decide)).trans e1_r4_2
      have e3_r4_3 := (fr4_3.other 3 (by decide)).trans e3_r4_2
      have e25_r4_3 := (fr4_3.other 25 (by decide)).trans e25_r4_2
      have e27_r4_3 : ar4_3.eval (.tmp 27) = .int .i64 m.s := fr4_3.own
      have zr4_3 := fr4_3.sz
      have dr4_3 := fr4_3.df.trans dr4_2
      clear fr4_3 e1_r4_2 e3_r4_2 e25_r4_2 e26_r4_2 zr4_2 dr4_2
      refine fr_gc zr4_3 (t := 28) (by decide) rfl (by rfl) 85 #[.int .i64 m.e, .int .i64 m.s] (v := .bool (ofR m.e m.s)) (fun hG => by have hf : ar4_3.eval (.func 85) = .func (.func 85) #[] #[] := rfl; generalize ar4_3.eval = ρ at hf e25_r4_3 e27_r4_3; simp only [execOp]; go_simp) (fun hG => CO.out wf) fun ar4_4 ur4_4 blr4_4 fr4_4 => ?_
      have HBr4_4 := Lib.hid (bthen HB.out blr4_4)
      clear blr4_4
      have e1_r4_4 := (fr4_4.other 1 (by decide)).trans e1_r4_3
      have e3_r4_4 := (fr4_4.other 3 (by decide)).trans e3_r4_3
      have e28_r4_4 : ar4_4.eval (.tmp 28) = .bool (ofR m.e m.s) := fr4_4.own
      have zr4_4 := fr4_4.sz
      have dr4_4 := fr4_4.df.trans dr4_3
      clear fr4_4 e1_r4_3 e3_r4_3 e25_r4_3 e27_r4_3 zr4_3 dr4_3
      refine fr_g zr4_4 (t := 4) (by decide) rfl (by rfl) (v := .bool (ofR m.e m.s)) (fun hG => by generalize ar4_4.eval = ρ at e28_r4_4; simp only [execOp]; go_simp) fun ar4_5 fr4_5 => ?_
      have e1_r4_5 := (fr4_5.other 1 (by decide)).trans e1_r4_4
      have e3_r4_5 := (fr4_5.other 3 (by decide)).trans e3_r4_4
      have e4_r4_5 : ar4_5.eval (.tmp 4) = .bool (ofR m.e m.s) := fr4_5.own
      have zr4_5 := fr4_5.sz
      have dr4_5 := fr4_5.df.trans dr4_4
      clear fr4_5 e1_r4_4 e3_r4_4 e28_r4_4 zr4_4 dr4_4
      exact hQ _ _ ⟨zr4_5, dr4_5, HBr4_4.out, e1_r4_5, e3_r4_5, e4_r4_5⟩
    rintro af wf ⟨hsz, hdf, hb, e1, e3, e4⟩
    have HB := Lib.hid hb
    clear hb
    show Code.wp Tryz.prog _ _ af wf
    refine wp_seq ?_
    refine fr_region (fun a' w' => a'.tmps.size = 268 ∧ a'.defers = [] ∧ Below w1.heap.size w1 w' ∧ a'.eval (.tmp 1) = .pointer (some ⟨w.heap.size, 0, none⟩) ∧ a'.eval (.tmp 3) = .bool (decide (0 ≤ m.v) && decide (m.v ≤ 15)) ∧ a'.eval (.tmp 4) = .bool (ofR m.e m.s)) (fun Q' hQ => ?_) ?_
    · skip
      refine fr_g hsz (t := 5) (by decide) rfl (by rfl) (v := .bool false) (fun hG => by have hc0 : af.eval (.const (.bool false)) = .bool false := rfl; generalize af.eval = ρ at hc0; simp only [execOp]; go_simp) fun ar5_0 fr5_0 => ?_
      have e1_r5_0 := (fr5_0.other 1 (by decide)).trans e1
      have e3_r5_0 := (fr5_0.other 3 (by decide)).trans e3
      have e4_r5_0 := (fr5_0.other 4 (by decide)).trans e4
      have zr5_0 := fr5_0.sz
      have dr5_0 := fr5_0.df.trans hdf
      clear fr5_0 e1 e3 e4 hsz hdf
      exact hQ _ _ ⟨zr5_0, dr5_0, HB.out, e1_r5_0, e3_r5_0, e4_r5_0⟩
    rintro af wf ⟨hsz, hdf, hb, e1, e3, e4⟩
    have HB := Lib.hid hb
    clear hb
    show Code.wp Tryz.prog _ _ af wf
    refine wp_seq ?_
    refine wp_seq ?_
    refine fr_region (fun a' w' => a'.tmps.size = 268 ∧ a'.defers = [] ∧ Below w1.heap.size w1 w' ∧ a'.eval (.tmp 1) = .pointer (some ⟨w.heap.size, 0, none⟩) ∧ a'.eval (.tmp 3) = .bool (decide (0 ≤ m.v) && decide (m.v ≤ 15)) ∧ a'.eval (.tmp 4) = .bool (ofR m.e m.s) ∧ a'.eval (.tmp 30) = .int .i64 m.k) (fun Q' hQ => ?_) ?_
    · skip
      refine fr_g hsz (t := 29) (by decide) rfl (by rfl) (v := .pointer (some ⟨w.heap.size, 0, none⟩)) (fun hG => by generalize af.eval = ρ at e1; simp only [execOp]; go_simp) fun ar6_0 fr6_0 => ?_
      have e1_r6_0 := (fr6_0.other 1 (by decide)).trans e1
      have e3_r6_0 := (fr6_0.other 3 (by decide)).trans e3
      have e4_r6_0 := (fr6_0.other 4 (by decide)).trans e4
      have e29_r6_0 : ar6_0.eval (.tmp 29) = .pointer (some ⟨w.heap.size, 0, none⟩) := fr6_0.own
      have zr6_0 := fr6_0.sz
      have dr6_0 := fr6_0.df.trans hdf
      clear fr6_0 e1 e3 e4 hsz hdf
      refine fr_g zr6_0 (t := 30) (by decide) rfl (by rfl) (v := .int .i64 m.k) (fun hG => by have y0 := X0.out wf HB.out; generalize ar6_0.eval = ρ at e29_r6_0; simp only [execOp]; go_simp) fun ar6_1 fr6_1 => ?_
      have e1_r6_1 := (fr6_1.other 1 (by decide)).trans e1_r6_0
      have e3_r6_1 := (fr6_1.other 3 (by decide)).trans e3_r6_0
      have e4_r6_1 := (fr6_1.other 4 (by decide)).trans e4_r6_0
      have e30_r6_1 : ar6_1.eval (.tmp 30) = .int .i64 m.k := fr6_1.own
      have zr6_1 := fr6_1.sz
      have dr6_1 := fr6_1.df.trans dr6_0
      clear fr6_1 e1_r6_0 e3_r6_0 e4_r6_0 e29_r6_0 zr6_0 dr6_0
      exact hQ _ _ ⟨zr6_1, dr6_1, HB.out, e1_r6_1, e3_r6_1, e4_r6_1, e30_r6_1⟩
    rintro af wf ⟨hsz, hdf, hb, e1, e3, e4, e30⟩
    have HB := Lib.hid hb
    clear hb
    show Code.wp Tryz.prog _ _ af wf
    refine fr_cut (fun a' w' => a'.tmps.size = 268 ∧ a'.defers = [] ∧ Below w1.heap.size w1 w' ∧ a'.eval (.tmp 1) = .pointer (some ⟨w.heap.size, 0, none⟩) ∧ a'.eval (.tmp 5) = .bool (okR m)) (fun Q0 hQ0 => ?_) ?_
    · refine wp_block ?_
      refine wp_seq ?_
      refine fr_region (fun a' w' => a'.tmps.size = 268 ∧ a'.defers = [] ∧ Below w1.heap.size w1 w' ∧ a'.eval (.tmp 1) = .pointer (some ⟨w.heap.size, 0, none⟩) ∧ a'.eval (.tmp 3) = .bool (decide (0 ≤ m.v) && decide (m.v ≤ 15)) ∧ a'.eval (.tmp 4) = .bool (ofR m.e m.s) ∧ a'.eval (.tmp 30) = .int .i64 m.k ∧ a'.eval (.tmp 31) = .bool (m.k == 1)) (fun Q' hQ => ?_) ?_
      · skip
        refine fr_g hsz (t := 32) (by decide) rfl (by rfl) (v := .bool (m.k == 1)) (fun hG => by have hc0 : af.eval (.const (.int .i64 1)) = .int .i64 1 := rfl; generalize af.eval = ρ at e30 hc0; simp only [execOp]; go_simp) fun at1_0 ft1_0 => ?_
        have e1_t1_0 := (ft1_0.other 1 (by decide)).trans e1
        have e3_t1_0 := (ft1_0.other 3 (by decide)).trans e3
        have e4_t1_0 := (ft1_0.other 4 (by decide)).trans e4
        have e30_t1_0 := (ft1_0.other 30 (by decide)).trans e30
        have e32_t1_0 : at1_0.eval (.tmp 32) = .bool (m.k == 1) := ft1_0.own
        have zt1_0 := ft1_0.sz
        have dt1_0 := ft1_0.df.trans hdf
        clear ft1_0 e1 e3 e4 e30 hsz hdf
        refine fr_g zt1_0 (t := 31) (by decide) rfl (by rfl) (v := .bool (m.k == 1)) (fun hG => by generalize at1_0.eval = ρ at e32_t1_0; simp only [execOp]; go_simp) fun at1_1 ft1_1 => ?_
        have e1_t1_1 := (ft1_1.other 1 (by decide)).trans e1_t1_0
        have e3_t1_1 := (ft1_1.other 3 (by decide)).trans e3_t1_0
        have e4_t1_1 := (ft1_1.other 4 (by decide)).trans e4_t1_0
        have e30_t1_1 := (ft1_1.other 30 (by decide)).trans e30_t1_0
        have e31_t1_1 : at1_1.eval (.tmp 31) = .bool (m.k == 1) := ft1_1.own
        have zt1_1 := ft1_1.sz
        have dt1_1 := ft1_1.df.trans dt1_0
        clear ft1_1 e1_t1_0 e3_t1_0 e4_t1_0 e30_t1_0 e32_t1_0 zt1_0 dt1_0
        exact hQ _ _ ⟨zt1_1, dt1_1, HB.out, e1_t1_1, e3_t1_1, e4_t1_1, e30_t1_1, e31_t1_1⟩
      clear e3 e4 e30 hsz hdf e1 HB
      rintro af wf ⟨hsz, hdf, hb, e1, e3, e4, e30, et⟩
      have HB := Lib.hid hb
      clear hb
      show Code.wp Tryz.prog _ _ af wf
      refine wp_cond_split et (fun ht => ?_) (fun hf1 => ?_)
      · have h : m.k = 1 := by simpa using ht
        have hok : okR m = okR1 m := by unfold okR; rw [if_pos h]
        clear h hk et ht
        clear e30 e3 e4
        refine fr_region (fun a' w' => a'.tmps.size = 268 ∧ a'.defers = [] ∧ Below w1.heap.size w1 w' ∧ a'.eval (.tmp 1) = .pointer (some ⟨w.heap.size, 0, none⟩) ∧ a'.eval (.tmp 5) = .bool (okR m)) (fun Q' hQ => ?_) ?_
        · skip
          refine fr_g hsz (t := 33) (by decide) rfl (by rfl) (v := .pointer (some ⟨w.heap.size, 1, none⟩)) (fun hG => by generalize af.eval = ρ at e1; simp only [execOp]; go_simp) fun ak1_0 fk1_0 => ?_
          have e1_k1_0 := (fk1_0.other 1 (by decide)).trans e1
          have e33_k1_0 : ak1_0.eval (.tmp 33) = .pointer (some ⟨w.heap.size, 1, none⟩) := fk1_0.own
          have zk1_0 := fk1_0.sz
          have dk1_0 := fk1_0.df.trans hdf
          clear fk1_0 e1 hsz hdf
          refine fr_g zk1_0 (t := 34) (by decide) rfl (by rfl) (v := .int .i64 m.e) (fun hG => by have y1 := X1.out wf HB.out; generalize ak1_0.eval = ρ at e33_k1_0; simp only [execOp]; go_simp) fun ak1_1 fk1_1 => ?_
          have e1_k1_1 := (fk1_1.other 1 (by decide)).trans e1_k1_0
          have e34_k1_1 : ak1_1.eval (.tmp 34) = .int .i64 m.e := fk1_1.own
          have zk1_1 := fk1_1.sz
          have dk1_1 := fk1_1.df.trans dk1_0
          clear fk1_1 e1_k1_0 e33_k1_0 zk1_0 dk1_0
          obtain ⟨Bk1_2, hBk1_2⟩ : ∃ B, Hid (B = ((m.e : Int) == 0)) := ⟨_, Lib.hid rfl⟩
          refine fr_g zk1_1 (t := 35) (by decide) rfl (by rfl) (v := .bool Bk1_2) (fun hG => by have hc0 : ak1_1.eval (.const (.int .i64 0)) = .int .i64 0 := rfl; generalize ak1_1.eval = ρ at e34_k1_1 hc0; rw [hBk1_2.out]; simp only [execOp]; go_simp) fun ak1_2 fk1_2 => ?_
          have e1_k1_2 := (fk1_2.other 1 (by decide)).trans e1_k1_1
          have e35_k1_2 : ak1_2.eval (.tmp 35) = .bool Bk1_2 := fk1_2.own
          have zk1_2 := fk1_2.sz
          have dk1_2 := fk1_2.df.trans dk1_1
          clear fk1_2 e1_k1_1 e34_k1_1 zk1_1 dk1_1
          refine fr_g zk1_2 (t := 36) (by decide) rfl (by rfl) (v := .bool Bk1_2) (fun hG => by generalize ak1_2.eval = ρ at e35_k1_2; simp only [execOp]; go_simp) fun ak1_3 fk1_3 => ?_
          have e1_k1_3 := (fk1_3.other 1 (by decide)).trans e1_k1_2
          have e36_k1_3 : ak1_3.eval (.tmp 36) = .bool Bk1_2 := fk1_3.own
          have zk1_3 := fk1_3.sz
          have dk1_3 := fk1_3.df.trans dk1_2
          clear fk1_3 e1_k1_2 e35_k1_2 zk1_2 dk1_2
          obtain ⟨Gk1_4, hGk1_4⟩ : ∃ G, Hid (G = (true && (Bk1_2 == true))) := ⟨_, Lib.hid rfl⟩
          have iGk1_4 := Lib.hid (show Gk1_4 = true → true = true ∧ Bk1_2 = true from fun h => by rw [hGk1_4.out] at h; simpa using h)
          refine fr_g zk1_3 (t := 37) (by decide) rfl ((fr_w0 (k := 3) (b := true) (t := 36) rfl rfl e36_k1_3).trans hGk1_4.out.symm) (v := .pointer (some ⟨w.heap.size, 4, none⟩)) (fun hG => by obtain ⟨hp0, hb0⟩ := iGk1_4.out hG; generalize ak1_3.eval = ρ at e1_k1_3; simp only [execOp]; go_simp) fun ak1_4 fk1_4 => ?_
          have e1_k1_4 := (fk1_4.other 1 (by decide)).trans e1_k1_3
          have e36_k1_4 := (fk1_4.other 36 (by decide)).trans e36_k1_3
          have e37_k1_4 : ak1_4.eval (.tmp 37) = vif Gk1_4 (.pointer (some ⟨w.heap.size, 4, none⟩)) := fk1_4.own
          have zk1_4 := fk1_4.sz
          have dk1_4 := fk1_4.df.trans dk1_3
          clear fk1_4 e1_k1_3 e36_k1_3 zk1_3 dk1_3
          refine fr_g zk1_4 (t := 38) (by decide) rfl ((fr_w0 (k := 3) (b := true) (t := 36) rfl rfl e36_k1_4).trans hGk1_4.out.symm) (v := .agg #[.int .i64 m.q.c, .int .i64 m.q.s, .int .i64 m.q.kind, .string m.q.key, .float .f64 m.q.b, .int .i64 m.q.id]) (fun hG => by obtain ⟨hp0, hb0⟩ := iGk1_4.out hG; have y4 := X4.out wf HB.out; have y5 := X5.out wf HB.out; have y6 := X6.out wf HB.out; have y7 := X7.out wf HB.out; have y8 := X8.out wf HB.out; have y9 := X9.out wf HB.out; generalize ak1_4.eval = ρ at e37_k1_4; simp only [vif, cond_true, cond_false, hG, hp0, hb0] at e37_k1_4; simp only [execOp]; go_simp) fun ak1_5 fk1_5 => ?_
          have e1_k1_5 := (fk1_5.other 1 (by decide)).trans e1_k1_4
          have e36_k1_5 := (fk1_5.other 36 (by decide)).trans e36_k1_4
          have e38_k1_5 : ak1_5.eval (.tmp 38) = vif Gk1_4 (.agg #[.int .i64 m.q.c, .int .i64 m.q.s, .int .i64 m.q.kind, .string m.q.key, .float .f64 m.q.b, .int .i64 m.q.id]) := fk1_5.own
          have zk1_5 := fk1_5.sz
          have dk1_5 := fk1_5.df.trans dk1_4
          clear fk1_5 e1_k1_4 e36_k1_4 e37_k1_4 zk1_4 dk1_4
          refine fr_gc zk1_5 (t := 39) (by decide) rfl ((fr_w0 (k := 3) (b := true) (t := 36) rfl rfl e36_k1_5).trans hGk1_4.out.symm) 86 #[.agg #[.int .i64 m.q.c, .int .i64 m.q.s, .int .i64 m.q.kind, .string m.q.key, .float .f64 m.q.b, .int .i64 m.q.id]] (v := .bool m.q.right) (fun hG => by obtain ⟨hp0, hb0⟩ := iGk1_4.out hG; have hf : ak1_5.eval (.func 86) = .func (.func 86) #[] #[] := rfl; generalize ak1_5.eval = ρ at hf e38_k1_5; simp only [vif, cond_true, cond_false, hG, hp0, hb0] at e38_k1_5; simp only [execOp]; go_simp) (fun hG => CR.out wf) fun ak1_6 uk1_6 blk1_6 fk1_6 => ?_
          have HBk1_6 := Lib.hid (bthen HB.out blk1_6)
          clear blk1_6
          have e1_k1_6 := (fk1_6.other 1 (by decide)).trans e1_k1_5
          have e36_k1_6 := (fk1_6.other 36 (by decide)).trans e36_k1_5
          have e39_k1_6 : ak1_6.eval (.tmp 39) = vif Gk1_4 (.bool m.q.right) := fk1_6.own
          have zk1_6 := fk1_6.sz
          have dk1_6 := fk1_6.df.trans dk1_5
          clear fk1_6 e1_k1_5 e36_k1_5 e38_k1_5 zk1_5 dk1_5
          obtain ⟨Bk1_7, hBk1_7⟩ : ∃ B, Hid (B = ((Bk1_2 && m.q.right))) := ⟨_, Lib.hid rfl⟩
          refine fr_g zk1_6 (t := 40) (by decide) rfl (by rfl) (v := .bool Bk1_7) (fun hG => by have hc0 : ak1_6.eval (.const (.bool false)) = .bool false := rfl; generalize ak1_6.eval = ρ at e36_k1_6 e39_k1_6 hc0; rw [hBk1_7.out]; cases Bk1_2 <;> simp only [execOp, vif, cond_true, cond_false, Bool.true_and, Bool.false_and, Bool.true_or, Bool.false_or, beq_self_eq_true, hGk1_4.out] at e39_k1_6 ⊢ <;> go_simp) fun ak1_7 fk1_7 => ?_
          have e1_k1_7 := (fk1_7.other 1 (by decide)).trans e1_k1_6
          have e40_k1_7 : ak1_7.eval (.tmp 40) = .bool Bk1_7 := fk1_7.own
          have zk1_7 := fk1_7.sz
          have dk1_7 := fk1_7.df.trans dk1_6
          clear fk1_7 e1_k1_6 e36_k1_6 e39_k1_6 zk1_6 dk1_6
          refine fr_g zk1_7 (t := 41) (by decide) rfl (by rfl) (v := .bool Bk1_7) (fun hG => by generalize ak1_7.eval = ρ at e40_k1_7; simp only [execOp]; go_simp) fun ak1_8 fk1_8 => ?_
          have e1_k1_8 := (fk1_8.other 1 (by decide)).trans e1_k1_7
          have e41_k1_8 : ak1_8.eval (.tmp 41) = .bool Bk1_7 := fk1_8.own
          have zk1_8 := fk1_8.sz
          have dk1_8 := fk1_8.df.trans dk1_7
          clear fk1_8 e1_k1_7 e40_k1_7 zk1_7 dk1_7
          obtain ⟨Gk1_9, hGk1_9⟩ : ∃ G, Hid (G = (true && (Bk1_7 == true))) := ⟨_, Lib.hid rfl⟩
          have iGk1_9 := Lib.hid (show Gk1_9 = true → true = true ∧ Bk1_7 = true from fun h => by rw [hGk1_9.out] at h; simpa using h)
          refine fr_g zk1_8 (t := 42) (by decide) rfl ((fr_w0 (k := 8) (b := true) (t := 41) rfl rfl e41_k1_8).trans hGk1_9.out.symm) (v := .pointer (some ⟨w.heap.size, 14, none⟩)) (fun hG => by obtain ⟨hp0, hb0⟩ := iGk1_9.out hG; generalize ak1_8.eval = ρ at e1_k1_8; simp only [execOp]; go_simp) fun ak1_9 fk1_9 => ?_
          have e1_k1_9 := (fk1_9.other 1 (by decide)).trans e1_k1_8
          have e41_k1_9 := (fk1_9.other 41 (by decide)).trans e41_k1_8
          have e42_k1_9 : ak1_9.eval (.tmp 42) = vif Gk1_9 (.pointer (some ⟨w.heap.size, 14, none⟩)) := fk1_9.own
          have zk1_9 := fk1_9.sz
          have dk1_9 := fk1_9.df.trans dk1_8
          clear fk1_9 e1_k1_8 e41_k1_8 zk1_8 dk1_8
          refine fr_g zk1_9 (t := 43) (by decide) rfl ((fr_w0 (k := 8) (b := true) (t := 41) rfl rfl e41_k1_9).trans hGk1_9.out.symm) (v := .slice a2 m.sg.length c2) (fun hG => by obtain ⟨hp0, hb0⟩ := iGk1_9.out hG; have y14 := X14.out uk1_6 HBk1_6.out; generalize ak1_9.eval = ρ at e42_k1_9; simp only [vif, cond_true, cond_false, hG, hp0, hb0] at e42_k1_9; simp only [execOp]; go_simp) fun ak1_10 fk1_10 => ?_
          have e1_k1_10 := (fk1_10.other 1 (by decide)).trans e1_k1_9
          have e41_k1_10 := (fk1_10.other 41 (by decide)).trans e41_k1_9
          have e43_k1_10 : ak1_10.eval (.tmp 43) = vif Gk1_9 (.slice a2 m.sg.length c2) := fk1_10.own
          have zk1_10 := fk1_10.sz
          have dk1_10 := fk1_10.df.trans dk1_9
          clear fk1_10 e1_k1_9 e41_k1_9 e42_k1_9 zk1_9 dk1_9
          refine fr_g zk1_10 (t := 44) (by decide) rfl ((fr_w0 (k := 8) (b := true) (t := 41) rfl rfl e41_k1_10).trans hGk1_9.out.symm) (v := .int .i64 m.sg.length) (fun hG => by obtain ⟨hp0, hb0⟩ := iGk1_9.out hG; generalize ak1_10.eval = ρ at e43_k1_10; simp only [vif, cond_true, cond_false, hG, hp0, hb0] at e43_k1_10; simp only [execOp]; go_simp) fun ak1_11 fk1_11 => ?_
          have e1_k1_11 := (fk1_11.other 1 (by decide)).trans e1_k1_10
          have e41_k1_11 := (fk1_11.other 41 (by decide)).trans e41_k1_10
          have e44_k1_11 : ak1_11.eval (.tmp 44) = vif Gk1_9 (.int .i64 m.sg.length) := fk1_11.own
          have zk1_11 := fk1_11.sz
          have dk1_11 := fk1_11.df.trans dk1_10
          clear fk1_11 e1_k1_10 e41_k1_10 e43_k1_10 zk1_10 dk1_10
          obtain ⟨Bk1_12, hBk1_12⟩ : ∃ B, Hid (B = ((m.sg.length : Int) == 1)) := ⟨_, Lib.hid rfl⟩
          refine fr_g zk1_11 (t := 45) (by decide) rfl ((fr_w0 (k := 8) (b := true) (t := 41) rfl rfl e41_k1_11).trans hGk1_9.out.symm) (v := .bool Bk1_12) (fun hG => by obtain ⟨hp0, hb0⟩ := iGk1_9.out hG; have hc0 : ak1_11.eval (.const (.int .i64 1)) = .int .i64 1 := rfl; generalize ak1_11.eval = ρ at e44_k1_11 hc0; simp only [vif, cond_true, cond_false, hG, hp0, hb0] at e44_k1_11; rw [hBk1_12.out]; simp only [execOp]; go_simp) fun ak1_12 fk1_12 => ?_
          have e1_k1_12 := (fk1_12.other 1 (by decide)).trans e1_k1_11
          have e41_k1_12 := (fk1_12.other 41 (by decide)).trans e41_k1_11
          have e45_k1_12 : ak1_12.eval (.tmp 45) = vif Gk1_9 (.bool Bk1_12) := fk1_12.own
          have zk1_12 := fk1_12.sz
          have dk1_12 := fk1_12.df.trans dk1_11
          clear fk1_12 e1_k1_11 e41_k1_11 e44_k1_11 zk1_11 dk1_11
          obtain ⟨Bk1_13, hBk1_13⟩ : ∃ B, Hid (B = ((Bk1_7 && Bk1_12))) := ⟨_, Lib.hid rfl⟩
          refine fr_g zk1_12 (t := 46) (by decide) rfl (by rfl) (v := .bool Bk1_13) (fun hG => by have hc0 : ak1_12.eval (.const (.bool false)) = .bool false := rfl; generalize ak1_12.eval = ρ at e41_k1_12 e45_k1_12 hc0; rw [hBk1_13.out]; cases Bk1_7 <;> simp only [execOp, vif, cond_true, cond_false, Bool.true_and, Bool.false_and, Bool.true_or, Bool.false_or, beq_self_eq_true, hGk1_4.out, hGk1_9.out] at e45_k1_12 ⊢ <;> go_simp) fun ak1_13 fk1_13 => ?_
          have e1_k1_13 := (fk1_13.other 1 (by decide)).trans e1_k1_12
          have e46_k1_13 : ak1_13.eval (.tmp 46) = .bool Bk1_13 := fk1_13.own
          have zk1_13 := fk1_13.sz
          have dk1_13 := fk1_13.df.trans dk1_12
          clear fk1_13 e1_k1_12 e41_k1_12 e45_k1_12 zk1_12 dk1_12
          refine fr_g zk1_13 (t := 47) (by decide) rfl (by rfl) (v := .bool Bk1_13) (fun hG => by generalize ak1_13.eval = ρ at e46_k1_13; simp only [execOp]; go_simp) fun ak1_14 fk1_14 => ?_
          have e1_k1_14 := (fk1_14.other 1 (by decide)).trans e1_k1_13
          have e47_k1_14 : ak1_14.eval (.tmp 47) = .bool Bk1_13 := fk1_14.own
          have zk1_14 := fk1_14.sz
          have dk1_14 := fk1_14.df.trans dk1_13
          clear fk1_14 e1_k1_13 e46_k1_13 zk1_13 dk1_13
          obtain ⟨Gk1_15, hGk1_15⟩ : ∃ G, Hid (G = (true && (Bk1_13 == true))) := ⟨_, Lib.hid rfl⟩
          have iGk1_15 := Lib.hid (show Gk1_15 = true → true = true ∧ Bk1_13 = true from fun h => by rw [hGk1_15.out] at h; simpa using h)
          refine fr_g zk1_14 (t := 48) (by decide) rfl ((fr_w0 (k := 14) (b := true) (t := 47) rfl rfl e47_k1_14).trans hGk1_15.out.symm) (v := .agg CS) (fun _ => load_row _ _ (.tmp 1) Tryz.underlying35 rfl HI.out rfl e1_k1_14 (KB.out uk1_6 HBk1_6.out)) fun ak1_15 fk1_15 => ?_
          have e1_k1_15 := (fk1_15.other 1 (by decide)).trans e1_k1_14
          have e47_k1_15 := (fk1_15.other 47 (by decide)).trans e47_k1_14
          have e48_k1_15 : ak1_15.eval (.tmp 48) = vif Gk1_15 (.agg CS) := fk1_15.own
          have zk1_15 := fk1_15.sz
          have dk1_15 := fk1_15.df.trans dk1_14
          clear fk1_15 e1_k1_14 e47_k1_14 zk1_14 dk1_14
          refine fr_gc zk1_15 (t := 49) (by decide) rfl ((fr_w0 (k := 14) (b := true) (t := 47) rfl rfl e47_k1_15).trans hGk1_15.out.symm) 87 #[.agg CS, .string ⟨#[114, 103]⟩] (v := .bool (restB { q := true, sg := true } m)) (fun hG => by obtain ⟨hp0, hb0⟩ := iGk1_15.out hG; have hc0 : ak1_15.eval (.const (.string ⟨#[114, 103]⟩)) = .string ⟨#[114, 103]⟩ := rfl; have hf : ak1_15.eval (.func 87) = .func (.func 87) #[] #[] := rfl; generalize ak1_15.eval = ρ at hf e48_k1_15 hc0; simp only [vif, cond_true, cond_false, hG, hp0, hb0] at e48_k1_15; simp only [execOp]; go_simp) (fun hG => CZrg.out uk1_6 HBk1_6.out) fun ak1_16 uk1_16 blk1_16 fk1_16 => ?_
          have HBk1_16 := Lib.hid (bthen HBk1_6.out blk1_16)
          clear blk1_16
          have e1_k1_16 := (fk1_16.other 1 (by decide)).trans e1_k1_15
          have e47_k1_16 := (fk1_16.other 47 (by decide)).trans e47_k1_15
          have e49_k1_16 : ak1_16.eval (.tmp 49) = vif Gk1_15 (.bool (restB { q := true, sg := true } m)) := fk1_16.own
          have zk1_16 := fk1_16.sz
          have dk1_16 := fk1_16.df.trans dk1_15
          clear fk1_16 e1_k1_15 e47_k1_15 e48_k1_15 zk1_15 dk1_15
          obtain ⟨Bk1_17, hBk1_17⟩ : ∃ B, Hid (B = ((Bk1_13 && (restB { q := true, sg := true } m)))) := ⟨_, Lib.hid rfl⟩
          refine fr_g zk1_16 (t := 50) (by decide) rfl (by rfl) (v := .bool Bk1_17) (fun hG => by have hc0 : ak1_16.eval (.const (.bool false)) = .bool false := rfl; generalize ak1_16.eval = ρ at e47_k1_16 e49_k1_16 hc0; rw [hBk1_17.out]; cases Bk1_13 <;> simp only [execOp, vif, cond_true, cond_false, Bool.true_and, Bool.false_and, Bool.true_or, Bool.false_or, beq_self_eq_true, hGk1_4.out, hGk1_9.out, hGk1_15.out] at e49_k1_16 ⊢ <;> go_simp) fun ak1_17 fk1_17 => ?_
          have e1_k1_17 := (fk1_17.other 1 (by decide)).trans e1_k1_16
          have e50_k1_17 : ak1_17.eval (.tmp 50) = .bool Bk1_17 := fk1_17.own
          have zk1_17 := fk1_17.sz
          have dk1_17 := fk1_17.df.trans dk1_16
          clear fk1_17 e1_k1_16 e47_k1_16 e49_k1_16 zk1_16 dk1_16
          refine fr_g zk1_17 (t := 5) (by decide) rfl (by rfl) (v := .bool Bk1_17) (fun hG => by generalize ak1_17.eval = ρ at e50_k1_17; simp only [execOp]; go_simp) fun ak1_18 fk1_18 => ?_
          have e1_k1_18 := (fk1_18.other 1 (by decide)).trans e1_k1_17
          have e5_k1_18 : ak1_18.eval (.tmp 5) = .bool Bk1_17 := fk1_18.own
          have zk1_18 := fk1_18.sz
          have dk1_18 := fk1_18.df.trans dk1_17
          clear fk1_18 e1_k1_17 e50_k1_17 zk1_17 dk1_17
          have hv : Bk1_17 = okR m := by
            rw [hok]
            unfold okR1
            simp only [hBk1_17.out, hBk1_13.out, hBk1_12.out, hBk1_7.out, hBk1_2.out]
            try (simp [Bool.and_assoc])
          exact hQ _ _ ⟨zk1_18, dk1_18, HBk1_16.out, e1_k1_18, by rw [e5_k1_18, hv]⟩
        intro a' w' h
        exact hQ0 _ _ h
      clear et
      refine wp_seq ?_
      refine fr_region (fun a' w' => a'.tmps.size = 268 ∧ a'.defers = [] ∧ Below w1.heap.size w1 w' ∧ a'.eval (.tmp 1) = .pointer (some ⟨w.heap.size, 0, none⟩) ∧ a'.eval (.tmp 3) = .bool (decide (0 ≤ m.v) && decide (m.v ≤ 15)) ∧ a'.eval (.tmp 4) = .bool (ofR m.e m.s) ∧ a'.eval (.tmp 30) = .int .i64 m.k ∧ a'.eval (.tmp 51) = .bool (m.k == 2)) (fun Q' hQ => ?_) ?_
      · skip
        refine fr_g hsz (t := 52) (by decide) rfl (by rfl) (v := .bool (m.k == 2)) (fun hG => by have hc0 : af.eval (.const (.int .i64 2)) = .int .i64 2 := rfl; generalize af.eval = ρ at e30 hc0; simp only [execOp]; go_simp) fun at2_0 ft2_0 => ?_
        have e1_t2_0 := (ft2_0.other 1 (by decide)).trans e1
        have e3_t2_0 := (ft2_0.other 3 (by decide)).trans e3
        have e4_t2_0 := (ft2_0.other 4 (by decide)).trans e4
        have e30_t2_0 := (ft2_0.other 30 (by decide)).trans e30
        have e52_t2_0 : at2_0.eval (.tmp 52) = .bool (m.k == 2) := ft2_0.own
        have zt2_0 := ft2_0.sz
        have dt2_0 := ft2_0.df.trans hdf
        clear ft2_0 e1 e3 e4 e30 hsz hdf
        refine fr_g zt2_0 (t := 51) (by decide) rfl (by rfl) (v := .bool (m.k == 2)) (fun hG => by generalize at2_0.eval = ρ at e52_t2_0; simp only [execOp]; go_simp) fun at2_1 ft2_1 => ?_
        have e1_t2_1 := (ft2_1.other 1 (by decide)).trans e1_t2_0
        have e3_t2_1 := (ft2_1.other 3 (by decide)).trans e3_t2_0
        have e4_t2_1 := (ft2_1.other 4 (by decide)).trans e4_t2_0
        have e30_t2_1 := (ft2_1.other 30 (by decide)).trans e30_t2_0
        have e51_t2_1 : at2_1.eval (.tmp 51) = .bool (m.k == 2) := ft2_1.own
        have zt2_1 := ft2_1.sz
        have dt2_1 := ft2_1.df.trans dt2_0
        clear ft2_1 e1_t2_0 e3_t2_0 e4_t2_0 e30_t2_0 e52_t2_0 zt2_0 dt2_0
        exact hQ _ _ ⟨zt2_1, dt2_1, HB.out, e1_t2_1, e3_t2_1, e4_t2_1, e30_t2_1, e51_t2_1⟩
      clear e3 e4 e30 hsz hdf e1 HB
      rintro af wf ⟨hsz, hdf, hb, e1, e3, e4, e30, et⟩
      have HB := Lib.hid hb
      clear hb
      show Code.wp Tryz.prog _ _ af wf
      refine wp_cond_split et (fun ht => ?_) (fun hf2 => ?_)
      · have h : m.k = 2 := by simpa using ht
        have hok : okR m = okR2 m := by unfold okR; rw [if_neg (by omega), if_pos h]
        clear h hk et ht
        clear e30
        refine fr_region (fun a' w' => a'.tmps.size = 268 ∧ a'.defers = [] ∧ Below w1.heap.size w1 w' ∧ a'.eval (.tmp 1) = .pointer (some ⟨w.heap.size, 0, none⟩) ∧ a'.eval (.tmp 5) = .bool (okR m)) (fun Q' hQ => ?_) ?_
        · skip
          refine fr_g hsz (t := 53) (by decide) rfl (by rfl) (v := .bool (decide (0 ≤ m.v) && decide (m.v ≤ 15))) (fun hG => by generalize af.eval = ρ at e3; simp only [execOp]; go_simp) fun ak2_0 fk2_0 => ?_
          have e1_k2_0 := (fk2_0.other 1 (by decide)).trans e1
          have e4_k2_0 := (fk2_0.other 4 (by decide)).trans e4
          have e53_k2_0 : ak2_0.eval (.tmp 53) = .bool (decide (0 ≤ m.v) && decide (m.v ≤ 15)) := fk2_0.own
          have zk2_0 := fk2_0.sz
          have dk2_0 := fk2_0.df.trans hdf
          clear fk2_0 e1 e3 e4 hsz hdf
          refine fr_g zk2_0 (t := 54) (by decide) rfl (by rfl) (v := .bool (decide (0 ≤ m.v) && decide (m.v ≤ 15))) (fun hG => by generalize ak2_0.eval = ρ at e53_k2_0; simp only [execOp]; go_simp) fun ak2_1 fk2_1 => ?_
          have e1_k2_1 := (fk2_1.other 1 (by decide)).trans e1_k2_0
          have e4_k2_1 := (fk2_1.other 4 (by decide)).trans e4_k2_0
          have e54_k2_1 : ak2_1.eval (.tmp 54) = .bool (decide (0 ≤ m.v) && decide (m.v ≤ 15)) := fk2_1.own
          have zk2_1 := fk2_1.sz
          have dk2_1 := fk2_1.df.trans dk2_0
          clear fk2_1 e1_k2_0 e4_k2_0 e53_k2_0 zk2_0 dk2_0
          obtain ⟨Gk2_2, hGk2_2⟩ : ∃ G, Hid (G = (true && ((decide (0 ≤ m.v) && decide (m.v ≤ 15)) == true))) := ⟨_, Lib.hid rfl⟩
          have iGk2_2 := Lib.hid (show Gk2_2 = true → true = true ∧ (decide (0 ≤ m.v) && decide (m.v ≤ 15)) = true from fun h => by rw [hGk2_2.out] at h; simpa using h)
          refine fr_g zk2_1 (t := 55) (by decide) rfl ((fr_w0 (k := 1) (b := true) (t := 54) rfl rfl e54_k2_1).trans hGk2_2.out.symm) (v := .bool (ofR m.e m.s)) (fun hG => by obtain ⟨hp0, hb0⟩ := iGk2_2.out hG; generalize ak2_1.eval = ρ at e4_k2_1; simp only [execOp]; go_simp) fun ak2_2 fk2_2 => ?_
          have e1_k2_2 := (fk2_2.other 1 (by decide)).trans e1_k2_1
          have e54_k2_2 := (fk2_2.other 54 (by decide)).trans e54_k2_1
          have e55_k2_2 : ak2_2.eval (.tmp 55) = vif Gk2_2 (.bool (ofR m.e m.s)) := fk2_2.own
          have zk2_2 := fk2_2.sz
          have dk2_2 := fk2_2.df.trans dk2_1
          clear fk2_2 e1_k2_1 e4_k2_1 e54_k2_1 zk2_1 dk2_1
          obtain ⟨Bk2_3, hBk2_3⟩ : ∃ B, Hid (B = (((decide (0 ≤ m.v) && decide (m.v ≤ 15)) && (ofR m.e m.s)))) := ⟨_, Lib.hid rfl⟩
          refine fr_g zk2_2 (t := 56) (by decide) rfl (by rfl) (v := .bool Bk2_3) (fun hG => by have hc0 : ak2_2.eval (.const (.bool false)) = .bool false := rfl; generalize ak2_2.eval = ρ at e54_k2_2 e55_k2_2 hc0; rw [hBk2_3.out]; cases hcs : (decide (0 ≤ m.v) && decide (m.v ≤ 15)) <;> simp only [execOp, vif, cond_true, cond_false, Bool.true_and, Bool.false_and, Bool.true_or, Bool.false_or, beq_self_eq_true, hGk2_2.out, hcs] at e55_k2_2 ⊢ <;> go_simp) fun ak2_3 fk2_3 => ?_
          have e1_k2_3 := (fk2_3.other 1 (by decide)).trans e1_k2_2
          have e56_k2_3 : ak2_3.eval (.tmp 56) = .bool Bk2_3 := fk2_3.own
          have zk2_3 := fk2_3.sz
          have dk2_3 := fk2_3.df.trans dk2_2
          clear fk2_3 e1_k2_2 e54_k2_2 e55_k2_2 zk2_2 dk2_2
          refine fr_g zk2_3 (t := 57) (by decide) rfl (by rfl) (v := .bool Bk2_3) (fun hG => by generalize ak2_3.eval = ρ at e56_k2_3; simp only [execOp]; go_simp) fun ak2_4 fk2_4 => ?_
          have e1_k2_4 := (fk2_4.other 1 (by decide)).trans e1_k2_3
          have e57_k2_4 : ak2_4.eval (.tmp 57) = .bool Bk2_3 := fk2_4.own
          have zk2_4 := fk2_4.sz
          have dk2_4 := fk2_4.df.trans dk2_3
          clear fk2_4 e1_k2_3 e56_k2_3 zk2_3 dk2_3
          obtain ⟨Gk2_5, hGk2_5⟩ : ∃ G, Hid (G = (true && (Bk2_3 == true))) := ⟨_, Lib.hid rfl⟩
          have iGk2_5 := Lib.hid (show Gk2_5 = true → true = true ∧ Bk2_3 = true from fun h => by rw [hGk2_5.out] at h; simpa using h)
          refine fr_g zk2_4 (t := 58) (by decide) rfl ((fr_w0 (k := 4) (b := true) (t := 57) rfl rfl e57_k2_4).trans hGk2_5.out.symm) (v := .pointer (some ⟨w.heap.size, 4, none⟩)) (fun hG => by obtain ⟨hp0, hb0⟩ := iGk2_5.out hG; generalize ak2_4.eval = ρ at e1_k2_4; simp only [execOp]; go_simp) fun ak2_5 fk2_5 => ?_
          have e1_k2_5 := (fk2_5.other 1 (by decide)).trans e1_k2_4
          have e57_k2_5 := (fk2_5.other 57 (by decide)).trans e57_k2_4
          have e58_k2_5 : ak2_5.eval (.tmp 58) = vif Gk2_5 (.pointer (some ⟨w.heap.size, 4, none⟩)) := fk2_5.own
          have zk2_5 := fk2_5.sz
          have dk2_5 := fk2_5.df.trans dk2_4
          clear fk2_5 e1_k2_4 e57_k2_4 zk2_4 dk2_4
          refine fr_g zk2_5 (t := 59) (by decide) rfl ((fr_w0 (k := 4) (b := true) (t := 57) rfl rfl e57_k2_5).trans hGk2_5.out.symm) (v := .agg #[.int .i64 m.q.c, .int .i64 m.q.s, .int .i64 m.q.kind, .string m.q.key, .float .f64 m.q.b, .int .i64 m.q.id]) (fun hG => by obtain ⟨hp0, hb0⟩ := iGk2_5.out hG; have y4 := X4.out wf HB.out; have y5 := X5.out wf HB.out; have y6 := X6.out wf HB.out; have y7 := X7.out wf HB.out; have y8 := X8.out wf HB.out; have y9 := X9.out wf HB.out; generalize ak2_5.eval = ρ at e58_k2_5; simp only [vif, cond_true, cond_false, hG, hp0, hb0] at e58_k2_5; simp only [execOp]; go_simp) fun ak2_6 fk2_6 => ?_
          have e1_k2_6 := (fk2_6.other 1 (by decide)).trans e1_k2_5
          have e57_k2_6 := (fk2_6.other 57 (by decide)).trans e57_k2_5
          have e59_k2_6 : ak2_6.eval (.tmp 59) = vif Gk2_5 (.agg #[.int .i64 m.q.c, .int .i64 m.q.s, .int .i64 m.q.kind, .string m.q.key, .float .f64 m.q.b, .int .i64 m.q.id]) := fk2_6.own
          have zk2_6 := fk2_6.sz
          have dk2_6 := fk2_6.df.trans dk2_5
          clear fk2_6 e1_k2_5 e57_k2_5 e58_k2_5 zk2_5 dk2_5
          refine fr_gc zk2_6 (t := 60) (by decide) rfl ((fr_w0 (k := 4) (b := true) (t := 57) rfl rfl e57_k2_6).trans hGk2_5.out.symm) 86 #[.agg #[.int .i64 m.q.c, .int .i64 m.q.s, .int .i64 m.q.kind, .string m.q.key, .float .f64 m.q.b, .int .i64 m.q.id]] (v := .bool m.q.right) (fun hG => by obtain ⟨hp0, hb0⟩ := iGk2_5.out hG; have hf : ak2_6.eval (.func 86) = .func (.func 86) #[] #[] := rfl; generalize ak2_6.eval = ρ at hf e59_k2_6; simp only [vif, cond_true, cond_false, hG, hp0, hb0] at e59_k2_6; simp only [execOp]; go_simp) (fun hG => CR.out wf) fun ak2_7 uk2_7 blk2_7 fk2_7 => ?_
          have HBk2_7 := Lib.hid (bthen HB.out blk2_7)
          clear blk2_7
          have e1_k2_7 := (fk2_7.other 1 (by decide)).trans e1_k2_6
          have e57_k2_7 := (fk2_7.other 57 (by decide)).trans e57_k2_6
          have e60_k2_7 : ak2_7.eval (.tmp 60) = vif Gk2_5 (.bool m.q.right) := fk2_7.own
          have zk2_7 := fk2_7.sz
          have dk2_7 := fk2_7.df.trans dk2_6
          clear fk2_7 e1_k2_6 e57_k2_6 e59_k2_6 zk2_6 dk2_6
          refine fr_g zk2_7 (t := 61) (by decide) rfl ((fr_w0 (k := 4) (b := true) (t := 57) rfl rfl e57_k2_7).trans hGk2_5.out.symm) (v := .bool m.q.right) (fun hG => by obtain ⟨hp0, hb0⟩ := iGk2_5.out hG; generalize ak2_7.eval = ρ at e60_k2_7; simp only [vif, cond_true, cond_false, hG, hp0, hb0] at e60_k2_7; simp only [execOp]; go_simp) fun ak2_8 fk2_8 => ?_
          have e1_k2_8 := (fk2_8.other 1 (by decide)).trans e1_k2_7
          have e57_k2_8 := (fk2_8.other 57 (by decide)).trans e57_k2_7
          have e61_k2_8 : ak2_8.eval (.tmp 61) = vif Gk2_5 (.bool m.q.right) := fk2_8.own
          have zk2_8 := fk2_8.sz
          have dk2_8 := fk2_8.df.trans dk2_7
          clear fk2_8 e1_k2_7 e57_k2_7 e60_k2_7 zk2_7 dk2_7
          obtain ⟨Gk2_9, hGk2_9⟩ : ∃ G, Hid (G = (Gk2_5 && (m.q.right == true))) := ⟨_, Lib.hid rfl⟩
          have iGk2_9 := Lib.hid (show Gk2_9 = true → Gk2_5 = true ∧ m.q.right = true from fun h => by rw [hGk2_9.out] at h; simpa using h)
          refine fr_g zk2_8 (t := 62) (by decide) rfl ((fr_w (k := 8) (b := true) (t := 61) rfl rfl e61_k2_8).trans hGk2_9.out.symm) (v := .pointer (some ⟨w.heap.size, 14, none⟩)) (fun hG => by obtain ⟨hp0, hb0⟩ := iGk2_9.out hG; obtain ⟨hp1, hb1⟩ := iGk2_5.out hp0; generalize ak2_8.eval = ρ at e1_k2_8; simp only [execOp]; go_simp) fun ak2_9 fk2_9 => ?_
          have e1_k2_9 := (fk2_9.other 1 (by decide)).trans e1_k2_8
          have e57_k2_9 := (fk2_9.other 57 (by decide)).trans e57_k2_8
          have e61_k2_9 := (fk2_9.other 61 (by decide)).trans e61_k2_8
          have e62_k2_9 : ak2_9.eval (.tmp 62) = vif Gk2_9 (.pointer (some ⟨w.heap.size, 14, none⟩)) := fk2_9.own
          have zk2_9 := fk2_9.sz
          have dk2_9 := fk2_9.df.trans dk2_8
          clear fk2_9 e1_k2_8 e57_k2_8 e61_k2_8 zk2_8 dk2_8
          refine fr_g zk2_9 (t := 63) (by decide) rfl ((fr_w (k := 8) (b := true) (t := 61) rfl rfl e61_k2_9).trans hGk2_9.out.symm) (v := .slice a2 m.sg.length c2) (fun hG => by obtain ⟨hp0, hb0⟩ := iGk2_9.out hG; obtain ⟨hp1, hb1⟩ := iGk2_5.out hp0; have y14 := X14.out uk2_7 HBk2_7.out; generalize ak2_9.eval = ρ at e62_k2_9; simp only [vif, cond_true, cond_false, hG, hp0, hb0, hp1, hb1] at e62_k2_9; simp only [execOp]; go_simp) fun ak2_10 fk2_10 => ?_
          have e1_k2_10 := (fk2_10.other 1 (by decide)).trans e1_k2_9
          have e57_k2_10 := (fk2_10.other 57 (by decide)).trans e57_k2_9
          have e61_k2_10 := (fk2_10.other 61 (by decide)).trans e61_k2_9
          have e63_k2_10 : ak2_10.eval (.tmp 63) = vif Gk2_9 (.slice a2 m.sg.length c2) := fk2_10.own
          have zk2_10 := fk2_10.sz
          have dk2_10 := fk2_10.df.trans dk2_9
          clear fk2_10 e1_k2_9 e57_k2_9 e61_k2_9 e62_k2_9 zk2_9 dk2_9
          refine fr_g zk2_10 (t := 64) (by decide) rfl ((fr_w (k := 8) (b := true) (t := 61) rfl rfl e61_k2_10).trans hGk2_9.out.symm) (v := .int .i64 m.sg.length) (fun hG => by obtain ⟨hp0, hb0⟩ := iGk2_9.out hG; obtain ⟨hp1, hb1⟩ := iGk2_5.out hp0; generalize ak2_10.eval = ρ at e63_k2_10; simp only [vif, cond_true, cond_false, hG, hp0, hb0, hp1, hb1] at e63_k2_10; simp only [execOp]; go_simp) fun ak2_11 fk2_11 => ?_
          have e1_k2_11 := (fk2_11.other 1 (by decide)).trans e1_k2_10
          have e57_k2_11 := (fk2_11.other 57 (by decide)).trans e57_k2_10
          have e61_k2_11 := (fk2_11.other 61 (by decide)).trans e61_k2_10
          have e64_k2_11 : ak2_11.eval (.tmp 64) = vif Gk2_9 (.int .i64 m.sg.length) := fk2_11.own
          have zk2_11 := fk2_11.sz
          have dk2_11 := fk2_11.df.trans dk2_10
          clear fk2_11 e1_k2_10 e57_k2_10 e61_k2_10 e63_k2_10 zk2_10 dk2_10
          obtain ⟨Bk2_12, hBk2_12⟩ : ∃ B, Hid (B = ((m.sg.length : Int) == 1)) := ⟨_, Lib.hid rfl⟩
          refine fr_g zk2_11 (t := 65) (by decide) rfl ((fr_w (k := 8) (b := true) (t := 61) rfl rfl e61_k2_11).trans hGk2_9.out.symm) (v := .bool Bk2_12) (fun hG => by obtain ⟨hp0, hb0⟩ := iGk2_9.out hG; obtain ⟨hp1, hb1⟩ := iGk2_5.out hp0; have hc0 : ak2_11.eval (.const (.int .i64 1)) = .int .i64 1 := rfl; generalize ak2_11.eval = ρ at e64_k2_11 hc0; simp only [vif, cond_true, cond_false, hG, hp0, hb0, hp1, hb1] at e64_k2_11; rw [hBk2_12.out]; simp only [execOp]; go_simp) fun ak2_12 fk2_12 => ?_
          have e1_k2_12 := (fk2_12.other 1 (by decide)).trans e1_k2_11
          have e57_k2_12 := (fk2_12.other 57 (by decide)).trans e57_k2_11
          have e61_k2_12 := (fk2_12.other 61 (by decide)).trans e61_k2_11
          have e65_k2_12 : ak2_12.eval (.tmp 65) = vif Gk2_9 (.bool Bk2_12) := fk2_12.own
          have zk2_12 := fk2_12.sz
          have dk2_12 := fk2_12.df.trans dk2_11
          clear fk2_12 e1_k2_11 e57_k2_11 e61_k2_11 e64_k2_11 zk2_11 dk2_11
          obtain ⟨Bk2_13, hBk2_13⟩ : ∃ B, Hid (B = ((m.q.right && Bk2_12))) := ⟨_, Lib.hid rfl⟩
          refine fr_g zk2_12 (t := 66) (by decide) rfl ((fr_w0 (k := 4) (b := true) (t := 57) rfl rfl e57_k2_12).trans hGk2_5.out.symm) (v := .bool Bk2_13) (fun hG => by obtain ⟨hp0, hb0⟩ := iGk2_5.out hG; have hc0 : ak2_12.eval (.const (.bool false)) = .bool false := rfl; generalize ak2_12.eval = ρ at e61_k2_12 e65_k2_12 hc0; rw [hBk2_13.out]; cases hcs : m.q.right <;> simp only [execOp, vif, cond_true, cond_false, Bool.true_and, Bool.false_and, Bool.true_or, Bool.false_or, beq_self_eq_true, hGk2_2.out, hGk2_5.out, hGk2_9.out, hG, hp0, hb0, hcs] at e61_k2_12 e65_k2_12 ⊢ <;> go_simp) fun ak2_13 fk2_13 => ?_
          have e1_k2_13 := (fk2_13.other 1 (by decide)).trans e1_k2_12
          have e57_k2_13 := (fk2_13.other 57 (by decide)).trans e57_k2_12
          have e66_k2_13 : ak2_13.eval (.tmp 66) = vif Gk2_5 (.bool Bk2_13) := fk2_13.own
          have zk2_13 := fk2_13.sz
          have dk2_13 := fk2_13.df.trans dk2_12
          clear fk2_13 e1_k2_12 e57_k2_12 e61_k2_12 e65_k2_12 zk2_12 dk2_12
          refine fr_g zk2_13 (t := 67) (by decide) rfl ((fr_w0 (k := 4) (b := true) (t := 57) rfl rfl e57_k2_13).trans hGk2_5.out.symm) (v := .bool Bk2_13) (fun hG => by obtain ⟨hp0, hb0⟩ := iGk2_5.out hG; generalize ak2_13.eval = ρ at e66_k2_13; simp only [vif, cond_true, cond_false, hG, hp0, hb0] at e66_k2_13; simp only [execOp]; go_simp) fun ak2_14 fk2_14 => ?_
          have e1_k2_14 := (fk2_14.other 1 (by decide)).trans e1_k2_13
          have e57_k2_14 := (fk2_14.other 57 (by decide)).trans e57_k2_13
          have e67_k2_14 : ak2_14.eval (.tmp 67) = vif Gk2_5 (.bool Bk2_13) := fk2_14.own
          have zk2_14 := fk2_14.sz
          have dk2_14 := fk2_14.df.trans dk2_13
          clear fk2_14 e1_k2_13 e57_k2_13 e66_k2_13 zk2_13 dk2_13
          obtain ⟨Gk2_15, hGk2_15⟩ : ∃ G, Hid (G = (Gk2_5 && (Bk2_13 == false))) := ⟨_, Lib.hid rfl⟩
          have iGk2_15 := Lib.hid (show Gk2_15 = true → Gk2_5 = true ∧ Bk2_13 = false from fun h => by rw [hGk2_15.out] at h; simpa using h)
          refine fr_g zk2_14 (t := 68) (by decide) rfl ((fr_w (k := 14) (b := false) (t := 67) rfl rfl e67_k2_14).trans hGk2_15.out.symm) (v := .pointer (some ⟨w.heap.size, 4, none⟩)) (fun hG => by obtain ⟨hp0, hb0⟩ := iGk2_15.out hG; obtain ⟨hp1, hb1⟩ := iGk2_5.out hp0; generalize ak2_14.eval = ρ at e1_k2_14; simp only [execOp]; go_simp) fun ak2_15 fk2_15 => ?_
          have e1_k2_15 := (fk2_15.other 1 (by decide)).trans e1_k2_14
          have e57_k2_15 := (fk2_15.other 57 (by decide)).trans e57_k2_14
          have e67_k2_15 := (fk2_15.other 67 (by decide)).trans e67_k2_14
          have e68_k2_15 : ak2_15.eval (.tmp 68) = vif Gk2_15 (.pointer (some ⟨w.heap.size, 4, none⟩)) := fk2_15.own
          have zk2_15 := fk2_15.sz
          have dk2_15 := fk2_15.df.trans dk2_14
          clear fk2_15 e1_k2_14 e57_k2_14 e67_k2_14 zk2_14 dk2_14
          refine fr_g zk2_15 (t := 69) (by decide) rfl ((fr_w (k := 14) (b := false) (t := 67) rfl rfl e67_k2_15).trans hGk2_15.out.symm) (v := .agg #[.int .i64 m.q.c, .int .i64 m.q.s, .int .i64 m.q.kind, .string m.q.key, .float .f64 m.q.b, .int .i64 m.q.id]) (fun hG => by obtain ⟨hp0, hb0⟩ := iGk2_15.out hG; obtain ⟨hp1, hb1⟩ := iGk2_5.out hp0; have y4 := X4.out uk2_7 HBk2_7.out; have y5 := X5.out uk2_7 HBk2_7.out; have y6 := X6.out uk2_7 HBk2_7.out; have y7 := X7.out uk2_7 HBk2_7.out; have y8 := X8.out uk2_7 HBk2_7.out; have y9 := X9.out uk2_7 HBk2_7.out; generalize ak2_15.eval = ρ at e68_k2_15; simp only [vif, cond_true, cond_false, hG, hp0, hb0, hp1, hb1] at e68_k2_15; simp only [execOp]; go_simp) fun ak2_16 fk2_16 => ?_
          have e1_k2_16 := (fk2_16.other 1 (by decide)).trans e1_k2_15
          have e57_k2_16 := (fk2_16.other 57 (by decide)).trans e57_k2_15
          have e67_k2_16 := (fk2_16.other 67 (by decide)).trans e67_k2_15
          have e69_k2_16 : ak2_16.eval (.tmp 69) = vif Gk2_15 (.agg #[.int .i64 m.q.c, .int .i64 m.q.s, .int .i64 m.q.kind, .string m.q.key, .float .f64 m.q.b, .int .i64 m.q.id]) := fk2_16.own
          have zk2_16 := fk2_16.sz
          have dk2_16 := fk2_16.df.trans dk2_15
          clear fk2_16 e1_k2_15 e57_k2_15 e67_k2_15 e68_k2_15 zk2_15 dk2_15
          refine fr_gc zk2_16 (t := 70) (by decide) rfl ((fr_w (k := 14) (b := false) (t := 67) rfl rfl e67_k2_16).trans hGk2_15.out.symm) 88 #[.agg #[.int .i64 m.q.c, .int .i64 m.q.s, .int .i64 m.q.kind, .string m.q.key, .float .f64 m.q.b, .int .i64 m.q.id]] (v := .bool m.q.nil) (fun hG => by obtain ⟨hp0, hb0⟩ := iGk2_15.out hG; obtain ⟨hp1, hb1⟩ := iGk2_5.out hp0; have hf : ak2_16.eval (.func 88) = .func (.func 88) #[] #[] := rfl; generalize ak2_16.eval = ρ at hf e69_k2_16; simp only [vif, cond_true, cond_false, hG, hp0, hb0, hp1, hb1] at e69_k2_16; simp only [execOp]; go_simp) (fun hG => CN.out uk2_7) fun ak2_17 uk2_17 blk2_17 fk2_17 => ?_
          have HBk2_17 := Lib.hid (bthen HBk2_7.out blk2_17)
          clear blk2_17
          have e1_k2_17 := (fk2_17.other 1 (by decide)).trans e1_k2_16
          have e57_k2_17 := (fk2_17.other 57 (by decide)).trans e57_k2_16
          have e67_k2_17 := (fk2_17.other 67 (by decide)).trans e67_k2_16
          have e70_k2_17 : ak2_17.eval (.tmp 70) = vif Gk2_15 (.bool m.q.nil) := fk2_17.own
          have zk2_17 := fk2_17.sz
          have dk2_17 := fk2_17.df.trans dk2_16
          clear fk2_17 e1_k2_16 e57_k2_16 e67_k2_16 e69_k2_16 zk2_16 dk2_16
          refine fr_g zk2_17 (t := 71) (by decide) rfl ((fr_w (k := 14) (b := false) (t := 67) rfl rfl e67_k2_17).trans hGk2_15.out.symm) (v := .bool m.q.nil) (fun hG => by obtain ⟨hp0, hb0⟩ := iGk2_15.out hG; obtain ⟨hp1, hb1⟩ := iGk2_5.out hp0; generalize ak2_17.eval = ρ at e70_k2_17; simp only [vif, cond_true, cond_false, hG, hp0, hb0, hp1, hb1] at e70_k2_17; simp only [execOp]; go_simp) fun ak2_18 fk2_18 => ?_
          have e1_k2_18 := (fk2_18.other 1 (by decide)).trans e1_k2_17
          have e57_k2_18 := (fk2_18.other 57 (by decide)).trans e57_k2_17
          have e67_k2_18 := (fk2_18.other 67 (by decide)).trans e67_k2_17
          have e71_k2_18 : ak2_18.eval (.tmp 71) = vif Gk2_15 (.bool m.q.nil) := fk2_18.own
          have zk2_18 := fk2_18.sz
          have dk2_18 := fk2_18.df.trans dk2_17
          clear fk2_18 e1_k2_17 e57_k2_17 e67_k2_17 e70_k2_17 zk2_17 dk2_17
          obtain ⟨Gk2_19, hGk2_19⟩ : ∃ G, Hid (G = (Gk2_15 && (m.q.nil == true))) := ⟨_, Lib.hid rfl⟩
          have iGk2_19 := Lib.hid (show Gk2_19 = true → Gk2_15 = true ∧ m.q.nil = true from fun h => by rw [hGk2_19.out] at h; simpa using h)
          refine fr_g zk2_18 (t := 72) (by decide) rfl ((fr_w (k := 18) (b := true) (t := 71) rfl rfl e71_k2_18).trans hGk2_19.out.symm) (v := .pointer (some ⟨w.heap.size, 14, none⟩)) (fun hG => by obtain ⟨hp0, hb0⟩ := iGk2_19.out hG; obtain ⟨hp1, hb1⟩ := iGk2_15.out hp0; obtain ⟨hp2, hb2⟩ := iGk2_5.out hp1; generalize ak2_18.eval = ρ at e1_k2_18; simp only [execOp]; go_simp) fun ak2_19 fk2_19 => ?_
          have e1_k2_19 := (fk2_19.other 1 (by decide)).trans e1_k2_18
          have e57_k2_19 := (fk2_19.other 57 (by decide)).trans e57_k2_18
          have e67_k2_19 := (fk2_19.other 67 (by decide)).trans e67_k2_18
          have e71_k2_19 := (fk2_19.other 71 (by decide)).trans e71_k2_18
          have e72_k2_19 : ak2_19.eval (.tmp 72) = vif Gk2_19 (.pointer (some ⟨w.heap.size, 14, none⟩)) := fk2_19.own
          have zk2_19 := fk2_19.sz
          have dk2_19 := fk2_19.df.trans dk2_18
          clear fk2_19 e1_k2_18 e57_k2_18 e67_k2_18 e71_k2_18 zk2_18 dk2_18
          refine fr_g zk2_19 (t := 73) (by decide) rfl ((fr_w (k := 18) (b := true) (t := 71) rfl rfl e71_k2_19).trans hGk2_19.out.symm) (v := .slice a2 m.sg.length c2) (fun hG => by obtain ⟨hp0, hb0⟩ := iGk2_19.out hG; obtain ⟨hp1, hb1⟩ := iGk2_15.out hp0; obtain ⟨hp2, hb2⟩ := iGk2_5.out hp1; have y14 := X14.out uk2_17 HBk2_17.out; generalize ak2_19.eval = ρ at e72_k2_19; simp only [vif, cond_true, cond_false, hG, hp0, hb0, hp1, hb1, hp2, hb2] at e72_k2_19; simp only [execOp]; go_simp) fun ak2_20 fk2_20 => ?_
          have e1_k2_20 := (fk2_20.other 1 (by decide)).trans e1_k2_19
          have e57_k2_20 := (fk2_20.other 57 (by decide)).trans e57_k2_19
          have e67_k2_20 := (fk2_20.other 67 (by decide)).trans e67_k2_19
          have e71_k2_20 := (fk2_20.other 71 (by decide)).trans e71_k2_19
          have e73_k2_20 : ak2_20.eval (.tmp 73) = vif Gk2_19 (.slice a2 m.sg.length c2) := fk2_20.own
          have zk2_20 := fk2_20.sz
          have dk2_20 := fk2_20.df.trans dk2_19
          clear fk2_20 e1_k2_19 e57_k2_19 e67_k2_19 e71_k2_19 e72_k2_19 zk2_19 dk2_19
          refine fr_g zk2_20 (t := 74) (by decide) rfl ((fr_w (k := 18) (b := true) (t := 71) rfl rfl e71_k2_20).trans hGk2_19.out.symm) (v := .int .i64 m.sg.length) (fun hG => by obtain ⟨hp0, hb0⟩ := iGk2_19.out hG; obtain ⟨hp1, hb1⟩ := iGk2_15.out hp0; obtain ⟨hp2, hb2⟩ := iGk2_5.out hp1; generalize ak2_20.eval = ρ at e73_k2_20; simp only [vif, cond_true, cond_false, hG, hp0, hb0, hp1, hb1, hp2, hb2] at e73_k2_20; simp only [execOp]; go_simp) fun ak2_21 fk2_21 => ?_
          have e1_k2_21 := (fk2_21.other 1 (by decide)).trans e1_k2_20
          have e57_k2_21 := (fk2_21.other 57 (by decide)).trans e57_k2_20
          have e67_k2_21 := (fk2_21.other 67 (by decide)).trans e67_k2_20
          have e71_k2_21 := (fk2_21.other 71 (by decide)).trans e71_k2_20
          have e74_k2_21 : ak2_21.eval (.tmp 74) = vif Gk2_19 (.int .i64 m.sg.length) := fk2_21.own
          have zk2_21 := fk2_21.sz
          have dk2_21 := fk2_21.df.trans dk2_20
          clear fk2_21 e1_k2_20 e57_k2_20 e67_k2_20 e71_k2_20 e73_k2_20 zk2_20 dk2_20
          obtain ⟨Bk2_22, hBk2_22⟩ : ∃ B, Hid (B = ((m.sg.length : Int) == 0)) := ⟨_, Lib.hid rfl⟩
          refine fr_g zk2_21 (t := 75) (by decide) rfl ((fr_w (k := 18) (b := true) (t := 71) rfl rfl e71_k2_21).trans hGk2_19.out.symm) (v := .bool Bk2_22) (fun hG => by obtain ⟨hp0, hb0⟩ := iGk2_19.out hG; obtain ⟨hp1, hb1⟩ := iGk2_15.out hp0; obtain ⟨hp2, hb2⟩ := iGk2_5.out hp1; have hc0 : ak2_21.eval (.const (.int .i64 0)) = .int .i64 0 := rfl; generalize ak2_21.eval = ρ at e74_k2_21 hc0; simp only [vif, cond_true, cond_false, hG, hp0, hb0, hp1, hb1, hp2, hb2] at e74_k2_21; rw [hBk2_22.out]; simp only [execOp]; go_simp) fun ak2_22 fk2_22 => ?_
          have e1_k2_22 := (fk2_22.other 1 (by decide)).trans e1_k2_21
          have e57_k2_22 := (fk2_22.other 57 (by decide)).trans e57_k2_21
          have e67_k2_22 := (fk2_22.other 67 (by decide)).trans e67_k2_21
          have e71_k2_22 := (fk2_22.other 71 (by decide)).trans e71_k2_21
          have e75_k2_22 : ak2_22.eval (.tmp 75) = vif Gk2_19 (.bool Bk2_22) := fk2_22.own
          have zk2_22 := fk2_22.sz
          have dk2_22 := fk2_22.df.trans dk2_21
          clear fk2_22 e1_k2_21 e57_k2_21 e67_k2_21 e71_k2_21 e74_k2_21 zk2_21 dk2_21
          obtain ⟨Bk2_23, hBk2_23⟩ : ∃ B, Hid (B = ((m.q.nil && Bk2_22))) := ⟨_, Lib.hid rfl⟩
          refine fr_g zk2_22 (t := 76) (by decide) rfl ((fr_w (k := 14) (b := false) (t := 67) rfl rfl e67_k2_22).trans hGk2_15.out.symm) (v := .bool Bk2_23) (fun hG => by obtain ⟨hp0, hb0⟩ := iGk2_15.out hG; obtain ⟨hp1, hb1⟩ := iGk2_5.out hp0; have hc0 : ak2_22.eval (.const (.bool false)) = .bool false := rfl; generalize ak2_22.eval = ρ at e71_k2_22 e75_k2_22 hc0; rw [hBk2_23.out]; cases hcs : m.q.nil <;> simp only [execOp, vif, cond_true, cond_false, Bool.true_and, Bool.false_and, Bool.true_or, Bool.false_or, beq_self_eq_true, hGk2_2.out, hGk2_5.out, hGk2_9.out, hGk2_15.out, hGk2_19.out, hG, hp0, hb0, hp1, hb1, hcs] at e71_k2_22 e75_k2_22 ⊢ <;> go_simp) fun ak2_23 fk2_23 => ?_
          have e1_k2_23 := (fk2_23.other 1 (by decide)).trans e1_k2_22
          have e57_k2_23 := (fk2_23.other 57 (by decide)).trans e57_k2_22
          have e67_k2_23 := (fk2_23.other 67 (by decide)).trans e67_k2_22
          have e76_k2_23 : ak2_23.eval (.tmp 76) = vif Gk2_15 (.bool Bk2_23) := fk2_23.own
          have zk2_23 := fk2_23.sz
          have dk2_23 := fk2_23.df.trans dk2_22
          clear fk2_23 e1_k2_22 e57_k2_22 e67_k2_22 e71_k2_22 e75_k2_22 zk2_22 dk2_22
          obtain ⟨Bk2_24, hBk2_24⟩ : ∃ B, Hid (B = ((Bk2_13 || Bk2_23))) := ⟨_, Lib.hid rfl⟩
          refine fr_g zk2_23 (t := 77) (by decide) rfl ((fr_w0 (k := 4) (b := true) (t := 57) rfl rfl e57_k2_23).trans hGk2_5.out.symm) (v := .bool Bk2_24) (fun hG => by obtain ⟨hp0, hb0⟩ := iGk2_5.out hG; have hc0 : ak2_23.eval (.const (.bool true)) = .bool true := rfl; generalize ak2_23.eval = ρ at e67_k2_23 e76_k2_23 hc0; rw [hBk2_24.out]; cases Bk2_13 <;> simp only [execOp, vif, cond_true, cond_false, Bool.true_and, Bool.false_and, Bool.true_or, Bool.false_or, beq_self_eq_true, hGk2_2.out, hGk2_5.out, hGk2_9.out, hGk2_15.out, hGk2_19.out, hG, hp0, hb0] at e67_k2_23 e76_k2_23 ⊢ <;> go_simp) fun ak2_24 fk2_24 => ?_
          have e1_k2_24 := (fk2_24.other 1 (by decide)).trans e1_k2_23
          have e57_k2_24 := (fk2_24.other 57 (by decide)).trans e57_k2_23
          have e77_k2_24 : ak2_24.eval (.tmp 77) = vif Gk2_5 (.bool Bk2_24) := fk2_24.own
          have zk2_24 := fk2_24.sz
          have dk2_24 := fk2_24.df.trans dk2_23
          clear fk2_24 e1_k2_23 e57_k2_23 e67_k2_23 e76_k2_23 zk2_23 dk2_23
          obtain ⟨Bk2_25, hBk2_25⟩ : ∃ B, Hid (B = ((Bk2_3 && Bk2_24))) := ⟨_, Lib.hid rfl⟩
          refine fr_g zk2_24 (t := 78) (by decide) rfl (by rfl) (v := .bool Bk2_25) (fun hG => by have hc0 : ak2_24.eval (.const (.bool false)) = .bool false := rfl; generalize ak2_24.eval = ρ at e57_k2_24 e77_k2_24 hc0; rw [hBk2_25.out]; cases Bk2_3 <;> simp only [execOp, vif, cond_true, cond_false, Bool.true_and, Bool.false_and, Bool.true_or, Bool.false_or, beq_self_eq_true, hGk2_2.out, hGk2_5.out, hGk2_9.out, hGk2_15.out, hGk2_19.out] at e77_k2_24 ⊢ <;> go_simp) fun ak2_25 fk2_25 => ?_
          have e1_k2_25 := (fk2_25.other 1 (by decide)).trans e1_k2_24
          have e78_k2_25 : ak2_25.eval (.tmp 78) = .bool Bk2_25 := fk2_25.own
          have zk2_25 := fk2_25.sz
          have dk2_25 := fk2_25.df.trans dk2_24
          clear fk2_25 e1_k2_24 e57_k2_24 e77_k2_24 zk2_24 dk2_24
          refine fr_g zk2_25 (t := 79) (by decide) rfl (by rfl) (v := .bool Bk2_25) (fun hG => by generalize ak2_25.eval = ρ at e78_k2_25; simp only [execOp]; go_simp) fun ak2_26 fk2_26 => ?_
          have e1_k2_26 := (fk2_26.other 1 (by decide)).trans e1_k2_25
          have e79_k2_26 : ak2_26.eval (.tmp 79) = .bool Bk2_25 := fk2_26.own
          have zk2_26 := fk2_26.sz
          have dk2_26 := fk2_26.df.trans dk2_25
          clear fk2_26 e1_k2_25 e78_k2_25 zk2_25 dk2_25
          obtain ⟨Gk2_27, hGk2_27⟩ : ∃ G, Hid (G = (true && (Bk2_25 == true))) := ⟨_, Lib.hid rfl⟩
          have iGk2_27 := Lib.hid (show Gk2_27 = true → true = true ∧ Bk2_25 = true from fun h => by rw [hGk2_27.out] at h; simpa using h)
          refine fr_g zk2_26 (t := 80) (by decide) rfl ((fr_w0 (k := 26) (b := true) (t := 79) rfl rfl e79_k2_26).trans hGk2_27.out.symm) (v := .agg CS) (fun _ => load_row _ _ (.tmp 1) Tryz.underlying35 rfl HI.out rfl e1_k2_26 (KB.out uk2_17 HBk2_17.out)) fun ak2_27 fk2_27 => ?_
          have e1_k2_27 := (fk2_27.other 1 (by decide)).trans e1_k2_26
          have e79_k2_27 := (fk2_27.other 79 (by decide)).trans e79_k2_26
          have e80_k2_27 : ak2_27.eval (.tmp 80) = vif Gk2_27 (.agg CS) := fk2_27.own
          have zk2_27 := fk2_27.sz
          have dk2_27 := fk2_27.df.trans dk2_26
          clear fk2_27 e1_k2_26 e79_k2_26 zk2_26 dk2_26
          refine fr_gc zk2_27 (t := 81) (by decide) rfl ((fr_w0 (k := 26) (b := true) (t := 79) rfl rfl e79_k2_27).trans hGk2_27.out.symm) 87 #[.agg CS, .string ⟨#[118, 115, 114, 103]⟩] (v := .bool (restB { v := true, s := true, q := true, sg := true } m)) (fun hG => by obtain ⟨hp0, hb0⟩ := iGk2_27.out hG; have hc0 : ak2_27.eval (.const (.string ⟨#[118, 115, 114, 103]⟩)) = .string ⟨#[118, 115, 114, 103]⟩ := rfl; have hf : ak2_27.eval (.func 87) = .func (.func 87) #[] #[] := rfl; generalize ak2_27.eval = ρ at hf e80_k2_27 hc0; simp only [vif, cond_true, cond_false, hG, hp0, hb0] at e80_k2_27; simp only [execOp]; go_simp) (fun hG => CZvsrg.out uk2_17 HBk2_17.out) fun ak2_28 uk2_28 blk2_28 fk2_28 => ?_
          have HBk2_28 := Lib.hid (bthen HBk2_17.out blk2_28)
          clear blk2_28
          have e1_k2_28 := (fk2_28.other 1 (by decide)).trans e1_k2_27
          have e79_k2_28 := (fk2_28.other 79 (by decide)).trans e79_k2_27
          have e81_k2_28 : ak2_28.eval (.tmp 81) = vif Gk2_27 (.bool (restB { v := true, s := true, q := true, sg := true } m)) := fk2_28.own
          have zk2_28 := fk2_28.sz
          have dk2_28 := fk2_28.df.trans dk2_27
          clear fk2_28 e1_k2_27 e79_k2_27 e80_k2_27 zk2_27 dk2_27
          obtain ⟨Bk2_29, hBk2_29⟩ : ∃ B, Hid (B = ((Bk2_25 && (restB { v := true, s := true, q := true, sg := true } m)))) := ⟨_, Lib.hid rfl⟩
          refine fr_g zk2_28 (t := 82) (by decide) rfl (by rfl) (v := .bool Bk2_29) (fun hG => by have hc0 : ak2_28.eval (.const (.bool false)) = .bool false := rfl; generalize ak2_28.eval = ρ at e79_k2_28 e81_k2_28 hc0; rw [hBk2_29.out]; cases Bk2_25 <;> simp only [execOp, vif, cond_true, cond_false, Bool.true_and, Bool.false_and, Bool.true_or, Bool.false_or, beq_self_eq_true, hGk2_2.out, hGk2_5.out, hGk2_9.out, hGk2_15.out, hGk2_19.out, hGk2_27.out] at e81_k2_28 ⊢ <;> go_simp) fun ak2_29 fk2_29 => ?_
          have e1_k2_29 := (fk2_29.other 1 (by decide)).trans e1_k2_28
          have e82_k2_29 : ak2_29.eval (.tmp 82) = .bool Bk2_29 := fk2_29.own
          have zk2_29 := fk2_29.sz
          have dk2_29 := fk2_29.df.trans dk2_28
          clear fk2_29 e1_k2_28 e79_k2_28 e81_k2_28 zk2_28 dk2_28
          refine fr_g zk2_29 (t := 5) (by decide) rfl (by rfl) (v := .bool Bk2_29) (fun hG => by generalize ak2_29.eval = ρ at e82_k2_29; simp only [execOp]; go_simp) fun ak2_30 fk2_30 => ?_
          have e1_k2_30 := (fk2_30.other 1 (by decide)).trans e1_k2_29
          have e5_k2_30 : ak2_30.eval (.tmp 5) = .bool Bk2_29 := fk2_30.own
          have zk2_30 := fk2_30.sz
          have dk2_30 := fk2_30.df.trans dk2_29
          clear fk2_30 e1_k2_29 e82_k2_29 zk2_29 dk2_29
          have hv : Bk2_29 = okR m := by
            rw [hok]
            unfold okR2
            simp only [hBk2_29.out, hBk2_25.out, hBk2_24.out, hBk2_23.out, hBk2_22.out, hBk2_13.out, hBk2_12.out, hBk2_3.out]
            try (simp [Bool.and_assoc])
          exact hQ _ _ ⟨zk2_30, dk2_30, HBk2_28.out, e1_k2_30, by rw [e5_k2_30, hv]⟩
        intro a' w' h
        exact hQ0 _ _ h
      clear et
      refine wp_seq ?_
      refine fr_region (fun a' w' => a'.tmps.size = 268 ∧ a'.defers = [] ∧ Below w1.heap.size w1 w' ∧ a'.eval (.tmp 1) = .pointer (some ⟨w.heap.size, 0, none⟩) ∧ a'.eval (.tmp 3) = .bool (decide (0 ≤ m.v) && decide (m.v ≤ 15)) ∧ a'.eval (.tmp 4) = .bool (ofR m.e m.s) ∧ a'.eval (.tmp 30) = .int .i64 m.k ∧ a'.eval (.tmp 83) = .bool (m.k == 3)) (fun Q' hQ => ?_) ?_
      · skip
        refine fr_g hsz (t := 84) (by decide) rfl (by rfl) (v := .bool (m.k == 3)) (fun hG => by have hc0 : af.eval (.const (.int .i64 3)) = .int .i64 3 := rfl; generalize af.eval = ρ at e30 hc0; simp only [execOp]; go_simp) fun at3_0 ft3_0 => ?_
        have e1_t3_0 := (ft3_0.other 1 (by decide)).trans e1
        have e3_t3_0 := (ft3_0.other 3 (by decide)).trans e3
        have e4_t3_0 := (ft3_0.other 4 (by decide)).trans e4
        have e30_t3_0 := (ft3_0.other 30 (by decide)).trans e30
        have e84_t3_0 : at3_0.eval (.tmp 84) = .bool (m.k == 3) := ft3_0.own
        have zt3_0 := ft3_0.sz
        have dt3_0 := ft3_0.df.trans hdf
        clear ft3_0 e1 e3 e4 e30 hsz hdf
        refine fr_g zt3_0 (t := 83) (by decide) rfl (by rfl) (v := .bool (m.k == 3)) (fun hG => by generalize at3_0.eval = ρ at e84_t3_0; simp only [execOp]; go_simp) fun at3_1 ft3_1 => ?_
        have e1_t3_1 := (ft3_1.other 1 (by decide)).trans e1_t3_0
        have e3_t3_1 := (ft3_1.other 3 (by decide)).trans e3_t3_0
        have e4_t3_1 := (ft3_1.other 4 (by decide)).trans e4_t3_0
        have e30_t3_1 := (ft3_1.other 30 (by decide)).trans e30_t3_0
        have e83_t3_1 : at3_1.eval (.tmp 83) = .bool (m.k == 3) := ft3_1.own
        have zt3_1 := ft3_1.sz
        have dt3_1 := ft3_1.df.trans dt3_0
        clear ft3_1 e1_t3_0 e3_t3_0 e4_t3_0 e30_t3_0 e84_t3_0 zt3_0 dt3_0
        exact hQ _ _ ⟨zt3_1, dt3_1, HB.out, e1_t3_1, e3_t3_1, e4_t3_1, e30_t3_1, e83_t3_1⟩
      clear e3 e4 e30 hsz hdf e1 HB
      rintro af wf ⟨hsz, hdf, hb, e1, e3, e4, e30, et⟩
      have HB := Lib.hid hb
      clear hb
      show Code.wp Tryz.prog _ _ af wf
      refine wp_cond_split et (fun ht => ?_) (fun hf3 => ?_)
      · have h : m.k = 3 := by simpa using ht
        have hok : okR m = okR3 m := by unfold okR; rw [if_neg (by omega), if_neg (by omega), if_pos h]
        clear h hk et ht
        clear e30
        refine fr_region (fun a' w' => a'.tmps.size = 268 ∧ a'.defers = [] ∧ Below w1.heap.size w1 w' ∧ a'.eval (.tmp 1) = .pointer (some ⟨w.heap.size, 0, none⟩) ∧ a'.eval (.tmp 5) = .bool (okR m)) (fun Q' hQ => ?_) ?_
        · skip
          refine fr_g hsz (t := 85) (by decide) rfl (by rfl) (v := .bool (decide (0 ≤ m.v) && decide (m.v ≤ 15))) (fun hG => by generalize af.eval = ρ at e3; simp only [execOp]; go_simp) fun ak3_0 fk3_0 => ?_
          have e1_k3_0 := (fk3_0.other 1 (by decide)).trans e1
          have e4_k3_0 := (fk3_0.other 4 (by decide)).trans e4
          have e85_k3_0 : ak3_0.eval (.tmp 85) = .bool (decide (0 ≤ m.v) && decide (m.v ≤ 15)) := fk3_0.own
          have zk3_0 := fk3_0.sz
          have dk3_0 := fk3_0.df.trans hdf
          clear fk3_0 e1 e3 e4 hsz hdf
          refine fr_g zk3_0 (t := 86) (by decide) rfl (by rfl) (v := .bool (decide (0 ≤ m.v) && decide (m.v ≤ 15))) (fun hG => by generalize ak3_0.eval = ρ at e85_k3_0; simp only [execOp]; go_simp) fun ak3_1 fk3_1 => ?_
          have e1_k3_1 := (fk3_1.other 1 (by decide)).trans e1_k3_0
          have e4_k3_1 := (fk3_1.other 4 (by decide)).trans e4_k3_0
          have e86_k3_1 : ak3_1.eval (.tmp 86) = .bool (decide (0 ≤ m.v) && decide (m.v ≤ 15)) := fk3_1.own
          have zk3_1 := fk3_1.sz
          have dk3_1 := fk3_1.df.trans dk3_0
          clear fk3_1 e1_k3_0 e4_k3_0 e85_k3_0 zk3_0 dk3_0
          obtain ⟨Gk3_2, hGk3_2⟩ : ∃ G, Hid (G = (true && ((decide (0 ≤ m.v) && decide (m.v ≤ 15)) == true))) := ⟨_, Lib.hid rfl⟩
          have iGk3_2 := Lib.hid (show Gk3_2 = true → true = true ∧ (decide (0 ≤ m.v) && decide (m.v ≤ 15)) = true from fun h => by rw [hGk3_2.out] at h; simpa using h)
          refine fr_g zk3_1 (t := 87) (by decide) rfl ((fr_w0 (k := 1) (b := true) (t := 86) rfl rfl e86_k3_1).trans hGk3_2.out.symm) (v := .bool (ofR m.e m.s)) (fun hG => by obtain ⟨hp0, hb0⟩ := iGk3_2.out hG; generalize ak3_1.eval = ρ at e4_k3_1; simp only [execOp]; go_simp) fun ak3_2 fk3_2 => ?_
          have e1_k3_2 := (fk3_2.other 1 (by decide)).trans e1_k3_1
          have e86_k3_2 := (fk3_2.other 86 (by decide)).trans e86_k3_1
          have e87_k3_2 : ak3_2.eval (.tmp 87) = vif Gk3_2 (.bool (ofR m.e m.s)) := fk3_2.own
          have zk3_2 := fk3_2.sz
          have dk3_2 := fk3_2.df.trans dk3_1
          clear fk3_2 e1_k3_1 e4_k3_1 e86_k3_1 zk3_1 dk3_1
          obtain ⟨Bk3_3, hBk3_3⟩ : ∃ B, Hid (B = (((decide (0 ≤ m.v) && decide (m.v ≤ 15)) && (ofR m.e m.s)))) := ⟨_, Lib.hid rfl⟩
          refine fr_g zk3_2 (t := 88) (by decide) rfl (by rfl) (v := .bool Bk3_3) (fun hG => by have hc0 : ak3_2.eval (.const (.bool false)) = .bool false := rfl; generalize ak3_2.eval = ρ at e86_k3_2 e87_k3_2 hc0; rw [hBk3_3.out]; cases hcs : (decide (0 ≤ m.v) && decide (m.v ≤ 15)) <;> simp only [execOp, vif, cond_true, cond_false, Bool.true_and, Bool.false_and, Bool.true_or, Bool.false_or, beq_self_eq_true, hGk3_2.out, hcs] at e87_k3_2 ⊢ <;> go_simp) fun ak3_3 fk3_3 => ?_
          have e1_k3_3 := (fk3_3.other 1 (by decide)).trans e1_k3_2
          have e88_k3_3 : ak3_3.eval (.tmp 88) = .bool Bk3_3 := fk3_3.own
          have zk3_3 := fk3_3.sz
          have dk3_3 := fk3_3.df.trans dk3_2
          clear fk3_3 e1_k3_2 e86_k3_2 e87_k3_2 zk3_2 dk3_2
          refine fr_g zk3_3 (t := 89) (by decide) rfl (by rfl) (v := .bool Bk3_3) (fun hG => by generalize ak3_3.eval = ρ at e88_k3_3; simp only [execOp]; go_simp) fun ak3_4 fk3_4 => ?_
          have e1_k3_4 := (fk3_4.other 1 (by decide)).trans e1_k3_3
          have e89_k3_4 : ak3_4.eval (.tmp 89) = .bool Bk3_3 := fk3_4.own
          have zk3_4 := fk3_4.sz
          have dk3_4 := fk3_4.df.trans dk3_3
          clear fk3_4 e1_k3_3 e88_k3_3 zk3_3 dk3_3
          obtain ⟨Gk3_5, hGk3_5⟩ : ∃ G, Hid (G = (true && (Bk3_3 == true))) := ⟨_, Lib.hid rfl⟩
          have iGk3_5 := Lib.hid (show Gk3_5 = true → true = true ∧ Bk3_3 = true from fun h => by rw [hGk3_5.out] at h; simpa using h)
          refine fr_g zk3_4 (t := 90) (by decide) rfl ((fr_w0 (k := 4) (b := true) (t := 89) rfl rfl e89_k3_4).trans hGk3_5.out.symm) (v := .pointer (some ⟨w.heap.size, 4, none⟩)) (fun hG => by obtain ⟨hp0, hb0⟩ := iGk3_5.out hG; generalize ak3_4.eval = ρ at e1_k3_4; simp only [execOp]; go_simp) fun ak3_5 fk3_5 => ?_
          have e1_k3_5 := (fk3_5.other 1 (by decide)).trans e1_k3_4
          have e89_k3_5 := (fk3_5.other 89 (by decide)).trans e89_k3_4
          have e90_k3_5 : ak3_5.eval (.tmp 90) = vif Gk3_5 (.pointer (some ⟨w.heap.size, 4, none⟩)) := fk3_5.own
          have zk3_5 := fk3_5.sz
          have dk3_5 := fk3_5.df.trans dk3_4
          clear fk3_5 e1_k3_4 e89_k3_4 zk3_4 dk3_4
          refine fr_g zk3_5 (t := 91) (by decide) rfl ((fr_w0 (k := 4) (b := true) (t := 89) rfl rfl e89_k3_5).trans hGk3_5.out.symm) (v := .agg #[.int .i64 m.q.c, .int .i64 m.q.s, .int .i64 m.q.kind, .string m.q.key, .float .f64 m.q.b, .int .i64 m.q.id]) (fun hG => by obtain ⟨hp0, hb0⟩ := iGk3_5.out hG; have y4 := X4.out wf HB.out; have y5 := X5.out wf HB.out; have y6 := X6.out wf HB.out; have y7 := X7.out wf HB.out; have y8 := X8.out wf HB.out; have y9 := X9.out wf HB.out; generalize ak3_5.eval = ρ at e90_k3_5; simp only [vif, cond_true, cond_false, hG, hp0, hb0] at e90_k3_5; simp only [execOp]; go_simp) fun ak3_6 fk3_6 => ?_
          have e1_k3_6 := (fk3_6.other 1 (by decide)).trans e1_k3_5
          have e89_k3_6 := (fk3_6.other 89 (by decide)).trans e89_k3_5
          have e91_k3_6 : ak3_6.eval (.tmp 91) = vif Gk3_5 (.agg #[.int .i64 m.q.c, .int .i64 m.q.s, .int .i64 m.q.kind, .string m.q.key, .float .f64 m.q.b, .int .i64 m.q.id]) := fk3_6.own
          have zk3_6 := fk3_6.sz
          have dk3_6 := fk3_6.df.trans dk3_5
          clear fk3_6 e1_k3_5 e89_k3_5 e90_k3_5 zk3_5 dk3_5
          refine fr_gc zk3_6 (t := 92) (by decide) rfl ((fr_w0 (k := 4) (b := true) (t := 89) rfl rfl e89_k3_6).trans hGk3_5.out.symm) 89 #[.agg #[.int .i64 m.q.c, .int .i64 m.q.s, .int .i64 m.q.kind, .string m.q.key, .float .f64 m.q.b, .int .i64 m.q.id]] (v := .bool (askB m.q)) (fun hG => by obtain ⟨hp0, hb0⟩ := iGk3_5.out hG; have hf : ak3_6.eval (.func 89) = .func (.func 89) #[] #[] := rfl; generalize ak3_6.eval = ρ at hf e91_k3_6; simp only [vif, cond_true, cond_false, hG, hp0, hb0] at e91_k3_6; simp only [execOp]; go_simp) (fun hG => CA.out wf) fun ak3_7 uk3_7 blk3_7 fk3_7 => ?_
          have HBk3_7 := Lib.hid (bthen HB.out blk3_7)
          clear blk3_7
          have e1_k3_7 := (fk3_7.other 1 (by decide)).trans e1_k3_6
          have e89_k3_7 := (fk3_7.other 89 (by decide)).trans e89_k3_6
          have e92_k3_7 : ak3_7.eval (.tmp 92) = vif Gk3_5 (.bool (askB m.q)) := fk3_7.own
          have zk3_7 := fk3_7.sz
          have dk3_7 := fk3_7.df.trans dk3_6
          clear fk3_7 e1_k3_6 e89_k3_6 e91_k3_6 zk3_6 dk3_6
          obtain ⟨Bk3_8, hBk3_8⟩ : ∃ B, Hid (B = ((Bk3_3 && (askB m.q)))) := ⟨_, Lib.hid rfl⟩
          refine fr_g zk3_7 (t := 93) (by decide) rfl (by rfl) (v := .bool Bk3_8) (fun hG => by have hc0 : ak3_7.eval (.const (.bool false)) = .bool false := rfl; generalize ak3_7.eval = ρ at e89_k3_7 e92_k3_7 hc0; rw [hBk3_8.out]; cases Bk3_3 <;> simp only [execOp, vif, cond_true, cond_false, Bool.true_and, Bool.false_and, Bool.true_or, Bool.false_or, beq_self_eq_true, hGk3_2.out, hGk3_5.out] at e92_k3_7 ⊢ <;> go_simp) fun ak3_8 fk3_8 => ?_
          have e1_k3_8 := (fk3_8.other 1 (by decide)).trans e1_k3_7
          have e93_k3_8 : ak3_8.eval (.tmp 93) = .bool Bk3_8 := fk3_8.own
          have zk3_8 := fk3_8.sz
          have dk3_8 := fk3_8.df.trans dk3_7
          clear fk3_8 e1_k3_7 e89_k3_7 e92_k3_7 zk3_7 dk3_7
          refine fr_g zk3_8 (t := 94) (by decide) rfl (by rfl) (v := .bool Bk3_8) (fun hG => by generalize ak3_8.eval = ρ at e93_k3_8; simp only [execOp]; go_simp) fun ak3_9 fk3_9 => ?_
          have e1_k3_9 := (fk3_9.other 1 (by decide)).trans e1_k3_8
          have e94_k3_9 : ak3_9.eval (.tmp 94) = .bool Bk3_8 := fk3_9.own
          have zk3_9 := fk3_9.sz
          have dk3_9 := fk3_9.df.trans dk3_8
          clear fk3_9 e1_k3_8 e93_k3_8 zk3_8 dk3_8
          obtain ⟨Gk3_10, hGk3_10⟩ : ∃ G, Hid (G = (true && (Bk3_8 == true))) := ⟨_, Lib.hid rfl⟩
          have iGk3_10 := Lib.hid (show Gk3_10 = true → true = true ∧ Bk3_8 = true from fun h => by rw [hGk3_10.out] at h; simpa using h)
          refine fr_g zk3_9 (t := 95) (by decide) rfl ((fr_w0 (k := 9) (b := true) (t := 94) rfl rfl e94_k3_9).trans hGk3_10.out.symm) (v := .pointer (some ⟨w.heap.size, 14, none⟩)) (fun hG => by obtain ⟨hp0, hb0⟩ := iGk3_10.out hG; generalize ak3_9.eval = ρ at e1_k3_9; simp only [execOp]; go_simp) fun ak3_10 fk3_10 => ?_
          have e1_k3_10 := (fk3_10.other 1 (by decide)).trans e1_k3_9
          have e94_k3_10 := (fk3_10.other 94 (by decide)).trans e94_k3_9
          have e95_k3_10 : ak3_10.eval (.tmp 95) = vif Gk3_10 (.pointer (some ⟨w.heap.size, 14, none⟩)) := fk3_10.own
          have zk3_10 := fk3_10.sz
          have dk3_10 := fk3_10.df.trans dk3_9
          clear fk3_10 e1_k3_9 e94_k3_9 zk3_9 dk3_9
          refine fr_g zk3_10 (t := 96) (by decide) rfl ((fr_w0 (k := 9) (b := true) (t := 94) rfl rfl e94_k3_10).trans hGk3_10.out.symm) (v := .slice a2 m.sg.length c2) (fun hG => by obtain ⟨hp0, hb0⟩ := iGk3_10.out hG; have y14 := X14.out uk3_7 HBk3_7.out; generalize ak3_10.eval = ρ at e95_k3_10; simp only [vif, cond_true, cond_false, hG, hp0, hb0] at e95_k3_10; simp only [execOp]; go_simp) fun ak3_11 fk3_11 => ?_
          have e1_k3_11 := (fk3_11.other 1 (by decide)).trans e1_k3_10
          have e94_k3_11 := (fk3_11.other 94 (by decide)).trans e94_k3_10
          have e96_k3_11 : ak3_11.eval (.tmp 96) = vif Gk3_10 (.slice a2 m.sg.length c2) := fk3_11.own
          have zk3_11 := fk3_11.sz
          have dk3_11 := fk3_11.df.trans dk3_10
          clear fk3_11 e1_k3_10 e94_k3_10 e95_k3_10 zk3_10 dk3_10
          refine fr_g zk3_11 (t := 97) (by decide) rfl ((fr_w0 (k := 9) (b := true) (t := 94) rfl rfl e94_k3_11).trans hGk3_10.out.symm) (v := .int .i64 m.sg.length) (fun hG => by obtain ⟨hp0, hb0⟩ := iGk3_10.out hG; generalize ak3_11.eval = ρ at e96_k3_11; simp only [vif, cond_true, cond_false, hG, hp0, hb0] at e96_k3_11; simp only [execOp]; go_simp) fun ak3_12 fk3_12 => ?_
          have e1_k3_12 := (fk3_12.other 1 (by decide)).trans e1_k3_11
          have e94_k3_12 := (fk3_12.other 94 (by decide)).trans e94_k3_11
          have e97_k3_12 : ak3_12.eval (.tmp 97) = vif Gk3_10 (.int .i64 m.sg.length) := fk3_12.own
          have zk3_12 := fk3_12.sz
          have dk3_12 := fk3_12.df.trans dk3_11
          clear fk3_12 e1_k3_11 e94_k3_11 e96_k3_11 zk3_11 dk3_11
          obtain ⟨Bk3_13, hBk3_13⟩ : ∃ B, Hid (B = ((m.sg.length : Int) == 1)) := ⟨_, Lib.hid rfl⟩
          refine fr_g zk3_12 (t := 98) (by decide) rfl ((fr_w0 (k := 9) (b := true) (t := 94) rfl rfl e94_k3_12).trans hGk3_10.out.symm) (v := .bool Bk3_13) (fun hG => by obtain ⟨hp0, hb0⟩ := iGk3_10.out hG; have hc0 : ak3_12.eval (.const (.int .i64 1)) = .int .i64 1 := rfl; generalize ak3_12.eval = ρ at e97_k3_12 hc0; simp only [vif, cond_true, cond_false, hG, hp0, hb0] at e97_k3_12; rw [hBk3_13.out]; simp only [execOp]; go_simp) fun ak3_13 fk3_13 => ?_
          have e1_k3_13 := (fk3_13.other 1 (by decide)).trans e1_k3_12
          have e94_k3_13 := (fk3_13.other 94 (by decide)).trans e94_k3_12
          have e98_k3_13 : ak3_13.eval (.tmp 98) = vif Gk3_10 (.bool Bk3_13) := fk3_13.own
          have zk3_13 := fk3_13.sz
          have dk3_13 := fk3_13.df.trans dk3_12
          clear fk3_13 e1_k3_12 e94_k3_12 e97_k3_12 zk3_12 dk3_12
          obtain ⟨Bk3_14, hBk3_14⟩ : ∃ B, Hid (B = ((Bk3_8 && Bk3_13))) := ⟨_, Lib.hid rfl⟩
          refine fr_g zk3_13 (t := 99) (by decide) rfl (by rfl) (v := .bool Bk3_14) (fun hG => by have hc0 : ak3_13.eval (.const (.bool false)) = .bool false := rfl; generalize ak3_13.eval = ρ at e94_k3_13 e98_k3_13 hc0; rw [hBk3_14.out]; cases Bk3_8 <;> simp only [execOp, vif, cond_true, cond_false, Bool.true_and, Bool.false_and, Bool.true_or, Bool.false_or, beq_self_eq_true, hGk3_2.out, hGk3_5.out, hGk3_10.out] at e98_k3_13 ⊢ <;> go_simp) fun ak3_14 fk3_14 => ?_
          have e1_k3_14 := (fk3_14.other 1 (by decide)).trans e1_k3_13
          have e99_k3_14 : ak3_14.eval (.tmp 99) = .bool Bk3_14 := fk3_14.own
          have zk3_14 := fk3_14.sz
          have dk3_14 := fk3_14.df.trans dk3_13
          clear fk3_14 e1_k3_13 e94_k3_13 e98_k3_13 zk3_13 dk3_13
          refine fr_g zk3_14 (t := 100) (by decide) rfl (by rfl) (v := .bool Bk3_14) (fun hG => by generalize ak3_14.eval = ρ at e99_k3_14; simp only [execOp]; go_simp) fun ak3_15 fk3_15 => ?_
          have e1_k3_15 := (fk3_15.other 1 (by decide)).trans e1_k3_14
          have e100_k3_15 : ak3_15.eval (.tmp 100) = .bool Bk3_14 := fk3_15.own
          have zk3_15 := fk3_15.sz
          have dk3_15 := fk3_15.df.trans dk3_14
          clear fk3_15 e1_k3_14 e99_k3_14 zk3_14 dk3_14
          obtain ⟨Gk3_16, hGk3_16⟩ : ∃ G, Hid (G = (true && (Bk3_14 == true))) := ⟨_, Lib.hid rfl⟩
          have iGk3_16 := Lib.hid (show Gk3_16 = true → true = true ∧ Bk3_14 = true from fun h => by rw [hGk3_16.out] at h; simpa using h)
          refine fr_g zk3_15 (t := 101) (by decide) rfl ((fr_w0 (k := 15) (b := true) (t := 100) rfl rfl e100_k3_15).trans hGk3_16.out.symm) (v := .agg CS) (fun _ => load_row _ _ (.tmp 1) Tryz.underlying35 rfl HI.out rfl e1_k3_15 (KB.out uk3_7 HBk3_7.out)) fun ak3_16 fk3_16 => ?_
          have e1_k3_16 := (fk3_16.other 1 (by decide)).trans e1_k3_15
          have e100_k3_16 := (fk3_16.other 100 (by decide)).trans e100_k3_15
          have e101_k3_16 : ak3_16.eval (.tmp 101) = vif Gk3_16 (.agg CS) := fk3_16.own
          have zk3_16 := fk3_16.sz
          have dk3_16 := fk3_16.df.trans dk3_15
          clear fk3_16 e1_k3_15 e100_k3_15 zk3_15 dk3_15
          refine fr_gc zk3_16 (t := 102) (by decide) rfl ((fr_w0 (k := 15) (b := true) (t := 100) rfl rfl e100_k3_16).trans hGk3_16.out.symm) 87 #[.agg CS, .string ⟨#[118, 115, 114, 103]⟩] (v := .bool (restB { v := true, s := true, q := true, sg := true } m)) (fun hG => by obtain ⟨hp0, hb0⟩ := iGk3_16.out hG; have hc0 : ak3_16.eval (.const (.string ⟨#[118, 115, 114, 103]⟩)) = .string ⟨#[118, 115, 114, 103]⟩ := rfl; have hf : ak3_16.eval (.func 87) = .func (.func 87) #[] #[] := rfl; generalize ak3_16.eval = ρ at hf e101_k3_16 hc0; simp only [vif, cond_true, cond_false, hG, hp0, hb0] at e101_k3_16; simp only [execOp]; go_simp) (fun hG => CZvsrg.out uk3_7 HBk3_7.out) fun ak3_17 uk3_17 blk3_17 fk3_17 => ?_
          have HBk3_17 := Lib.hid (bthen HBk3_7.out blk3_17)
          clear blk3_17
          have e1_k3_17 := (fk3_17.other 1 (by decide)).trans e1_k3_16
          have e100_k3_17 := (fk3_17.other 100 (by decide)).trans e100_k3_16
          have e102_k3_17 : ak3_17.eval (.tmp 102) = vif Gk3_16 (.bool (restB { v := true, s := true, q := true, sg := true } m)) := fk3_17.own
          have zk3_17 := fk3_17.sz
          have dk3_17 := fk3_17.df.trans dk3_16
          clear fk3_17 e1_k3_16 e100_k3_16 e101_k3_16 zk3_16 dk3_16
          obtain ⟨Bk3_18, hBk3_18⟩ : ∃ B, Hid (B = ((Bk3_14 && (restB { v := true, s := true, q := true, sg := true } m)))) := ⟨_, Lib.hid rfl⟩
          refine fr_g zk3_17 (t := 103) (by decide) rfl (by rfl) (v := .bool Bk3_18) (fun hG => by have hc0 : ak3_17.eval (.const (.bool false)) = .bool false := rfl; generalize ak3_17.eval = ρ at e100_k3_17 e102_k3_17 hc0; rw [hBk3_18.out]; cases Bk3_14 <;> simp only [execOp, vif, cond_true, cond_false, Bool.true_and, Bool.false_and, Bool.true_or, Bool.false_or, beq_self_eq_true, hGk3_2.out, hGk3_5.out, hGk3_10.out, hGk3_16.out] at e102_k3_17 ⊢ <;> go_simp) fun ak3_18 fk3_18 => ?_
          have e1_k3_18 := (fk3_18.other 1 (by decide)).trans e1_k3_17
          have e103_k3_18 : ak3_18.eval (.tmp 103) = .bool Bk3_18 := fk3_18.own
          have zk3_18 := fk3_18.sz
          have dk3_18 := fk3_18.df.trans dk3_17
          clear fk3_18 e1_k3_17 e100_k3_17 e102_k3_17 zk3_17 dk3_17
          refine fr_g zk3_18 (t := 5) (by decide) rfl (by rfl) (v := .bool Bk3_18) (fun hG => by generalize ak3_18.eval = ρ at e103_k3_18; simp only [execOp]; go_simp) fun ak3_19 fk3_19 => ?_
          have e1_k3_19 := (fk3_19.other 1 (by decide)).trans e1_k3_18
          have e5_k3_19 : ak3_19.eval (.tmp 5) = .bool Bk3_18 := fk3_19.own
          have zk3_19 := fk3_19.sz
          have dk3_19 := fk3_19.df.trans dk3_18
          clear fk3_19 e1_k3_18 e103_k3_18 zk3_18 dk3_18
          have hv : Bk3_18 = okR m := by
            rw [hok]
            unfold okR3
            simp only [hBk3_18.out, hBk3_14.out, hBk3_13.out, hBk3_8.out, hBk3_3.out]
            try (simp [Bool.and_assoc])
          exact hQ _ _ ⟨zk3_19, dk3_19, HBk3_17.out, e1_k3_19, by rw [e5_k3_19, hv]⟩
        intro a' w' h
        exact hQ0 _ _ h
      clear et
      refine wp_seq ?_
      refine fr_region (fun a' w' => a'.tmps.size = 268 ∧ a'.defers = [] ∧ Below w1.heap.size w1 w' ∧ a'.eval (.tmp 1) = .pointer (some ⟨w.heap.size, 0, none⟩) ∧ a'.eval (.tmp 3) = .bool (decide (0 ≤ m.v) && decide (m.v ≤ 15)) ∧ a'.eval (.tmp 4) = .bool (ofR m.e m.s) ∧ a'.eval (.tmp 30) = .int .i64 m.k ∧ a'.eval (.tmp 104) = .bool (m.k == 4)) (fun Q' hQ => ?_) ?_
      · skip
        refine fr_g hsz (t := 105) (by decide) rfl (by rfl) (v := .bool (m.k == 4)) (fun hG => by have hc0 : af.eval (.const (.int .i64 4)) = .int .i64 4 := rfl; generalize af.eval = ρ at e30 hc0; simp only [execOp]; go_simp) fun at4_0 ft4_0 => ?_
        have e1_t4_0 := (ft4_0.other 1 (by decide)).trans e1
        have e3_t4_0 := (ft4_0.other 3 (by decide)).trans e3
        have e4_t4_0 := (ft4_0.other 4 (by decide)).trans e4
        have e30_t4_0 := (ft4_0.other 30 (by decide)).trans e30
        have e105_t4_0 : at4_0.eval (.tmp 105) = .bool (m.k == 4) := ft4_0.own
        have zt4_0 := ft4_0.sz
        have dt4_0 := ft4_0.df.trans hdf
        clear ft4_0 e1 e3 e4 e30 hsz hdf
        refine fr_g zt4_0 (t := 104) (by decide) rfl (by rfl) (v := .bool (m.k == 4)) (fun hG => by generalize at4_0.eval = ρ at e105_t4_0; simp only [execOp]; go_simp) fun at4_1 ft4_1 => ?_
        have e1_t4_1 := (ft4_1.other 1 (by decide)).trans e1_t4_0
        have e3_t4_1 := (ft4_1.other 3 (by decide)).trans e3_t4_0
        have e4_t4_1 := (ft4_1.other 4 (by decide)).trans e4_t4_0
        have e30_t4_1 := (ft4_1.other 30 (by decide)).trans e30_t4_0
        have e104_t4_1 : at4_1.eval (.tmp 104) = .bool (m.k == 4) := ft4_1.own
        have zt4_1 := ft4_1.sz
        have dt4_1 := ft4_1.df.trans dt4_0
        clear ft4_1 e1_t4_0 e3_t4_0 e4_t4_0 e30_t4_0 e105_t4_0 zt4_0 dt4_0
        exact hQ _ _ ⟨zt4_1, dt4_1, HB.out, e1_t4_1, e3_t4_1, e4_t4_1, e30_t4_1, e104_t4_1⟩
      clear e3 e4 e30 hsz hdf e1 HB
      rintro af wf ⟨hsz, hdf, hb, e1, e3, e4, e30, et⟩
      have HB := Lib.hid hb
      clear hb
      show Code.wp Tryz.prog _ _ af wf
      refine wp_cond_split et (fun ht => ?_) (fun hf4 => ?_)
      · have h : m.k = 4 := by simpa using ht
        have hok : okR m = okR4 m := by unfold okR; rw [if_neg (by omega), if_neg (by omega), if_neg (by omega), if_pos h]
        clear h hk et ht
        clear e30
        refine fr_region (fun a' w' => a'.tmps.size = 268 ∧ a'.defers = [] ∧ Below w1.heap.size w1 w' ∧ a'.eval (.tmp 1) = .pointer (some ⟨w.heap.size, 0, none⟩) ∧ a'.eval (.tmp 5) = .bool (okR m)) (fun Q' hQ => ?_) ?_
        · skip
          refine fr_g hsz (t := 106) (by decide) rfl (by rfl) (v := .bool (decide (0 ≤ m.v) && decide (m.v ≤ 15))) (fun hG => by generalize af.eval = ρ at e3; simp only [execOp]; go_simp) fun ak4_0 fk4_0 => ?_
          have e1_k4_0 := (fk4_0.other 1 (by decide)).trans e1
          have e4_k4_0 := (fk4_0.other 4 (by decide)).trans e4
          have e106_k4_0 : ak4_0.eval (.tmp 106) = .bool (decide (0 ≤ m.v) && decide (m.v ≤ 15)) := fk4_0.own
          have zk4_0 := fk4_0.sz
          have dk4_0 := fk4_0.df.trans hdf
          clear fk4_0 e1 e3 e4 hsz hdf
          refine fr_g zk4_0 (t := 107) (by decide) rfl (by rfl) (v := .bool (decide (0 ≤ m.v) && decide (m.v ≤ 15))) (fun hG => by generalize ak4_0.eval = ρ at e106_k4_0; simp only [execOp]; go_simp) fun ak4_1 fk4_1 => ?_
          have e1_k4_1 := (fk4_1.other 1 (by decide)).trans e1_k4_0
          have e4_k4_1 := (fk4_1.other 4 (by decide)).trans e4_k4_0
          have e107_k4_1 : ak4_1.eval (.tmp 107) = .bool (decide (0 ≤ m.v) && decide (m.v ≤ 15)) := fk4_1.own
          have zk4_1 := fk4_1.sz
          have dk4_1 := fk4_1.df.trans dk4_0
          clear fk4_1 e1_k4_0 e4_k4_0 e106_k4_0 zk4_0 dk4_0
          obtain ⟨Gk4_2, hGk4_2⟩ : ∃ G, Hid (G = (true && ((decide (0 ≤ m.v) && decide (m.v ≤ 15)) == true))) := ⟨_, Lib.hid rfl⟩
          have iGk4_2 := Lib.hid (show Gk4_2 = true → true = true ∧ (decide (0 ≤ m.v) && decide (m.v ≤ 15)) = true from fun h => by rw [hGk4_2.out] at h; simpa using h)
          refine fr_g zk4_1 (t := 108) (by decide) rfl ((fr_w0 (k := 1) (b := true) (t := 107) rfl rfl e107_k4_1).trans hGk4_2.out.symm) (v := .bool (ofR m.e m.s)) (fun hG => by obtain ⟨hp0, hb0⟩ := iGk4_2.out hG; generalize ak4_1.eval = ρ at e4_k4_1; simp only [execOp]; go_simp) fun ak4_2 fk4_2 => ?_
          have e1_k4_2 := (fk4_2.other 1 (by decide)).trans e1_k4_1
          have e107_k4_2 := (fk4_2.other 107 (by decide)).trans e107_k4_1
          have e108_k4_2 : ak4_2.eval (.tmp 108) = vif Gk4_2 (.bool (ofR m.e m.s)) := fk4_2.own
          have zk4_2 := fk4_2.sz
          have dk4_2 := fk4_2.df.trans dk4_1
          clear fk4_2 e1_k4_1 e4_k4_1 e107_k4_1 zk4_1 dk4_1
          obtain ⟨Bk4_3, hBk4_3⟩ : ∃ B, Hid (B = (((decide (0 ≤ m.v) && decide (m.v ≤ 15)) && (ofR m.e m.s)))) := ⟨_, Lib.hid rfl⟩
          refine fr_g zk4_2 (t := 109) (by decide) rfl (by rfl) (v := .bool Bk4_3) (fun hG => by have hc0 : ak4_2.eval (.const (.bool false)) = .bool false := rfl; generalize ak4_2.eval = ρ at e107_k4_2 e108_k4_2 hc0; rw [hBk4_3.out]; cases hcs : (decide (0 ≤ m.v) && decide (m.v ≤ 15)) <;> simp only [execOp, vif, cond_true, cond_false, Bool.true_and, Bool.false_and, Bool.true_or, Bool.false_or, beq_self_eq_true, hGk4_2.out, hcs] at e108_k4_2 ⊢ <;> go_simp) fun ak4_3 fk4_3 => ?_
          have e1_k4_3 := (fk4_3.other 1 (by decide)).trans e1_k4_2
          have e109_k4_3 : ak4_3.eval (.tmp 109) = .bool Bk4_3 := fk4_3.own
          have zk4_3 := fk4_3.sz
          have dk4_3 := fk4_3.df.trans dk4_2
          clear fk4_3 e1_k4_2 e107_k4_2 e108_k4_2 zk4_2 dk4_2
          refine fr_g zk4_3 (t := 110) (by decide) rfl (by rfl) (v := .bool Bk4_3) (fun hG => by generalize ak4_3.eval = ρ at e109_k4_3; simp only [execOp]; go_simp) fun ak4_4 fk4_4 => ?_
          have e1_k4_4 := (fk4_4.other 1 (by decide)).trans e1_k4_3
          have e110_k4_4 : ak4_4.eval (.tmp 110) = .bool Bk4_3 := fk4_4.own
          have zk4_4 := fk4_4.sz
          have dk4_4 := fk4_4.df.trans dk4_3
          clear fk4_4 e1_k4_3 e109_k4_3 zk4_3 dk4_3
          obtain ⟨Gk4_5, hGk4_5⟩ : ∃ G, Hid (G = (true && (Bk4_3 == true))) := ⟨_, Lib.hid rfl⟩
          have iGk4_5 := Lib.hid (show Gk4_5 = true → true = true ∧ Bk4_3 = true from fun h => by rw [hGk4_5.out] at h; simpa using h)
          refine fr_g zk4_4 (t := 111) (by decide) rfl ((fr_w0 (k := 4) (b := true) (t := 110) rfl rfl e110_k4_4).trans hGk4_5.out.symm) (v := .pointer (some ⟨w.heap.size, 4, none⟩)) (fun hG => by obtain ⟨hp0, hb0⟩ := iGk4_5.out hG; generalize ak4_4.eval = ρ at e1_k4_4; simp only [execOp]; go_simp) fun ak4_5 fk4_5 => ?_
          have e1_k4_5 := (fk4_5.other 1 (by decide)).trans e1_k4_4
          have e110_k4_5 := (fk4_5.other 110 (by decide)).trans e110_k4_4
          have e111_k4_5 : ak4_5.eval (.tmp 111) = vif Gk4_5 (.pointer (some ⟨w.heap.size, 4, none⟩)) := fk4_5.own
          have zk4_5 := fk4_5.sz
          have dk4_5 := fk4_5.df.trans dk4_4
          clear fk4_5 e1_k4_4 e110_k4_4 zk4_4 dk4_4
          refine fr_g zk4_5 (t := 112) (by decide) rfl ((fr_w0 (k := 4) (b := true) (t := 110) rfl rfl e110_k4_5).trans hGk4_5.out.symm) (v := .agg #[.int .i64 m.q.c, .int .i64 m.q.s, .int .i64 m.q.kind, .string m.q.key, .float .f64 m.q.b, .int .i64 m.q.id]) (fun hG => by obtain ⟨hp0, hb0⟩ := iGk4_5.out hG; have y4 := X4.out wf HB.out; have y5 := X5.out wf HB.out; have y6 := X6.out wf HB.out; have y7 := X7.out wf HB.out; have y8 := X8.out wf HB.out; have y9 := X9.out wf HB.out; generalize ak4_5.eval = ρ at e111_k4_5; simp only [vif, cond_true, cond_false, hG, hp0, hb0] at e111_k4_5; simp only [execOp]; go_simp) fun ak4_6 fk4_6 => ?_
          have e1_k4_6 := (fk4_6.other 1 (by decide)).trans e1_k4_5
          have e110_k4_6 := (fk4_6.other 110 (by decide)).trans e110_k4_5
          have e112_k4_6 : ak4_6.eval (.tmp 112) = vif Gk4_5 (.agg #[.int .i64 m.q.c, .int .i64 m.q.s, .int .i64 m.q.kind, .string m.q.key, .float .f64 m.q.b, .int .i64 m.q.id]) := fk4_6.own
          have zk4_6 := fk4_6.sz
          have dk4_6 := fk4_6.df.trans dk4_5
          clear fk4_6 e1_k4_5 e110_k4_5 e111_k4_5 zk4_5 dk4_5
          refine fr_gc zk4_6 (t := 113) (by decide) rfl ((fr_w0 (k := 4) (b := true) (t := 110) rfl rfl e110_k4_6).trans hGk4_5.out.symm) 89 #[.agg #[.int .i64 m.q.c, .int .i64 m.q.s, .int .i64 m.q.kind, .string m.q.key, .float .f64 m.q.b, .int .i64 m.q.id]] (v := .bool (askB m.q)) (fun hG => by obtain ⟨hp0, hb0⟩ := iGk4_5.out hG; have hf : ak4_6.eval (.func 89) = .func (.func 89) #[] #[] := rfl; generalize ak4_6.eval = ρ at hf e112_k4_6; simp only [vif, cond_true, cond_false, hG, hp0, hb0] at e112_k4_6; simp only [execOp]; go_simp) (fun hG => CA.out wf) fun ak4_7 uk4_7 blk4_7 fk4_7 => ?_
          have HBk4_7 := Lib.hid (bthen HB.out blk4_7)
          clear blk4_7
          have e1_k4_7 := (fk4_7.other 1 (by decide)).trans e1_k4_6
          have e110_k4_7 := (fk4_7.other 110 (by decide)).trans e110_k4_6
          have e113_k4_7 : ak4_7.eval (.tmp 113) = vif Gk4_5 (.bool (askB m.q)) := fk4_7.own
          have zk4_7 := fk4_7.sz
          have dk4_7 := fk4_7.df.trans dk4_6
          clear fk4_7 e1_k4_6 e110_k4_6 e112_k4_6 zk4_6 dk4_6
          obtain ⟨Bk4_8, hBk4_8⟩ : ∃ B, Hid (B = ((Bk4_3 && (askB m.q)))) := ⟨_, Lib.hid rfl⟩
          refine fr_g zk4_7 (t := 114) (by decide) rfl (by rfl) (v := .bool Bk4_8) (fun hG => by have hc0 : ak4_7.eval (.const (.bool false)) = .bool false := rfl; generalize ak4_7.eval = ρ at e110_k4_7 e113_k4_7 hc0; rw [hBk4_8.out]; cases Bk4_3 <;> simp only [execOp, vif, cond_true, cond_false, Bool.true_and, Bool.false_and, Bool.true_or, Bool.false_or, beq_self_eq_true, hGk4_2.out, hGk4_5.out] at e113_k4_7 ⊢ <;> go_simp) fun ak4_8 fk4_8 => ?_
          have e1_k4_8 := (fk4_8.other 1 (by decide)).trans e1_k4_7
          have e114_k4_8 : ak4_8.eval (.tmp 114) = .bool Bk4_8 := fk4_8.own
          have zk4_8 := fk4_8.sz
          have dk4_8 := fk4_8.df.trans dk4_7
          clear fk4_8 e1_k4_7 e110_k4_7 e113_k4_7 zk4_7 dk4_7
          refine fr_g zk4_8 (t := 115) (by decide) rfl (by rfl) (v := .bool Bk4_8) (fun hG => by generalize ak4_8.eval = ρ at e114_k4_8; simp only [execOp]; go_simp) fun ak4_9 fk4_9 => ?_
          have e1_k4_9 := (fk4_9.other 1 (by decide)).trans e1_k4_8
          have e115_k4_9 : ak4_9.eval (.tmp 115) = .bool Bk4_8 := fk4_9.own
          have zk4_9 := fk4_9.sz
          have dk4_9 := fk4_9.df.trans dk4_8
          clear fk4_9 e1_k4_8 e114_k4_8 zk4_8 dk4_8
          obtain ⟨Gk4_10, hGk4_10⟩ : ∃ G, Hid (G = (true && (Bk4_8 == true))) := ⟨_, Lib.hid rfl⟩
          have iGk4_10 := Lib.hid (show Gk4_10 = true → true = true ∧ Bk4_8 = true from fun h => by rw [hGk4_10.out] at h; simpa using h)
          refine fr_g zk4_9 (t := 116) (by decide) rfl ((fr_w0 (k := 9) (b := true) (t := 115) rfl rfl e115_k4_9).trans hGk4_10.out.symm) (v := .agg CS) (fun _ => load_row _ _ (.tmp 1) Tryz.underlying35 rfl HI.out rfl e1_k4_9 (KB.out uk4_7 HBk4_7.out)) fun ak4_10 fk4_10 => ?_
          have e1_k4_10 := (fk4_10.other 1 (by decide)).trans e1_k4_9
          have e115_k4_10 := (fk4_10.other 115 (by decide)).trans e115_k4_9
          have e116_k4_10 : ak4_10.eval (.tmp 116) = vif Gk4_10 (.agg CS) := fk4_10.own
          have zk4_10 := fk4_10.sz
          have dk4_10 := fk4_10.df.trans dk4_9
          clear fk4_10 e1_k4_9 e115_k4_9 zk4_9 dk4_9
          refine fr_gc zk4_10 (t := 117) (by decide) rfl ((fr_w0 (k := 9) (b := true) (t := 115) rfl rfl e115_k4_10).trans hGk4_10.out.symm) 87 #[.agg CS, .string ⟨#[118, 115, 114]⟩] (v := .bool (restB { v := true, s := true, q := true } m)) (fun hG => by obtain ⟨hp0, hb0⟩ := iGk4_10.out hG; have hc0 : ak4_10.eval (.const (.string ⟨#[118, 115, 114]⟩)) = .string ⟨#[118, 115, 114]⟩ := rfl; have hf : ak4_10.eval (.func 87) = .func (.func 87) #[] #[] := rfl; generalize ak4_10.eval = ρ at hf e116_k4_10 hc0; simp only [vif, cond_true, cond_false, hG, hp0, hb0] at e116_k4_10; simp only [execOp]; go_simp) (fun hG => CZvsr.out uk4_7 HBk4_7.out) fun ak4_11 uk4_11 blk4_11 fk4_11 => ?_
          have HBk4_11 := Lib.hid (bthen HBk4_7.out blk4_11)
          clear blk4_11
          have e1_k4_11 := (fk4_11.other 1 (by decide)).trans e1_k4_10
          have e115_k4_11 := (fk4_11.other 115 (by decide)).trans e115_k4_10
          have e117_k4_11 : ak4_11.eval (.tmp 117) = vif Gk4_10 (.bool (restB { v := true, s := true, q := true } m)) := fk4_11.own
          have zk4_11 := fk4_11.sz
          have dk4_11 := fk4_11.df.trans dk4_10
          clear fk4_11 e1_k4_10 e115_k4_10 e116_k4_10 zk4_10 dk4_10
          obtain ⟨Bk4_12, hBk4_12⟩ : ∃ B, Hid (B = ((Bk4_8 && (restB { v := true, s := true, q := true } m)))) := ⟨_, Lib.hid rfl⟩
          refine fr_g zk4_11 (t := 118) (by decide) rfl (by rfl) (v := .bool Bk4_12) (fun hG => by have hc0 : ak4_11.eval (.const (.bool false)) = .bool false := rfl; generalize ak4_11.eval = ρ at e115_k4_11 e117_k4_11 hc0; rw [hBk4_12.out]; cases Bk4_8 <;> simp only [execOp, vif, cond_true, cond_false, Bool.true_and, Bool.false_and, Bool.true_or, Bool.false_or, beq_self_eq_true, hGk4_2.out, hGk4_5.out, hGk4_10.out] at e117_k4_11 ⊢ <;> go_simp) fun ak4_12 fk4_12 => ?_
          have e1_k4_12 := (fk4_12.other 1 (by decide)).trans e1_k4_11
          have e118_k4_12 : ak4_12.eval (.tmp 118) = .bool Bk4_12 := fk4_12.own
          have zk4_12 := fk4_12.sz
          have dk4_12 := fk4_12.df.trans dk4_11
          clear fk4_12 e1_k4_11 e115_k4_11 e117_k4_11 zk4_11 dk4_11
          refine fr_g zk4_12 (t := 5) (by decide) rfl (by rfl) (v := .bool Bk4_12) (fun hG => by generalize ak4_12.eval = ρ at e118_k4_12; simp only [execOp]; go_simp) fun ak4_13 fk4_13 => ?_
          have e1_k4_13 := (fk4_13.other 1 (by decide)).trans e1_k4_12
          have e5_k4_13 : ak4_13.eval (.tmp 5) = .bool Bk4_12 := fk4_13.own
          have zk4_13 := fk4_13.sz
          have dk4_13 := fk4_13.df.trans dk4_12
          clear fk4_13 e1_k4_12 e118_k4_12 zk4_12 dk4_12
          have hv : Bk4_12 = okR m := by
            rw [hok]
            unfold okR4
            simp only [hBk4_12.out, hBk4_8.out, hBk4_3.out]
            try (simp [Bool.and_assoc])
          exact hQ _ _ ⟨zk4_13, dk4_13, HBk4_11.out, e1_k4_13, by rw [e5_k4_13, hv]⟩
        intro a' w' h
        exact hQ0 _ _ h
      clear et
      refine wp_seq ?_
      refine fr_region (fun a' w' => a'.tmps.size = 268 ∧ a'.defers = [] ∧ Below w1.heap.size w1 w' ∧ a'.eval (.tmp 1) = .pointer (some ⟨w.heap.size, 0, none⟩) ∧ a'.eval (.tmp 3) = .bool (decide (0 ≤ m.v) && decide (m.v ≤ 15)) ∧ a'.eval (.tmp 4) = .bool (ofR m.e m.s) ∧ a'.eval (.tmp 30) = .int .i64 m.k ∧ a'.eval (.tmp 119) = .bool (m.k == 5)) (fun Q' hQ => ?_) ?_
      · skip
        refine fr_g hsz (t := 120) (by decide) rfl (by rfl) (v := .bool (m.k == 5)) (fun hG => by have hc0 : af.eval (.const (.int .i64 5)) = .int .i64 5 := rfl; generalize af.eval = ρ at e30 hc0; simp only [execOp]; go_simp) fun at5_0 ft5_0 => ?_
        have e1_t5_0 := (ft5_0.other 1 (by decide)).trans e1
        have e3_t5_0 := (ft5_0.other 3 (by decide)).trans e3
        have e4_t5_0 := (ft5_0.other 4 (by decide)).trans e4
        have e30_t5_0 := (ft5_0.other 30 (by decide)).trans e30
        have e120_t5_0 : at5_0.eval (.tmp 120) = .bool (m.k == 5) := ft5_0.own
        have zt5_0 := ft5_0.sz
        have dt5_0 := ft5_0.df.trans hdf
        clear ft5_0 e1 e3 e4 e30 hsz hdf
        refine fr_g zt5_0 (t := 119) (by decide) rfl (by rfl) (v := .bool (m.k == 5)) (fun hG => by generalize at5_0.eval = ρ at e120_t5_0; simp only [execOp]; go_simp) fun at5_1 ft5_1 => ?_
        have e1_t5_1 := (ft5_1.other 1 (by decide)).trans e1_t5_0
        have e3_t5_1 := (ft5_1.other 3 (by decide)).trans e3_t5_0
        have e4_t5_1 := (ft5_1.other 4 (by decide)).trans e4_t5_0
        have e30_t5_1 := (ft5_1.other 30 (by decide)).trans e30_t5_0
        have e119_t5_1 : at5_1.eval (.tmp 119) = .bool (m.k == 5) := ft5_1.own
        have zt5_1 := ft5_1.sz
        have dt5_1 := ft5_1.df.trans dt5_0
        clear ft5_1 e1_t5_0 e3_t5_0 e4_t5_0 e30_t5_0 e120_t5_0 zt5_0 dt5_0
        exact hQ _ _ ⟨zt5_1, dt5_1, HB.out, e1_t5_1, e3_t5_1, e4_t5_1, e30_t5_1, e119_t5_1⟩
      clear e3 e4 e30 hsz hdf e1 HB
      rintro af wf ⟨hsz, hdf, hb, e1, e3, e4, e30, et⟩
      have HB := Lib.hid hb
      clear hb
      show Code.wp Tryz.prog _ _ af wf
      refine wp_cond_split et (fun ht => ?_) (fun hf5 => ?_)
      · have h : m.k = 5 := by simpa using ht
        have hok : okR m = okR5 m := by unfold okR; rw [if_neg (by omega), if_neg (by omega), if_neg (by omega), if_neg (by omega), if_pos h]
        clear h hk et ht
        clear e30 e3 e4
        refine fr_region (fun a' w' => a'.tmps.size = 268 ∧ a'.defers = [] ∧ Below w1.heap.size w1 w' ∧ a'.eval (.tmp 1) = .pointer (some ⟨w.heap.size, 0, none⟩) ∧ a'.eval (.tmp 5) = .bool (okR m)) (fun Q' hQ => ?_) ?_
        · skip
          refine fr_g hsz (t := 121) (by decide) rfl (by rfl) (v := .pointer (some ⟨w.heap.size, 3, none⟩)) (fun hG => by generalize af.eval = ρ at e1; simp only [execOp]; go_simp) fun ak5_0 fk5_0 => ?_
          have e1_k5_0 := (fk5_0.other 1 (by decide)).trans e1
          have e121_k5_0 : ak5_0.eval (.tmp 121) = .pointer (some ⟨w.heap.size, 3, none⟩) := fk5_0.own
          have zk5_0 := fk5_0.sz
          have dk5_0 := fk5_0.df.trans hdf
          clear fk5_0 e1 hsz hdf
          refine fr_g zk5_0 (t := 122) (by decide) rfl (by rfl) (v := .int .i64 m.s) (fun hG => by have y3 := X3.out wf HB.out; generalize ak5_0.eval = ρ at e121_k5_0; simp only [execOp]; go_simp) fun ak5_1 fk5_1 => ?_
          have e1_k5_1 := (fk5_1.other 1 (by decide)).trans e1_k5_0
          have e122_k5_1 : ak5_1.eval (.tmp 122) = .int .i64 m.s := fk5_1.own
          have zk5_1 := fk5_1.sz
          have dk5_1 := fk5_1.df.trans dk5_0
          clear fk5_1 e1_k5_0 e121_k5_0 zk5_0 dk5_0
          refine fr_g zk5_1 (t := 123) (by decide) rfl (by rfl) (v := .pointer (some ⟨w.heap.size, 1, none⟩)) (fun hG => by generalize ak5_1.eval = ρ at e1_k5_1; simp only [execOp]; go_simp) fun ak5_2 fk5_2 => ?_
          have e1_k5_2 := (fk5_2.other 1 (by decide)).trans e1_k5_1
          have e122_k5_2 := (fk5_2.other 122 (by decide)).trans e122_k5_1
          have e123_k5_2 : ak5_2.eval (.tmp 123) = .pointer (some ⟨w.heap.size, 1, none⟩) := fk5_2.own
          have zk5_2 := fk5_2.sz
          have dk5_2 := fk5_2.df.trans dk5_1
          clear fk5_2 e1_k5_1 e122_k5_1 zk5_1 dk5_1
          refine fr_g zk5_2 (t := 124) (by decide) rfl (by rfl) (v := .int .i64 m.e) (fun hG => by have y1 := X1.out wf HB.out; generalize ak5_2.eval = ρ at e123_k5_2; simp only [execOp]; go_simp) fun ak5_3 fk5_3 => ?_
          have e1_k5_3 := (fk5_3.other 1 (by decide)).trans e1_k5_2
          have e122_k5_3 := (fk5_3.other 122 (by decide)).trans e122_k5_2
          have e124_k5_3 : ak5_3.eval (.tmp 124) = .int .i64 m.e := fk5_3.own
          have zk5_3 := fk5_3.sz
          have dk5_3 := fk5_3.df.trans dk5_2
          clear fk5_3 e1_k5_2 e122_k5_2 e123_k5_2 zk5_2 dk5_2
          refine fr_g zk5_3 (t := 125) (by decide) rfl (by rfl) (v := .int .i64 (wrap64 (m.e + 1))) (fun hG => by have hc0 : ak5_3.eval (.const (.int .i64 1)) = .int .i64 1 := rfl; generalize ak5_3.eval = ρ at e124_k5_3 hc0; simp only [execOp]; go_simp) fun ak5_4 fk5_4 => ?_
          have e1_k5_4 := (fk5_4.other 1 (by decide)).trans e1_k5_3
          have e122_k5_4 := (fk5_4.other 122 (by decide)).trans e122_k5_3
          have e125_k5_4 : ak5_4.eval (.tmp 125) = .int .i64 (wrap64 (m.e + 1)) := fk5_4.own
          have zk5_4 := fk5_4.sz
          have dk5_4 := fk5_4.df.trans dk5_3
          clear fk5_4 e1_k5_3 e122_k5_3 e124_k5_3 zk5_3 dk5_3
          refine fr_g zk5_4 (t := 126) (by decide) rfl (by rfl) (v := .int .i64 (wrap64 (4 * wrap64 (m.e + 1)))) (fun hG => by have hc0 : ak5_4.eval (.const (.int .i64 4)) = .int .i64 4 := rfl; generalize ak5_4.eval = ρ at e125_k5_4 hc0; simp only [execOp]; go_simp) fun ak5_5 fk5_5 => ?_
          have e1_k5_5 := (fk5_5.other 1 (by decide)).trans e1_k5_4
          have e122_k5_5 := (fk5_5.other 122 (by decide)).trans e122_k5_4
          have e126_k5_5 : ak5_5.eval (.tmp 126) = .int .i64 (wrap64 (4 * wrap64 (m.e + 1))) := fk5_5.own
          have zk5_5 := fk5_5.sz
          have dk5_5 := fk5_5.df.trans dk5_4
          clear fk5_5 e1_k5_4 e122_k5_4 e125_k5_4 zk5_4 dk5_4
          obtain ⟨Bk5_6, hBk5_6⟩ : ∃ B, Hid (B = ((m.s : Int) == (wrap64 (4 * wrap64 (m.e + 1))))) := ⟨_, Lib.hid rfl⟩
          refine fr_g zk5_5 (t := 127) (by decide) rfl (by rfl) (v := .bool Bk5_6) (fun hG => by generalize ak5_5.eval = ρ at e122_k5_5 e126_k5_5; rw [hBk5_6.out]; simp only [execOp]; go_simp) fun ak5_6 fk5_6 => ?_
          have e1_k5_6 := (fk5_6.other 1 (by decide)).trans e1_k5_5
          have e127_k5_6 : ak5_6.eval (.tmp 127) = .bool Bk5_6 := fk5_6.own
          have zk5_6 := fk5_6.sz
          have dk5_6 := fk5_6.df.trans dk5_5
          clear fk5_6 e1_k5_5 e122_k5_5 e126_k5_5 zk5_5 dk5_5
          refine fr_g zk5_6 (t := 128) (by decide) rfl (by rfl) (v := .bool Bk5_6) (fun hG => by generalize ak5_6.eval = ρ at e127_k5_6; simp only [execOp]; go_simp) fun ak5_7 fk5_7 => ?_
          have e1_k5_7 := (fk5_7.other 1 (by decide)).trans e1_k5_6
          have e128_k5_7 : ak5_7.eval (.tmp 128) = .bool Bk5_6 := fk5_7.own
          have zk5_7 := fk5_7.sz
          have dk5_7 := fk5_7.df.trans dk5_6
          clear fk5_7 e1_k5_6 e127_k5_6 zk5_6 dk5_6
          obtain ⟨Gk5_8, hGk5_8⟩ : ∃ G, Hid (G = (true && (Bk5_6 == true))) := ⟨_, Lib.hid rfl⟩
          have iGk5_8 := Lib.hid (show Gk5_8 = true → true = true ∧ Bk5_6 = true from fun h => by rw [hGk5_8.out] at h; simpa using h)
          refine fr_g zk5_7 (t := 129) (by decide) rfl ((fr_w0 (k := 7) (b := true) (t := 128) rfl rfl e128_k5_7).trans hGk5_8.out.symm) (v := .pointer (some ⟨w.heap.size, 12, none⟩)) (fun hG => by obtain ⟨hp0, hb0⟩ := iGk5_8.out hG; generalize ak5_7.eval = ρ at e1_k5_7; simp only [execOp]; go_simp) fun ak5_8 fk5_8 => ?_
          have e1_k5_8 := (fk5_8.other 1 (by decide)).trans e1_k5_7
          have e128_k5_8 := (fk5_8.other 128 (by decide)).trans e128_k5_7
          have e129_k5_8 : ak5_8.eval (.tmp 129) = vif Gk5_8 (.pointer (some ⟨w.heap.size, 12, none⟩)) := fk5_8.own
          have zk5_8 := fk5_8.sz
          have dk5_8 := fk5_8.df.trans dk5_7
          clear fk5_8 e1_k5_7 e128_k5_7 zk5_7 dk5_7
          refine fr_g zk5_8 (t := 130) (by decide) rfl ((fr_w0 (k := 7) (b := true) (t := 128) rfl rfl e128_k5_8).trans hGk5_8.out.symm) (v := .string m.t) (fun hG => by obtain ⟨hp0, hb0⟩ := iGk5_8.out hG; have y12 := X12.out wf HB.out; generalize ak5_8.eval = ρ at e129_k5_8; simp only [vif, cond_true, cond_false, hG, hp0, hb0] at e129_k5_8; simp only [execOp]; go_simp) fun ak5_9 fk5_9 => ?_
          have e1_k5_9 := (fk5_9.other 1 (by decide)).trans e1_k5_8
          have e128_k5_9 := (fk5_9.other 128 (by decide)).trans e128_k5_8
          have e130_k5_9 : ak5_9.eval (.tmp 130) = vif Gk5_8 (.string m.t) := fk5_9.own
          have zk5_9 := fk5_9.sz
          have dk5_9 := fk5_9.df.trans dk5_8
          clear fk5_9 e1_k5_8 e128_k5_8 e129_k5_8 zk5_8 dk5_8
          obtain ⟨Bk5_10, hBk5_10⟩ : ∃ B, Hid (B = (!(m.t.toList.isEmpty))) := ⟨_, Lib.hid rfl⟩
          refine fr_g zk5_9 (t := 131) (by decide) rfl ((fr_w0 (k := 7) (b := true) (t := 128) rfl rfl e128_k5_9).trans hGk5_8.out.symm) (v := .bool Bk5_10) (fun hG => by obtain ⟨hp0, hb0⟩ := iGk5_8.out hG; have hc0 : ak5_9.eval (.const (.string ⟨#[]⟩)) = .string ⟨#[]⟩ := rfl; generalize ak5_9.eval = ρ at e130_k5_9 hc0; simp only [vif, cond_true, cond_false, hG, hp0, hb0] at e130_k5_9; rw [hBk5_10.out]; simp only [execOp]; go_simp) fun ak5_10 fk5_10 => ?_
          have e1_k5_10 := (fk5_10.other 1 (by decide)).trans e1_k5_9
          have e128_k5_10 := (fk5_10.other 128 (by decide)).trans e128_k5_9
          have e131_k5_10 : ak5_10.eval (.tmp 131) = vif Gk5_8 (.bool Bk5_10) := fk5_10.own
          have zk5_10 := fk5_10.sz
          have dk5_10 := fk5_10.df.trans dk5_9
          clear fk5_10 e1_k5_9 e128_k5_9 e130_k5_9 zk5_9 dk5_9
          obtain ⟨Bk5_11, hBk5_11⟩ : ∃ B, Hid (B = ((Bk5_6 && Bk5_10))) := ⟨_, Lib.hid rfl⟩
          refine fr_g zk5_10 (t := 132) (by decide) rfl (by rfl) (v := .bool Bk5_11) (fun hG => by have hc0 : ak5_10.eval (.const (.bool false)) = .bool false := rfl; generalize ak5_10.eval = ρ at e128_k5_10 e131_k5_10 hc0; rw [hBk5_11.out]; cases Bk5_6 <;> simp only [execOp, vif, cond_true, cond_false, Bool.true_and, Bool.false_and, Bool.true_or, Bool.false_or, beq_self_eq_true, hGk5_8.out] at e131_k5_10 ⊢ <;> go_simp) fun ak5_11 fk5_11 => ?_
          have e1_k5_11 := (fk5_11.other 1 (by decide)).trans e1_k5_10
          have e132_k5_11 : ak5_11.eval (.tmp 132) = .bool Bk5_11 := fk5_11.own
          have zk5_11 := fk5_11.sz
          have dk5_11 := fk5_11.df.trans dk5_10
          clear fk5_11 e1_k5_10 e128_k5_10 e131_k5_10 zk5_10 dk5_10
          refine fr_g zk5_11 (t := 133) (by decide) rfl (by rfl) (v := .bool Bk5_11) (fun hG => by generalize ak5_11.eval = ρ at e132_k5_11; simp only [execOp]; go_simp) fun ak5_12 fk5_12 => ?_
          have e1_k5_12 := (fk5_12.other 1 (by decide)).trans e1_k5_11
          have e133_k5_12 : ak5_12.eval (.tmp 133) = .bool Bk5_11 := fk5_12.own
          have zk5_12 := fk5_12.sz
          have dk5_12 := fk5_12.df.trans dk5_11
          clear fk5_12 e1_k5_11 e132_k5_11 zk5_11 dk5_11
          obtain ⟨Gk5_13, hGk5_13⟩ : ∃ G, Hid (G = (true && (Bk5_11 == true))) := ⟨_, Lib.hid rfl⟩
          have iGk5_13 := Lib.hid (show Gk5_13 = true → true = true ∧ Bk5_11 = true from fun h => by rw [hGk5_13.out] at h; simpa using h)
          refine fr_g zk5_12 (t := 134) (by decide) rfl ((fr_w0 (k := 12) (b := true) (t := 133) rfl rfl e133_k5_12).trans hGk5_13.out.symm) (v := .pointer (some ⟨w.heap.size, 13, none⟩)) (fun hG => by obtain ⟨hp0, hb0⟩ := iGk5_13.out hG; generalize ak5_12.eval = ρ at e1_k5_12; simp only [execOp]; go_simp) fun ak5_13 fk5_13 => ?_
          have e1_k5_13 := (fk5_13.other 1 (by decide)).trans e1_k5_12
          have e133_k5_13 := (fk5_13.other 133 (by decide)).trans e133_k5_12
          have e134_k5_13 : ak5_13.eval (.tmp 134) = vif Gk5_13 (.pointer (some ⟨w.heap.size, 13, none⟩)) := fk5_13.own
          have zk5_13 := fk5_13.sz
          have dk5_13 := fk5_13.df.trans dk5_12
          clear fk5_13 e1_k5_12 e133_k5_12 zk5_12 dk5_12
          refine fr_g zk5_13 (t := 135) (by decide) rfl ((fr_w0 (k := 12) (b := true) (t := 133) rfl rfl e133_k5_13).trans hGk5_13.out.symm) (v := .slice a1 m.nx.length c1) (fun hG => by obtain ⟨hp0, hb0⟩ := iGk5_13.out hG; have y13 := X13.out wf HB.out; generalize ak5_13.eval = ρ at e134_k5_13; simp only [vif, cond_true, cond_false, hG, hp0, hb0] at e134_k5_13; simp only [execOp]; go_simp) fun ak5_14 fk5_14 => ?_
          have e1_k5_14 := (fk5_14.other 1 (by decide)).trans e1_k5_13
          have e133_k5_14 := (fk5_14.other 133 (by decide)).trans e133_k5_13
          have e135_k5_14 : ak5_14.eval (.tmp 135) = vif Gk5_13 (.slice a1 m.nx.length c1) := fk5_14.own
          have zk5_14 := fk5_14.sz
          have dk5_14 := fk5_14.df.trans dk5_13
          clear fk5_14 e1_k5_13 e133_k5_13 e134_k5_13 zk5_13 dk5_13
          refine fr_gc zk5_14 (t := 136) (by decide) rfl ((fr_w0 (k := 12) (b := true) (t := 133) rfl rfl e133_k5_14).trans hGk5_13.out.symm) 90 #[.slice a1 m.nx.length c1] (v := .bool (risingB m.nx)) (fun hG => by obtain ⟨hp0, hb0⟩ := iGk5_13.out hG; have hf : ak5_14.eval (.func 90) = .func (.func 90) #[] #[] := rfl; generalize ak5_14.eval = ρ at hf e135_k5_14; simp only [vif, cond_true, cond_false, hG, hp0, hb0] at e135_k5_14; simp only [execOp]; go_simp) (fun hG => CM.out wf HB.out) fun ak5_15 uk5_15 blk5_15 fk5_15 => ?_
          have HBk5_15 := Lib.hid (bthen HB.out blk5_15)
          clear blk5_15
          have e1_k5_15 := (fk5_15.other 1 (by decide)).trans e1_k5_14
          have e133_k5_15 := (fk5_15.other 133 (by decide)).trans e133_k5_14
          have e136_k5_15 : ak5_15.eval (.tmp 136) = vif Gk5_13 (.bool (risingB m.nx)) := fk5_15.own
          have zk5_15 := fk5_15.sz
          have dk5_15 := fk5_15.df.trans dk5_14
          clear fk5_15 e1_k5_14 e133_k5_14 e135_k5_14 zk5_14 dk5_14
          obtain ⟨Bk5_16, hBk5_16⟩ : ∃ B, Hid (B = ((Bk5_11 && (risingB m.nx)))) := ⟨_, Lib.hid rfl⟩
          refine fr_g zk5_15 (t := 137) (by decide) rfl (by rfl) (v := .bool Bk5_16) (fun hG => by have hc0 : ak5_15.eval (.const (.bool false)) = .bool false := rfl; generalize ak5_15.eval = ρ at e133_k5_15 e136_k5_15 hc0; rw [hBk5_16.out]; cases Bk5_11 <;> simp only [execOp, vif, cond_true, cond_false, Bool.true_and, Bool.false_and, Bool.true_or, Bool.false_or, beq_self_eq_true, hGk5_8.out, hGk5_13.out] at e136_k5_15 ⊢ <;> go_simp) fun ak5_16 fk5_16 => ?_
          have e1_k5_16 := (fk5_16.other 1 (by decide)).trans e1_k5_15
          have e137_k5_16 : ak5_16.eval (.tmp 137) = .bool Bk5_16 := fk5_16.own
          have zk5_16 := fk5_16.sz
          have dk5_16 := fk5_16.df.trans dk5_15
          clear fk5_16 e1_k5_15 e133_k5_15 e136_k5_15 zk5_15 dk5_15
          refine fr_g zk5_16 (t := 138) (by decide) rfl (by rfl) (v := .bool Bk5_16) (fun hG => by generalize ak5_16.eval = ρ at e137_k5_16; simp only [execOp]; go_simp) fun ak5_17 fk5_17 => ?_
          have e1_k5_17 := (fk5_17.other 1 (by decide)).trans e1_k5_16
          have e138_k5_17 : ak5_17.eval (.tmp 138) = .bool Bk5_16 := fk5_17.own
          have zk5_17 := fk5_17.sz
          have dk5_17 := fk5_17.df.trans dk5_16
          clear fk5_17 e1_k5_16 e137_k5_16 zk5_16 dk5_16
          obtain ⟨Gk5_18, hGk5_18⟩ : ∃ G, Hid (G = (true && (Bk5_16 == true))) := ⟨_, Lib.hid rfl⟩
          have iGk5_18 := Lib.hid (show Gk5_18 = true → true = true ∧ Bk5_16 = true from fun h => by rw [hGk5_18.out] at h; simpa using h)
          refine fr_g zk5_17 (t := 139) (by decide) rfl ((fr_w0 (k := 17) (b := true) (t := 138) rfl rfl e138_k5_17).trans hGk5_18.out.symm) (v := .pointer (some ⟨w.heap.size, 14, none⟩)) (fun hG => by obtain ⟨hp0, hb0⟩ := iGk5_18.out hG; generalize ak5_17.eval = ρ at e1_k5_17; simp only [execOp]; go_simp) fun ak5_18 fk5_18 => ?_
          have e1_k5_18 := (fk5_18.other 1 (by decide)).trans e1_k5_17
          have e138_k5_18 := (fk5_18.other 138 (by decide)).trans e138_k5_17
          have e139_k5_18 : ak5_18.eval (.tmp 139) = vif Gk5_18 (.pointer (some ⟨w.heap.size, 14, none⟩)) := fk5_18.own
          have zk5_18 := fk5_18.sz
          have dk5_18 := fk5_18.df.trans dk5_17
          clear fk5_18 e1_k5_17 e138_k5_17 zk5_17 dk5_17
          refine fr_g zk5_18 (t := 140) (by decide) rfl ((fr_w0 (k := 17) (b := true) (t := 138) rfl rfl e138_k5_18).trans hGk5_18.out.symm) (v := .slice a2 m.sg.length c2) (fun hG => by obtain ⟨hp0, hb0⟩ := iGk5_18.out hG; have y14 := X14.out uk5_15 HBk5_15.out; generalize ak5_18.eval = ρ at e139_k5_18; simp only [vif, cond_true, cond_false, hG, hp0, hb0] at e139_k5_18; simp only [execOp]; go_simp) fun ak5_19 fk5_19 => ?_
          have e1_k5_19 := (fk5_19.other 1 (by decide)).trans e1_k5_18
          have e138_k5_19 := (fk5_19.other 138 (by decide)).trans e138_k5_18
          have e140_k5_19 : ak5_19.eval (.tmp 140) = vif Gk5_18 (.slice a2 m.sg.length c2) := fk5_19.own
          have zk5_19 := fk5_19.sz
          have dk5_19 := fk5_19.df.trans dk5_18
          clear fk5_19 e1_k5_18 e138_k5_18 e139_k5_18 zk5_18 dk5_18
          refine fr_g zk5_19 (t := 141) (by decide) rfl ((fr_w0 (k := 17) (b := true) (t := 138) rfl rfl e138_k5_19).trans hGk5_18.out.symm) (v := .int .i64 m.sg.length) (fun hG => by obtain ⟨hp0, hb0⟩ := iGk5_18.out hG; generalize ak5_19.eval = ρ at e140_k5_19; simp only [vif, cond_true, cond_false, hG, hp0, hb0] at e140_k5_19; simp only [execOp]; go_simp) fun ak5_20 fk5_20 => ?_
          have e1_k5_20 := (fk5_20.other 1 (by decide)).trans e1_k5_19
          have e138_k5_20 := (fk5_20.other 138 (by decide)).trans e138_k5_19
          have e141_k5_20 : ak5_20.eval (.tmp 141) = vif Gk5_18 (.int .i64 m.sg.length) := fk5_20.own
          have zk5_20 := fk5_20.sz
          have dk5_20 := fk5_20.df.trans dk5_19
          clear fk5_20 e1_k5_19 e138_k5_19 e140_k5_19 zk5_19 dk5_19
          obtain ⟨Bk5_21, hBk5_21⟩ : ∃ B, Hid (B = ((m.sg.length : Int) == 2)) := ⟨_, Lib.hid rfl⟩
          refine fr_g zk5_20 (t := 142) (by decide) rfl ((fr_w0 (k := 17) (b := true) (t := 138) rfl rfl e138_k5_20).trans hGk5_18.out.symm) (v := .bool Bk5_21) (fun hG => by obtain ⟨hp0, hb0⟩ := iGk5_18.out hG; have hc0 : ak5_20.eval (.const (.int .i64 2)) = .int .i64 2 := rfl; generalize ak5_20.eval = ρ at e141_k5_20 hc0; simp only [vif, cond_true, cond_false, hG, hp0, hb0] at e141_k5_20; rw [hBk5_21.out]; simp only [execOp]; go_simp) fun ak5_21 fk5_21 => ?_
          have e1_k5_21 := (fk5_21.other 1 (by decide)).trans e1_k5_20
          have e138_k5_21 := (fk5_21.other 138 (by decide)).trans e138_k5_20
          have e142_k5_21 : ak5_21.eval (.tmp 142) = vif Gk5_18 (.bool Bk5_21) := fk5_21.own
          have zk5_21 := fk5_21.sz
          have dk5_21 := fk5_21.df.trans dk5_20
          clear fk5_21 e1_k5_20 e138_k5_20 e141_k5_20 zk5_20 dk5_20
          obtain ⟨Bk5_22, hBk5_22⟩ : ∃ B, Hid (B = ((Bk5_16 && Bk5_21))) := ⟨_, Lib.hid rfl⟩
          refine fr_g zk5_21 (t := 143) (by decide) rfl (by rfl) (v := .bool Bk5_22) (fun hG => by have hc0 : ak5_21.eval (.const (.bool false)) = .bool false := rfl; generalize ak5_21.eval = ρ at e138_k5_21 e142_k5_21 hc0; rw [hBk5_22.out]; cases Bk5_16 <;> simp only [execOp, vif, cond_true, cond_false, Bool.true_and, Bool.false_and, Bool.true_or, Bool.false_or, beq_self_eq_true, hGk5_8.out, hGk5_13.out, hGk5_18.out] at e142_k5_21 ⊢ <;> go_simp) fun ak5_22 fk5_22 => ?_
          have e1_k5_22 := (fk5_22.other 1 (by decide)).trans e1_k5_21
          have e143_k5_22 : ak5_22.eval (.tmp 143) = .bool Bk5_22 := fk5_22.own
          have zk5_22 := fk5_22.sz
          have dk5_22 := fk5_22.df.trans dk5_21
          clear fk5_22 e1_k5_21 e138_k5_21 e142_k5_21 zk5_21 dk5_21
          refine fr_g zk5_22 (t := 144) (by decide) rfl (by rfl) (v := .bool Bk5_22) (fun hG => by generalize ak5_22.eval = ρ at e143_k5_22; simp only [execOp]; go_simp) fun ak5_23 fk5_23 => ?_
          have e1_k5_23 := (fk5_23.other 1 (by decide)).trans e1_k5_22
          have e144_k5_23 : ak5_23.eval (.tmp 144) = .bool Bk5_22 := fk5_23.own
          have zk5_23 := fk5_23.sz
          have dk5_23 := fk5_23.df.trans dk5_22
          clear fk5_23 e1_k5_22 e143_k5_22 zk5_22 dk5_22
          obtain ⟨Gk5_24, hGk5_24⟩ : ∃ G, Hid (G = (true && (Bk5_22 == true))) := ⟨_, Lib.hid rfl⟩
          have iGk5_24 := Lib.hid (show Gk5_24 = true → true = true ∧ Bk5_22 = true from fun h => by rw [hGk5_24.out] at h; simpa using h)
          refine fr_g zk5_23 (t := 145) (by decide) rfl ((fr_w0 (k := 23) (b := true) (t := 144) rfl rfl e144_k5_23).trans hGk5_24.out.symm) (v := .agg CS) (fun _ => load_row _ _ (.tmp 1) Tryz.underlying35 rfl HI.out rfl e1_k5_23 (KB.out uk5_15 HBk5_15.out)) fun ak5_24 fk5_24 => ?_
          have e1_k5_24 := (fk5_24.other 1 (by decide)).trans e1_k5_23
          have e144_k5_24 := (fk5_24.other 144 (by decide)).trans e144_k5_23
          have e145_k5_24 : ak5_24.eval (.tmp 145) = vif Gk5_24 (.agg CS) := fk5_24.own
          have zk5_24 := fk5_24.sz
          have dk5_24 := fk5_24.df.trans dk5_23
          clear fk5_24 e1_k5_23 e144_k5_23 zk5_23 dk5_23
          refine fr_gc zk5_24 (t := 146) (by decide) rfl ((fr_w0 (k := 23) (b := true) (t := 144) rfl rfl e144_k5_24).trans hGk5_24.out.symm) 87 #[.agg CS, .string ⟨#[115, 116, 110, 103]⟩] (v := .bool (restB { s := true, t := true, nx := true, sg := true } m)) (fun hG => by obtain ⟨hp0, hb0⟩ := iGk5_24.out hG; have hc0 : ak5_24.eval (.const (.string ⟨#[115, 116, 110, 103]⟩)) = .string ⟨#[115, 116, 110, 103]⟩ := rfl; have hf : ak5_24.eval (.func 87) = .func (.func 87) #[] #[] := rfl; generalize ak5_24.eval = ρ at hf e145_k5_24 hc0; simp only [vif, cond_true, cond_false, hG, hp0, hb0] at e145_k5_24; simp only [execOp]; go_simp) (fun hG => CZstng.out uk5_15 HBk5_15.out) fun ak5_25 uk5_25 blk5_25 fk5_25 => ?_
          have HBk5_25 := Lib.hid (bthen HBk5_15.out blk5_25)
          clear blk5_25
          have e1_k5_25 := (fk5_25.other 1 (by decide)).trans e1_k5_24
          have e144_k5_25 := (fk5_25.other 144 (by decide)).trans e144_k5_24
          have e146_k5_25 : ak5_25.eval (.tmp 146) = vif Gk5_24 (.bool (restB { s := true, t := true, nx := true, sg := true } m)) := fk5_25.own
          have zk5_25 := fk5_25.sz
          have dk5_25 := fk5_25.df.trans dk5_24
          clear fk5_25 e1_k5_24 e144_k5_24 e145_k5_24 zk5_24 dk5_24
          obtain ⟨Bk5_26, hBk5_26⟩ : ∃ B, Hid (B = ((Bk5_22 && (restB { s := true, t := true, nx := true, sg := true } m)))) := ⟨_, Lib.hid rfl⟩
          refine fr_g zk5_25 (t := 147) (by decide) rfl (by rfl) (v := .bool Bk5_26) (fun hG => by have hc0 : ak5_25.eval (.const (.bool false)) = .bool false := rfl; generalize ak5_25.eval = ρ at e144_k5_25 e146_k5_25 hc0; rw [hBk5_26.out]; cases Bk5_22 <;> simp only [execOp, vif, cond_true, cond_false, Bool.true_and, Bool.false_and, Bool.true_or, Bool.false_or, beq_self_eq_true, hGk5_8.out, hGk5_13.out, hGk5_18.out, hGk5_24.out] at e146_k5_25 ⊢ <;> go_simp) fun ak5_26 fk5_26 => ?_
          have e1_k5_26 := (fk5_26.other 1 (by decide)).trans e1_k5_25
          have e147_k5_26 : ak5_26.eval (.tmp 147) = .bool Bk5_26 := fk5_26.own
          have zk5_26 := fk5_26.sz
          have dk5_26 := fk5_26.df.trans dk5_25
          clear fk5_26 e1_k5_25 e144_k5_25 e146_k5_25 zk5_25 dk5_25
          refine fr_g zk5_26 (t := 5) (by decide) rfl (by rfl) (v := .bool Bk5_26) (fun hG => by generalize ak5_26.eval = ρ at e147_k5_26; simp only [execOp]; go_simp) fun ak5_27 fk5_27 => ?_
          have e1_k5_27 := (fk5_27.other 1 (by decide)).trans e1_k5_26
          have e5_k5_27 : ak5_27.eval (.tmp 5) = .bool Bk5_26 := fk5_27.own
          have zk5_27 := fk5_27.sz
          have dk5_27 := fk5_27.df.trans dk5_26
          clear fk5_27 e1_k5_26 e147_k5_26 zk5_26 dk5_26
          have hv : Bk5_26 = okR m := by
            rw [hok]
            unfold okR5
            simp only [hBk5_26.out, hBk5_22.out, hBk5_21.out, hBk5_16.out, hBk5_11.out, hBk5_10.out, hBk5_6.out]
            try (simp [Bool.and_assoc])
          exact hQ _ _ ⟨zk5_27, dk5_27, HBk5_25.out, e1_k5_27, by rw [e5_k5_27, hv]⟩
        intro a' w' h
        exact hQ0 _ _ h
      clear et
      refine wp_seq ?_
      refine fr_region (fun a' w' => a'.tmps.size = 268 ∧ a'.defers = [] ∧ Below w1.heap.size w1 w' ∧ a'.eval (.tmp 1) = .pointer (some ⟨w.heap.size, 0, none⟩) ∧ a'.eval (.tmp 3) = .bool (decide (0 ≤ m.v) && decide (m.v ≤ 15)) ∧ a'.eval (.tmp 4) = .bool (ofR m.e m.s) ∧ a'.eval (.tmp 30) = .int .i64 m.k ∧ a'.eval (.tmp 148) = .bool (m.k == 6)) (fun Q' hQ => ?_) ?_
      · skip
        refine fr_g hsz (t := 149) (by decide) rfl (by rfl) (v := .bool (m.k == 6)) (fun hG => by have hc0 : af.eval (.const (.int .i64 6)) = .int .i64 6 := rfl; generalize af.eval = ρ at e30 hc0; simp only [execOp]; go_simp) fun at6_0 ft6_0 => ?_
        have e1_t6_0 := (ft6_0.other 1 (by decide)).trans e1
        have e3_t6_0 := (ft6_0.other 3 (by decide)).trans e3
        have e4_t6_0 := (ft6_0.other 4 (by decide)).trans e4
        have e30_t6_0 := (ft6_0.other 30 (by decide)).trans e30
        have e149_t6_0 : at6_0.eval (.tmp 149) = .bool (m.k == 6) := ft6_0.own
        have zt6_0 := ft6_0.sz
        have dt6_0 := ft6_0.df.trans hdf
        clear ft6_0 e1 e3 e4 e30 hsz hdf
        refine fr_g zt6_0 (t := 148) (by decide) rfl (by rfl) (v := .bool (m.k == 6)) (fun hG => by generalize at6_0.eval = ρ at e149_t6_0; simp only [execOp]; go_simp) fun at6_1 ft6_1 => ?_
        have e1_t6_1 := (ft6_1.other 1 (by decide)).trans e1_t6_0
        have e3_t6_1 := (ft6_1.other 3 (by decide)).trans e3_t6_0
        have e4_t6_1 := (ft6_1.other 4 (by decide)).trans e4_t6_0
        have e30_t6_1 := (ft6_1.other 30 (by decide)).trans e30_t6_0
        have e148_t6_1 : at6_1.eval (.tmp 148) = .bool (m.k == 6) := ft6_1.own
        have zt6_1 := ft6_1.sz
        have dt6_1 := ft6_1.df.trans dt6_0
        clear ft6_1 e1_t6_0 e3_t6_0 e4_t6_0 e30_t6_0 e149_t6_0 zt6_0 dt6_0
        exact hQ _ _ ⟨zt6_1, dt6_1, HB.out, e1_t6_1, e3_t6_1, e4_t6_1, e30_t6_1, e148_t6_1⟩
      clear e3 e4 e30 hsz hdf e1 HB
      rintro af wf ⟨hsz, hdf, hb, e1, e3, e4, e30, et⟩
      have HB := Lib.hid hb
      clear hb
      show Code.wp Tryz.prog _ _ af wf
      refine wp_cond_split et (fun ht => ?_) (fun hf6 => ?_)
      · have h : m.k = 6 := by simpa using ht
        have hok : okR m = okR6 m := by unfold okR; rw [if_neg (by omega), if_neg (by omega), if_neg (by omega), if_neg (by omega), if_neg (by omega), if_pos h]
        clear h hk et ht
        clear e30 e3 e4
        refine fr_region (fun a' w' => a'.tmps.size = 268 ∧ a'.defers = [] ∧ Below w1.heap.size w1 w' ∧ a'.eval (.tmp 1) = .pointer (some ⟨w.heap.size, 0, none⟩) ∧ a'.eval (.tmp 5) = .bool (okR m)) (fun Q' hQ => ?_) ?_
        · skip
          refine fr_g hsz (t := 150) (by decide) rfl (by rfl) (v := .pointer (some ⟨w.heap.size, 15, none⟩)) (fun hG => by generalize af.eval = ρ at e1; simp only [execOp]; go_simp) fun ak6_0 fk6_0 => ?_
          have e1_k6_0 := (fk6_0.other 1 (by decide)).trans e1
          have e150_k6_0 : ak6_0.eval (.tmp 150) = .pointer (some ⟨w.heap.size, 15, none⟩) := fk6_0.own
          have zk6_0 := fk6_0.sz
          have dk6_0 := fk6_0.df.trans hdf
          clear fk6_0 e1 hsz hdf
          refine fr_g zk6_0 (t := 151) (by decide) rfl (by rfl) (v := .slice a3 m.ch.length c3) (fun hG => by have y15 := X15.out wf HB.out; generalize ak6_0.eval = ρ at e150_k6_0; simp only [execOp]; go_simp) fun ak6_1 fk6_1 => ?_
          have e1_k6_1 := (fk6_1.other 1 (by decide)).trans e1_k6_0
          have e151_k6_1 : ak6_1.eval (.tmp 151) = .slice a3 m.ch.length c3 := fk6_1.own
          have zk6_1 := fk6_1.sz
          have dk6_1 := fk6_1.df.trans dk6_0
          clear fk6_1 e1_k6_0 e150_k6_0 zk6_0 dk6_0
          refine fr_g zk6_1 (t := 152) (by decide) rfl (by rfl) (v := .int .i64 m.ch.length) (fun hG => by generalize ak6_1.eval = ρ at e151_k6_1; simp only [execOp]; go_simp) fun ak6_2 fk6_2 => ?_
          have e1_k6_2 := (fk6_2.other 1 (by decide)).trans e1_k6_1
          have e152_k6_2 : ak6_2.eval (.tmp 152) = .int .i64 m.ch.length := fk6_2.own
          have zk6_2 := fk6_2.sz
          have dk6_2 := fk6_2.df.trans dk6_1
          clear fk6_2 e1_k6_1 e151_k6_1 zk6_1 dk6_1
          obtain ⟨Bk6_3, hBk6_3⟩ : ∃ B, Hid (B = ((m.ch.length : Int) == 1)) := ⟨_, Lib.hid rfl⟩
          refine fr_g zk6_2 (t := 153) (by decide) rfl (by rfl) (v := .bool Bk6_3) (fun hG => by have hc0 : ak6_2.eval (.const (.int .i64 1)) = .int .i64 1 := rfl; generalize ak6_2.eval = ρ at e152_k6_2 hc0; rw [hBk6_3.out]; simp only [execOp]; go_simp) fun ak6_3 fk6_3 => ?_
          have e1_k6_3 := (fk6_3.other 1 (by decide)).trans e1_k6_2
          have e153_k6_3 : ak6_3.eval (.tmp 153) = .bool Bk6_3 := fk6_3.own
          have zk6_3 := fk6_3.sz
          have dk6_3 := fk6_3.df.trans dk6_2
          clear fk6_3 e1_k6_2 e152_k6_2 zk6_2 dk6_2
          refine fr_g zk6_3 (t := 154) (by decide) rfl (by rfl) (v := .bool Bk6_3) (fun hG => by generalize ak6_3.eval = ρ at e153_k6_3; simp only [execOp]; go_simp) fun ak6_4 fk6_4 => ?_
          have e1_k6_4 := (fk6_4.other 1 (by decide)).trans e1_k6_3
          have e154_k6_4 : ak6_4.eval (.tmp 154) = .bool Bk6_3 := fk6_4.own
          have zk6_4 := fk6_4.sz
          have dk6_4 := fk6_4.df.trans dk6_3
          clear fk6_4 e1_k6_3 e153_k6_3 zk6_3 dk6_3
          obtain ⟨Gk6_5, hGk6_5⟩ : ∃ G, Hid (G = (true && (Bk6_3 == true))) := ⟨_, Lib.hid rfl⟩
          have iGk6_5 := Lib.hid (show Gk6_5 = true → true = true ∧ Bk6_3 = true from fun h => by rw [hGk6_5.out] at h; simpa using h)
          refine fr_g zk6_4 (t := 155) (by decide) rfl ((fr_w0 (k := 4) (b := true) (t := 154) rfl rfl e154_k6_4).trans hGk6_5.out.symm) (v := .pointer (some ⟨w.heap.size, 1, none⟩)) (fun hG => by obtain ⟨hp0, hb0⟩ := iGk6_5.out hG; generalize ak6_4.eval = ρ at e1_k6_4; simp only [execOp]; go_simp) fun ak6_5 fk6_5 => ?_
          have e1_k6_5 := (fk6_5.other 1 (by decide)).trans e1_k6_4
          have e154_k6_5 := (fk6_5.other 154 (by decide)).trans e154_k6_4
          have e155_k6_5 : ak6_5.eval (.tmp 155) = vif Gk6_5 (.pointer (some ⟨w.heap.size, 1, none⟩)) := fk6_5.own
          have zk6_5 := fk6_5.sz
          have dk6_5 := fk6_5.df.trans dk6_4
          clear fk6_5 e1_k6_4 e154_k6_4 zk6_4 dk6_4
          refine fr_g zk6_5 (t := 156) (by decide) rfl ((fr_w0 (k := 4) (b := true) (t := 154) rfl rfl e154_k6_5).trans hGk6_5.out.symm) (v := .int .i64 m.e) (fun hG => by obtain ⟨hp0, hb0⟩ := iGk6_5.out hG; have y1 := X1.out wf HB.out; generalize ak6_5.eval = ρ at e155_k6_5; simp only [vif, cond_true, cond_false, hG, hp0, hb0] at e155_k6_5; simp only [execOp]; go_simp) fun ak6_6 fk6_6 => ?_
          have e1_k6_6 := (fk6_6.other 1 (by decide)).trans e1_k6_5
          have e154_k6_6 := (fk6_6.other 154 (by decide)).trans e154_k6_5
          have e156_k6_6 : ak6_6.eval (.tmp 156) = vif Gk6_5 (.int .i64 m.e) := fk6_6.own
          have zk6_6 := fk6_6.sz
          have dk6_6 := fk6_6.df.trans dk6_5
          clear fk6_6 e1_k6_5 e154_k6_5 e155_k6_5 zk6_5 dk6_5
          refine fr_g zk6_6 (t := 157) (by decide) rfl ((fr_w0 (k := 4) (b := true) (t := 154) rfl rfl e154_k6_6).trans hGk6_5.out.symm) (v := .pointer (some ⟨w.heap.size, 2, none⟩)) (fun hG => by obtain ⟨hp0, hb0⟩ := iGk6_5.out hG; generalize ak6_6.eval = ρ at e1_k6_6; simp only [execOp]; go_simp) fun ak6_7 fk6_7 => ?_
          have e1_k6_7 := (fk6_7.other 1 (by decide)).trans e1_k6_6
          have e154_k6_7 := (fk6_7.other 154 (by decide)).trans e154_k6_6
          have e156_k6_7 := (fk6_7.other 156 (by decide)).trans e156_k6_6
          have e157_k6_7 : ak6_7.eval (.tmp 157) = vif Gk6_5 (.pointer (some ⟨w.heap.size, 2, none⟩)) := fk6_7.own
          have zk6_7 := fk6_7.sz
          have dk6_7 := fk6_7.df.trans dk6_6
          clear fk6_7 e1_k6_6 e154_k6_6 e156_k6_6 zk6_6 dk6_6
          refine fr_g zk6_7 (t := 158) (by decide) rfl ((fr_w0 (k := 4) (b := true) (t := 154) rfl rfl e154_k6_7).trans hGk6_5.out.symm) (v := .int .i64 m.v) (fun hG => by obtain ⟨hp0, hb0⟩ := iGk6_5.out hG; have y2 := X2.out wf HB.out; generalize ak6_7.eval = ρ at e157_k6_7; simp only [vif, cond_true, cond_false, hG, hp0, hb0] at e157_k6_7; simp only [execOp]; go_simp) fun ak6_8 fk6_8 => ?_
          have e1_k6_8 := (fk6_8.other 1 (by decide)).trans e1_k6_7
          have e154_k6_8 := (fk6_8.other 154 (by decide)).trans e154_k6_7
          have e156_k6_8 := (fk6_8.other 156 (by decide)).trans e156_k6_7
          have e158_k6_8 : ak6_8.eval (.tmp 158) = vif Gk6_5 (.int .i64 m.v) := fk6_8.own
          have zk6_8 := fk6_8.sz
          have dk6_8 := fk6_8.df.trans dk6_7
          clear fk6_8 e1_k6_7 e154_k6_7 e156_k6_7 e157_k6_7 zk6_7 dk6_7
          refine fr_g zk6_8 (t := 159) (by decide) rfl ((fr_w0 (k := 4) (b := true) (t := 154) rfl rfl e154_k6_8).trans hGk6_5.out.symm) (v := .pointer (some ⟨w.heap.size, 15, none⟩)) (fun hG => by obtain ⟨hp0, hb0⟩ := iGk6_5.out hG; generalize ak6_8.eval = ρ at e1_k6_8; simp only [execOp]; go_simp) fun ak6_9 fk6_9 => ?_
          have e1_k6_9 := (fk6_9.other 1 (by decide)).trans e1_k6_8
          have e154_k6_9 := (fk6_9.other 154 (by decide)).trans e154_k6_8
          have e156_k6_9 := (fk6_9.other 156 (by decide)).trans e156_k6_8
          have e158_k6_9 := (fk6_9.other 158 (by decide)).trans e158_k6_8
          have e159_k6_9 : ak6_9.eval (.tmp 159) = vif Gk6_5 (.pointer (some ⟨w.heap.size, 15, none⟩)) := fk6_9.own
          have zk6_9 := fk6_9.sz
          have dk6_9 := fk6_9.df.trans dk6_8
          clear fk6_9 e1_k6_8 e154_k6_8 e156_k6_8 e158_k6_8 zk6_8 dk6_8
          refine fr_g zk6_9 (t := 160) (by decide) rfl ((fr_w0 (k := 4) (b := true) (t := 154) rfl rfl e154_k6_9).trans hGk6_5.out.symm) (v := .slice a3 m.ch.length c3) (fun hG => by obtain ⟨hp0, hb0⟩ := iGk6_5.out hG; have y15 := X15.out wf HB.out; generalize ak6_9.eval = ρ at e159_k6_9; simp only [vif, cond_true, cond_false, hG, hp0, hb0] at e159_k6_9; simp only [execOp]; go_simp) fun ak6_10 fk6_10 => ?_
          have e1_k6_10 := (fk6_10.other 1 (by decide)).trans e1_k6_9
          have e154_k6_10 := (fk6_10.other 154 (by decide)).trans e154_k6_9
          have e156_k6_10 := (fk6_10.other 156 (by decide)).trans e156_k6_9
          have e158_k6_10 := (fk6_10.other 158 (by decide)).trans e158_k6_9
          have e160_k6_10 : ak6_10.eval (.tmp 160) = vif Gk6_5 (.slice a3 m.ch.length c3) := fk6_10.own
          have zk6_10 := fk6_10.sz
          have dk6_10 := fk6_10.df.trans dk6_9
          clear fk6_10 e1_k6_9 e154_k6_9 e156_k6_9 e158_k6_9 e159_k6_9 zk6_9 dk6_9
          refine fr_gc zk6_10 (t := 161) (by decide) rfl ((fr_w0 (k := 4) (b := true) (t := 154) rfl rfl e154_k6_10).trans hGk6_5.out.symm) 91 #[.int .i64 m.e, .int .i64 m.v, .slice a3 m.ch.length c3] (v := .bool (changesR m.e m.v none m.ch)) (fun hG => by obtain ⟨hp0, hb0⟩ := iGk6_5.out hG; have hf : ak6_10.eval (.func 91) = .func (.func 91) #[] #[] := rfl; generalize ak6_10.eval = ρ at hf e156_k6_10 e158_k6_10 e160_k6_10; simp only [vif, cond_true, cond_false, hG, hp0, hb0] at e156_k6_10 e158_k6_10 e160_k6_10; simp only [execOp]; go_simp) (fun hG => CC.out wf HB.out) fun ak6_11 uk6_11 blk6_11 fk6_11 => ?_
          have HBk6_11 := Lib.hid (bthen HB.out blk6_11)
          clear blk6_11
          have e1_k6_11 := (fk6_11.other 1 (by decide)).trans e1_k6_10
          have e154_k6_11 := (fk6_11.other 154 (by decide)).trans e154_k6_10
          have e161_k6_11 : ak6_11.eval (.tmp 161) = vif Gk6_5 (.bool (changesR m.e m.v none m.ch)) := fk6_11.own
          have zk6_11 := fk6_11.sz
          have dk6_11 := fk6_11.df.trans dk6_10
          clear fk6_11 e1_k6_10 e154_k6_10 e156_k6_10 e158_k6_10 e160_k6_10 zk6_10 dk6_10
          obtain ⟨Bk6_12, hBk6_12⟩ : ∃ B, Hid (B = ((Bk6_3 && (changesR m.e m.v none m.ch)))) := ⟨_, Lib.hid rfl⟩
          refine fr_g zk6_11 (t := 162) (by decide) rfl (by rfl) (v := .bool Bk6_12) (fun hG => by have hc0 : ak6_11.eval (.const (.bool false)) = .bool false := rfl; generalize ak6_11.eval = ρ at e154_k6_11 e161_k6_11 hc0; rw [hBk6_12.out]; cases Bk6_3 <;> simp only [execOp, vif, cond_true, cond_false, Bool.true_and, Bool.false_and, Bool.true_or, Bool.false_or, beq_self_eq_true, hGk6_5.out] at e161_k6_11 ⊢ <;> go_simp) fun ak6_12 fk6_12 => ?_
          have e1_k6_12 := (fk6_12.other 1 (by decide)).trans e1_k6_11
          have e162_k6_12 : ak6_12.eval (.tmp 162) = .bool Bk6_12 := fk6_12.own
          have zk6_12 := fk6_12.sz
          have dk6_12 := fk6_12.df.trans dk6_11
          clear fk6_12 e1_k6_11 e154_k6_11 e161_k6_11 zk6_11 dk6_11
          refine fr_g zk6_12 (t := 163) (by decide) rfl (by rfl) (v := .bool Bk6_12) (fun hG => by generalize ak6_12.eval = ρ at e162_k6_12; simp only [execOp]; go_simp) fun ak6_13 fk6_13 => ?_
          have e1_k6_13 := (fk6_13.other 1 (by decide)).trans e1_k6_12
          have e163_k6_13 : ak6_13.eval (.tmp 163) = .bool Bk6_12 := fk6_13.own
          have zk6_13 := fk6_13.sz
          have dk6_13 := fk6_13.df.trans dk6_12
          clear fk6_13 e1_k6_12 e162_k6_12 zk6_12 dk6_12
          obtain ⟨Gk6_14, hGk6_14⟩ : ∃ G, Hid (G = (true && (Bk6_12 == true))) := ⟨_, Lib.hid rfl⟩
          have iGk6_14 := Lib.hid (show Gk6_14 = true → true = true ∧ Bk6_12 = true from fun h => by rw [hGk6_14.out] at h; simpa using h)
          refine fr_g zk6_13 (t := 164) (by decide) rfl ((fr_w0 (k := 13) (b := true) (t := 163) rfl rfl e163_k6_13).trans hGk6_14.out.symm) (v := .agg CS) (fun _ => load_row _ _ (.tmp 1) Tryz.underlying35 rfl HI.out rfl e1_k6_13 (KB.out uk6_11 HBk6_11.out)) fun ak6_14 fk6_14 => ?_
          have e1_k6_14 := (fk6_14.other 1 (by decide)).trans e1_k6_13
          have e163_k6_14 := (fk6_14.other 163 (by decide)).trans e163_k6_13
          have e164_k6_14 : ak6_14.eval (.tmp 164) = vif Gk6_14 (.agg CS) := fk6_14.own
          have zk6_14 := fk6_14.sz
          have dk6_14 := fk6_14.df.trans dk6_13
          clear fk6_14 e1_k6_13 e163_k6_13 zk6_13 dk6_13
          refine fr_gc zk6_14 (t := 165) (by decide) rfl ((fr_w0 (k := 13) (b := true) (t := 163) rfl rfl e163_k6_14).trans hGk6_14.out.symm) 87 #[.agg CS, .string ⟨#[118, 99]⟩] (v := .bool (restB { v := true, ch := true } m)) (fun hG => by obtain ⟨hp0, hb0⟩ := iGk6_14.out hG; have hc0 : ak6_14.eval (.const (.string ⟨#[118, 99]⟩)) = .string ⟨#[118, 99]⟩ := rfl; have hf : ak6_14.eval (.func 87) = .func (.func 87) #[] #[] := rfl; generalize ak6_14.eval = ρ at hf e164_k6_14 hc0; simp only [vif, cond_true, cond_false, hG, hp0, hb0] at e164_k6_14; simp only [execOp]; go_simp) (fun hG => CZvc.out uk6_11 HBk6_11.out) fun ak6_15 uk6_15 blk6_15 fk6_15 => ?_
          have HBk6_15 := Lib.hid (bthen HBk6_11.out blk6_15)
          clear blk6_15
          have e1_k6_15 := (fk6_15.other 1 (by decide)).trans e1_k6_14
          have e163_k6_15 := (fk6_15.other 163 (by decide)).trans e163_k6_14
          have e165_k6_15 : ak6_15.eval (.tmp 165) = vif Gk6_14 (.bool (restB { v := true, ch := true } m)) := fk6_15.own
          have zk6_15 := fk6_15.sz
          have dk6_15 := fk6_15.df.trans dk6_14
          clear fk6_15 e1_k6_14 e163_k6_14 e164_k6_14 zk6_14 dk6_14
          obtain ⟨Bk6_16, hBk6_16⟩ : ∃ B, Hid (B = ((Bk6_12 && (restB { v := true, ch := true } m)))) := ⟨_, Lib.hid rfl⟩
          refine fr_g zk6_15 (t := 166) (by decide) rfl (by rfl) (v := .bool Bk6_16) (fun hG => by have hc0 : ak6_15.eval (.const (.bool false)) = .bool false := rfl; generalize ak6_15.eval = ρ at e163_k6_15 e165_k6_15 hc0; rw [hBk6_16.out]; cases Bk6_12 <;> simp only [execOp, vif, cond_true, cond_false, Bool.true_and, Bool.false_and, Bool.true_or, Bool.false_or, beq_self_eq_true, hGk6_5.out, hGk6_14.out] at e165_k6_15 ⊢ <;> go_simp) fun ak6_16 fk6_16 => ?_
          have e1_k6_16 := (fk6_16.other 1 (by decide)).trans e1_k6_15
          have e166_k6_16 : ak6_16.eval (.tmp 166) = .bool Bk6_16 := fk6_16.own
          have zk6_16 := fk6_16.sz
          have dk6_16 := fk6_16.df.trans dk6_15
          clear fk6_16 e1_k6_15 e163_k6_15 e165_k6_15 zk6_15 dk6_15
          refine fr_g zk6_16 (t := 5) (by decide) rfl (by rfl) (v := .bool Bk6_16) (fun hG => by generalize ak6_16.eval = ρ at e166_k6_16; simp only [execOp]; go_simp) fun ak6_17 fk6_17 => ?_
          have e1_k6_17 := (fk6_17.other 1 (by decide)).trans e1_k6_16
          have e5_k6_17 : ak6_17.eval (.tmp 5) = .bool Bk6_16 := fk6_17.own
          have zk6_17 := fk6_17.sz
          have dk6_17 := fk6_17.df.trans dk6_16
          clear fk6_17 e1_k6_16 e166_k6_16 zk6_16 dk6_16
          have hv : Bk6_16 = okR m := by
            rw [hok]
            unfold okR6
            simp only [hBk6_16.out, hBk6_12.out, hBk6_3.out]
            try (simp [Bool.and_assoc])
          exact hQ _ _ ⟨zk6_17, dk6_17, HBk6_15.out, e1_k6_17, by rw [e5_k6_17, hv]⟩
        intro a' w' h
        exact hQ0 _ _ h
      clear et
      refine wp_seq ?_
      refine fr_region (fun a' w' => a'.tmps.size = 268 ∧ a'.defers = [] ∧ Below w1.heap.size w1 w' ∧ a'.eval (.tmp 1) = .pointer (some ⟨w.heap.size, 0, none⟩) ∧ a'.eval (.tmp 3) = .bool (decide (0 ≤ m.v) && decide (m.v ≤ 15)) ∧ a'.eval (.tmp 4) = .bool (ofR m.e m.s) ∧ a'.eval (.tmp 30) = .int .i64 m.k ∧ a'.eval (.tmp 167) = .bool (m.k == 7)) (fun Q' hQ => ?_) ?_
      · skip
        refine fr_g hsz (t := 168) (by decide) rfl (by rfl) (v := .bool (m.k == 7)) (fun hG => by have hc0 : af.eval (.const (.int .i64 7)) = .int .i64 7 := rfl; generalize af.eval = ρ at e30 hc0; simp only [execOp]; go_simp) fun at7_0 ft7_0 => ?_
        have e1_t7_0 := (ft7_0.other 1 (by decide)).trans e1
        have e3_t7_0 := (ft7_0.other 3 (by decide)).trans e3
        have e4_t7_0 := (ft7_0.other 4 (by decide)).trans e4
        have e30_t7_0 := (ft7_0.other 30 (by decide)).trans e30
        have e168_t7_0 : at7_0.eval (.tmp 168) = .bool (m.k == 7) := ft7_0.own
        have zt7_0 := ft7_0.sz
        have dt7_0 := ft7_0.df.trans hdf
        clear ft7_0 e1 e3 e4 e30 hsz hdf
        refine fr_g zt7_0 (t := 167) (by decide) rfl (by rfl) (v := .bool (m.k == 7)) (fun hG => by generalize at7_0.eval = ρ at e168_t7_0; simp only [execOp]; go_simp) fun at7_1 ft7_1 => ?_
        have e1_t7_1 := (ft7_1.other 1 (by decide)).trans e1_t7_0
        have e3_t7_1 := (ft7_1.other 3 (by decide)).trans e3_t7_0
        have e4_t7_1 := (ft7_1.other 4 (by decide)).trans e4_t7_0
        have e30_t7_1 := (ft7_1.other 30 (by decide)).trans e30_t7_0
        have e167_t7_1 : at7_1.eval (.tmp 167) = .bool (m.k == 7) := ft7_1.own
        have zt7_1 := ft7_1.sz
        have dt7_1 := ft7_1.df.trans dt7_0
        clear ft7_1 e1_t7_0 e3_t7_0 e4_t7_0 e30_t7_0 e168_t7_0 zt7_0 dt7_0
        exact hQ _ _ ⟨zt7_1, dt7_1, HB.out, e1_t7_1, e3_t7_1, e4_t7_1, e30_t7_1, e167_t7_1⟩
      clear e3 e4 e30 hsz hdf e1 HB
      rintro af wf ⟨hsz, hdf, hb, e1, e3, e4, e30, et⟩
      have HB := Lib.hid hb
      clear hb
      show Code.wp Tryz.prog _ _ af wf
      refine wp_cond_split et (fun ht => ?_) (fun hf7 => ?_)
      · have h : m.k = 7 := by simpa using ht
        have hok : okR m = okR7 m := by unfold okR; rw [if_neg (by omega), if_neg (by omega), if_neg (by omega), if_neg (by omega), if_neg (by omega), if_neg (by omega), if_pos h]
        clear h hk et ht
        clear e30 e3 e4
        refine fr_region (fun a' w' => a'.tmps.size = 268 ∧ a'.defers = [] ∧ Below w1.heap.size w1 w' ∧ a'.eval (.tmp 1) = .pointer (some ⟨w.heap.size, 0, none⟩) ∧ a'.eval (.tmp 5) = .bool (okR m)) (fun Q' hQ => ?_) ?_
        · skip
          refine fr_g hsz (t := 169) (by decide) rfl (by rfl) (v := .pointer (some ⟨w.heap.size, 15, none⟩)) (fun hG => by generalize af.eval = ρ at e1; simp only [execOp]; go_simp) fun ak7_0 fk7_0 => ?_
          have e1_k7_0 := (fk7_0.other 1 (by decide)).trans e1
          have e169_k7_0 : ak7_0.eval (.tmp 169) = .pointer (some ⟨w.heap.size, 15, none⟩) := fk7_0.own
          have zk7_0 := fk7_0.sz
          have dk7_0 := fk7_0.df.trans hdf
          clear fk7_0 e1 hsz hdf
          refine fr_g zk7_0 (t := 170) (by decide) rfl (by rfl) (v := .slice a3 m.ch.length c3) (fun hG => by have y15 := X15.out wf HB.out; generalize ak7_0.eval = ρ at e169_k7_0; simp only [execOp]; go_simp) fun ak7_1 fk7_1 => ?_
          have e1_k7_1 := (fk7_1.other 1 (by decide)).trans e1_k7_0
          have e170_k7_1 : ak7_1.eval (.tmp 170) = .slice a3 m.ch.length c3 := fk7_1.own
          have zk7_1 := fk7_1.sz
          have dk7_1 := fk7_1.df.trans dk7_0
          clear fk7_1 e1_k7_0 e169_k7_0 zk7_0 dk7_0
          refine fr_g zk7_1 (t := 171) (by decide) rfl (by rfl) (v := .int .i64 m.ch.length) (fun hG => by generalize ak7_1.eval = ρ at e170_k7_1; simp only [execOp]; go_simp) fun ak7_2 fk7_2 => ?_
          have e1_k7_2 := (fk7_2.other 1 (by decide)).trans e1_k7_1
          have e171_k7_2 : ak7_2.eval (.tmp 171) = .int .i64 m.ch.length := fk7_2.own
          have zk7_2 := fk7_2.sz
          have dk7_2 := fk7_2.df.trans dk7_1
          clear fk7_2 e1_k7_1 e170_k7_1 zk7_1 dk7_1
          obtain ⟨Bk7_3, hBk7_3⟩ : ∃ B, Hid (B = (decide ((1 : Int) ≤ m.ch.length))) := ⟨_, Lib.hid rfl⟩
          refine fr_g zk7_2 (t := 172) (by decide) rfl (by rfl) (v := .bool Bk7_3) (fun hG => by have hc0 : ak7_2.eval (.const (.int .i64 1)) = .int .i64 1 := rfl; generalize ak7_2.eval = ρ at e171_k7_2 hc0; rw [hBk7_3.out]; simp only [execOp]; go_simp) fun ak7_3 fk7_3 => ?_
          have e1_k7_3 := (fk7_3.other 1 (by decide)).trans e1_k7_2
          have e172_k7_3 : ak7_3.eval (.tmp 172) = .bool Bk7_3 := fk7_3.own
          have zk7_3 := fk7_3.sz
          have dk7_3 := fk7_3.df.trans dk7_2
          clear fk7_3 e1_k7_2 e171_k7_2 zk7_2 dk7_2
          refine fr_g zk7_3 (t := 173) (by decide) rfl (by rfl) (v := .bool Bk7_3) (fun hG => by generalize ak7_3.eval = ρ at e172_k7_3; simp only [execOp]; go_simp) fun ak7_4 fk7_4 => ?_
          have e1_k7_4 := (fk7_4.other 1 (by decide)).trans e1_k7_3
          have e173_k7_4 : ak7_4.eval (.tmp 173) = .bool Bk7_3 := fk7_4.own
          have zk7_4 := fk7_4.sz
          have dk7_4 := fk7_4.df.trans dk7_3
          clear fk7_4 e1_k7_3 e172_k7_3 zk7_3 dk7_3
          obtain ⟨Gk7_5, hGk7_5⟩ : ∃ G, Hid (G = (true && (Bk7_3 == true))) := ⟨_, Lib.hid rfl⟩
          have iGk7_5 := Lib.hid (show Gk7_5 = true → true = true ∧ Bk7_3 = true from fun h => by rw [hGk7_5.out] at h; simpa using h)
          refine fr_g zk7_4 (t := 174) (by decide) rfl ((fr_w0 (k := 4) (b := true) (t := 173) rfl rfl e173_k7_4).trans hGk7_5.out.symm) (v := .pointer (some ⟨w.heap.size, 15, none⟩)) (fun hG => by obtain ⟨hp0, hb0⟩ := iGk7_5.out hG; generalize ak7_4.eval = ρ at e1_k7_4; simp only [execOp]; go_simp) fun ak7_5 fk7_5 => ?_
          have e1_k7_5 := (fk7_5.other 1 (by decide)).trans e1_k7_4
          have e173_k7_5 := (fk7_5.other 173 (by decide)).trans e173_k7_4
          have e174_k7_5 : ak7_5.eval (.tmp 174) = vif Gk7_5 (.pointer (some ⟨w.heap.size, 15, none⟩)) := fk7_5.own
          have zk7_5 := fk7_5.sz
          have dk7_5 := fk7_5.df.trans dk7_4
          clear fk7_5 e1_k7_4 e173_k7_4 zk7_4 dk7_4
          refine fr_g zk7_5 (t := 175) (by decide) rfl ((fr_w0 (k := 4) (b := true) (t := 173) rfl rfl e173_k7_5).trans hGk7_5.out.symm) (v := .slice a3 m.ch.length c3) (fun hG => by obtain ⟨hp0, hb0⟩ := iGk7_5.out hG; have y15 := X15.out wf HB.out; generalize ak7_5.eval = ρ at e174_k7_5; simp only [vif, cond_true, cond_false, hG, hp0, hb0] at e174_k7_5; simp only [execOp]; go_simp) fun ak7_6 fk7_6 => ?_
          have e1_k7_6 := (fk7_6.other 1 (by decide)).trans e1_k7_5
          have e173_k7_6 := (fk7_6.other 173 (by decide)).trans e173_k7_5
          have e175_k7_6 : ak7_6.eval (.tmp 175) = vif Gk7_5 (.slice a3 m.ch.length c3) := fk7_6.own
          have zk7_6 := fk7_6.sz
          have dk7_6 := fk7_6.df.trans dk7_5
          clear fk7_6 e1_k7_5 e173_k7_5 e174_k7_5 zk7_5 dk7_5
          refine fr_g zk7_6 (t := 176) (by decide) rfl ((fr_w0 (k := 4) (b := true) (t := 173) rfl rfl e173_k7_6).trans hGk7_5.out.symm) (v := .int .i64 m.ch.length) (fun hG => by obtain ⟨hp0, hb0⟩ := iGk7_5.out hG; generalize ak7_6.eval = ρ at e175_k7_6; simp only [vif, cond_true, cond_false, hG, hp0, hb0] at e175_k7_6; simp only [execOp]; go_simp) fun ak7_7 fk7_7 => ?_
          have e1_k7_7 := (fk7_7.other 1 (by decide)).trans e1_k7_6
          have e173_k7_7 := (fk7_7.other 173 (by decide)).trans e173_k7_6
          have e176_k7_7 : ak7_7.eval (.tmp 176) = vif Gk7_5 (.int .i64 m.ch.length) := fk7_7.own
          have zk7_7 := fk7_7.sz
          have dk7_7 := fk7_7.df.trans dk7_6
          clear fk7_7 e1_k7_6 e173_k7_6 e175_k7_6 zk7_6 dk7_6
          obtain ⟨Bk7_8, hBk7_8⟩ : ∃ B, Hid (B = (decide ((m.ch.length : Int) ≤ 10))) := ⟨_, Lib.hid rfl⟩
          refine fr_g zk7_7 (t := 177) (by decide) rfl ((fr_w0 (k := 4) (b := true) (t := 173) rfl rfl e173_k7_7).trans hGk7_5.out.symm) (v := .bool Bk7_8) (fun hG => by obtain ⟨hp0, hb0⟩ := iGk7_5.out hG; have hc0 : ak7_7.eval (.const (.int .i64 10)) = .int .i64 10 := rfl; generalize ak7_7.eval = ρ at e176_k7_7 hc0; simp only [vif, cond_true, cond_false, hG, hp0, hb0] at e176_k7_7; rw [hBk7_8.out]; simp only [execOp]; go_simp) fun ak7_8 fk7_8 => ?_
          have e1_k7_8 := (fk7_8.other 1 (by decide)).trans e1_k7_7
          have e173_k7_8 := (fk7_8.other 173 (by decide)).trans e173_k7_7
          have e177_k7_8 : ak7_8.eval (.tmp 177) = vif Gk7_5 (.bool Bk7_8) := fk7_8.own
          have zk7_8 := fk7_8.sz
          have dk7_8 := fk7_8.df.trans dk7_7
          clear fk7_8 e1_k7_7 e173_k7_7 e176_k7_7 zk7_7 dk7_7
          obtain ⟨Bk7_9, hBk7_9⟩ : ∃ B, Hid (B = ((Bk7_3 && Bk7_8))) := ⟨_, Lib.hid rfl⟩
          refine fr_g zk7_8 (t := 178) (by decide) rfl (by rfl) (v := .bool Bk7_9) (fun hG => by have hc0 : ak7_8.eval (.const (.bool false)) = .bool false := rfl; generalize ak7_8.eval = ρ at e173_k7_8 e177_k7_8 hc0; rw [hBk7_9.out]; cases Bk7_3 <;> simp only [execOp, vif, cond_true, cond_false, Bool.true_and, Bool.false_and, Bool.true_or, Bool.false_or, beq_self_eq_true, hGk7_5.out] at e177_k7_8 ⊢ <;> go_simp) fun ak7_9 fk7_9 => ?_
          have e1_k7_9 := (fk7_9.other 1 (by decide)).trans e1_k7_8
          have e178_k7_9 : ak7_9.eval (.tmp 178) = .bool Bk7_9 := fk7_9.own
          have zk7_9 := fk7_9.sz
          have dk7_9 := fk7_9.df.trans dk7_8
          clear fk7_9 e1_k7_8 e173_k7_8 e177_k7_8 zk7_8 dk7_8
          refine fr_g zk7_9 (t := 179) (by decide) rfl (by rfl) (v := .bool Bk7_9) (fun hG => by generalize ak7_9.eval = ρ at e178_k7_9; simp only [execOp]; go_simp) fun ak7_10 fk7_10 => ?_
          have e1_k7_10 := (fk7_10.other 1 (by decide)).trans e1_k7_9
          have e179_k7_10 : ak7_10.eval (.tmp 179) = .bool Bk7_9 := fk7_10.own
          have zk7_10 := fk7_10.sz
          have dk7_10 := fk7_10.df.trans dk7_9
          clear fk7_10 e1_k7_9 e178_k7_9 zk7_9 dk7_9
          obtain ⟨Gk7_11, hGk7_11⟩ : ∃ G, Hid (G = (true && (Bk7_9 == true))) := ⟨_, Lib.hid rfl⟩
          have iGk7_11 := Lib.hid (show Gk7_11 = true → true = true ∧ Bk7_9 = true from fun h => by rw [hGk7_11.out] at h; simpa using h)
          refine fr_g zk7_10 (t := 180) (by decide) rfl ((fr_w0 (k := 10) (b := true) (t := 179) rfl rfl e179_k7_10).trans hGk7_11.out.symm) (v := .pointer (some ⟨w.heap.size, 1, none⟩)) (fun hG => by obtain ⟨hp0, hb0⟩ := iGk7_11.out hG; generalize ak7_10.eval = ρ at e1_k7_10; simp only [execOp]; go_simp) fun ak7_11 fk7_11 => ?_
          have e1_k7_11 := (fk7_11.other 1 (by decide)).trans e1_k7_10
          have e179_k7_11 := (fk7_11.other 179 (by decide)).trans e179_k7_10
          have e180_k7_11 : ak7_11.eval (.tmp 180) = vif Gk7_11 (.pointer (some ⟨w.heap.size, 1, none⟩)) := fk7_11.own
          have zk7_11 := fk7_11.sz
          have dk7_11 := fk7_11.df.trans dk7_10
          clear fk7_11 e1_k7_10 e179_k7_10 zk7_10 dk7_10
          refine fr_g zk7_11 (t := 181) (by decide) rfl ((fr_w0 (k := 10) (b := true) (t := 179) rfl rfl e179_k7_11).trans hGk7_11.out.symm) (v := .int .i64 m.e) (fun hG => by obtain ⟨hp0, hb0⟩ := iGk7_11.out hG; have y1 := X1.out wf HB.out; generalize ak7_11.eval = ρ at e180_k7_11; simp only [vif, cond_true, cond_false, hG, hp0, hb0] at e180_k7_11; simp only [execOp]; go_simp) fun ak7_12 fk7_12 => ?_
          have e1_k7_12 := (fk7_12.other 1 (by decide)).trans e1_k7_11
          have e179_k7_12 := (fk7_12.other 179 (by decide)).trans e179_k7_11
          have e181_k7_12 : ak7_12.eval (.tmp 181) = vif Gk7_11 (.int .i64 m.e) := fk7_12.own
          have zk7_12 := fk7_12.sz
          have dk7_12 := fk7_12.df.trans dk7_11
          clear fk7_12 e1_k7_11 e179_k7_11 e180_k7_11 zk7_11 dk7_11
          refine fr_g zk7_12 (t := 182) (by decide) rfl ((fr_w0 (k := 10) (b := true) (t := 179) rfl rfl e179_k7_12).trans hGk7_11.out.symm) (v := .pointer (some ⟨w.heap.size, 2, none⟩)) (fun hG => by obtain ⟨hp0, hb0⟩ := iGk7_11.out hG; generalize ak7_12.eval = ρ at e1_k7_12; simp only [execOp]; go_simp) fun ak7_13 fk7_13 => ?_
          have e1_k7_13 := (fk7_13.other 1 (by decide)).trans e1_k7_12
          have e179_k7_13 := (fk7_13.other 179 (by decide)).trans e179_k7_12
          have e181_k7_13 := (fk7_13.other 181 (by decide)).trans e181_k7_12
          have e182_k7_13 : ak7_13.eval (.tmp 182) = vif Gk7_11 (.pointer (some ⟨w.heap.size, 2, none⟩)) := fk7_13.own
          have zk7_13 := fk7_13.sz
          have dk7_13 := fk7_13.df.trans dk7_12
          clear fk7_13 e1_k7_12 e179_k7_12 e181_k7_12 zk7_12 dk7_12
          refine fr_g zk7_13 (t := 183) (by decide) rfl ((fr_w0 (k := 10) (b := true) (t := 179) rfl rfl e179_k7_13).trans hGk7_11.out.symm) (v := .int .i64 m.v) (fun hG => by obtain ⟨hp0, hb0⟩ := iGk7_11.out hG; have y2 := X2.out wf HB.out; generalize ak7_13.eval = ρ at e182_k7_13; simp only [vif, cond_true, cond_false, hG, hp0, hb0] at e182_k7_13; simp only [execOp]; go_simp) fun ak7_14 fk7_14 => ?_
          have e1_k7_14 := (fk7_14.other 1 (by decide)).trans e1_k7_13
          have e179_k7_14 := (fk7_14.other 179 (by decide)).trans e179_k7_13
          have e181_k7_14 := (fk7_14.other 181 (by decide)).trans e181_k7_13
          have e183_k7_14 : ak7_14.eval (.tmp 183) = vif Gk7_11 (.int .i64 m.v) := fk7_14.own
          have zk7_14 := fk7_14.sz
          have dk7_14 := fk7_14.df.trans dk7_13
          clear fk7_14 e1_k7_13 e179_k7_13 e181_k7_13 e182_k7_13 zk7_13 dk7_13
          refine fr_g zk7_14 (t := 184) (by decide) rfl ((fr_w0 (k := 10) (b := true) (t := 179) rfl rfl e179_k7_14).trans hGk7_11.out.symm) (v := .pointer (some ⟨w.heap.size, 15, none⟩)) (fun hG => by obtain ⟨hp0, hb0⟩ := iGk7_11.out hG; generalize ak7_14.eval = ρ at e1_k7_14; simp only [execOp]; go_simp) fun ak7_15 fk7_15 => ?_
          have e1_k7_15 := (fk7_15.other 1 (by decide)).trans e1_k7_14
          have e179_k7_15 := (fk7_15.other 179 (by decide)).trans e179_k7_14
          have e181_k7_15 := (fk7_15.other 181 (by decide)).trans e181_k7_14
          have e183_k7_15 := (fk7_15.other 183 (by decide)).trans e183_k7_14
          have e184_k7_15 : ak7_15.eval (.tmp 184) = vif Gk7_11 (.pointer (some ⟨w.heap.size, 15, none⟩)) := fk7_15.own
          have zk7_15 := fk7_15.sz
          have dk7_15 := fk7_15.df.trans dk7_14
          clear fk7_15 e1_k7_14 e179_k7_14 e181_k7_14 e183_k7_14 zk7_14 dk7_14
          refine fr_g zk7_15 (t := 185) (by decide) rfl ((fr_w0 (k := 10) (b := true) (t := 179) rfl rfl e179_k7_15).trans hGk7_11.out.symm) (v := .slice a3 m.ch.length c3) (fun hG => by obtain ⟨hp0, hb0⟩ := iGk7_11.out hG; have y15 := X15.out wf HB.out; generalize ak7_15.eval = ρ at e184_k7_15; simp only [vif, cond_true, cond_false, hG, hp0, hb0] at e184_k7_15; simp only [execOp]; go_simp) fun ak7_16 fk7_16 => ?_
          have e1_k7_16 := (fk7_16.other 1 (by decide)).trans e1_k7_15
          have e179_k7_16 := (fk7_16.other 179 (by decide)).trans e179_k7_15
          have e181_k7_16 := (fk7_16.other 181 (by decide)).trans e181_k7_15
          have e183_k7_16 := (fk7_16.other 183 (by decide)).trans e183_k7_15
          have e185_k7_16 : ak7_16.eval (.tmp 185) = vif Gk7_11 (.slice a3 m.ch.length c3) := fk7_16.own
          have zk7_16 := fk7_16.sz
          have dk7_16 := fk7_16.df.trans dk7_15
          clear fk7_16 e1_k7_15 e179_k7_15 e181_k7_15 e183_k7_15 e184_k7_15 zk7_15 dk7_15
          refine fr_gc zk7_16 (t := 186) (by decide) rfl ((fr_w0 (k := 10) (b := true) (t := 179) rfl rfl e179_k7_16).trans hGk7_11.out.symm) 91 #[.int .i64 m.e, .int .i64 m.v, .slice a3 m.ch.length c3] (v := .bool (changesR m.e m.v none m.ch)) (fun hG => by obtain ⟨hp0, hb0⟩ := iGk7_11.out hG; have hf : ak7_16.eval (.func 91) = .func (.func 91) #[] #[] := rfl; generalize ak7_16.eval = ρ at hf e181_k7_16 e183_k7_16 e185_k7_16; simp only [vif, cond_true, cond_false, hG, hp0, hb0] at e181_k7_16 e183_k7_16 e185_k7_16; simp only [execOp]; go_simp) (fun hG => CC.out wf HB.out) fun ak7_17 uk7_17 blk7_17 fk7_17 => ?_
          have HBk7_17 := Lib.hid (bthen HB.out blk7_17)
          clear blk7_17
          have e1_k7_17 := (fk7_17.other 1 (by decide)).trans e1_k7_16
          have e179_k7_17 := (fk7_17.other 179 (by decide)).trans e179_k7_16
          have e186_k7_17 : ak7_17.eval (.tmp 186) = vif Gk7_11 (.bool (changesR m.e m.v none m.ch)) := fk7_17.own
          have zk7_17 := fk7_17.sz
          have dk7_17 := fk7_17.df.trans dk7_16
          clear fk7_17 e1_k7_16 e179_k7_16 e181_k7_16 e183_k7_16 e185_k7_16 zk7_16 dk7_16
          obtain ⟨Bk7_18, hBk7_18⟩ : ∃ B, Hid (B = ((Bk7_9 && (changesR m.e m.v none m.ch)))) := ⟨_, Lib.hid rfl⟩
          refine fr_g zk7_17 (t := 187) (by decide) rfl (by rfl) (v := .bool Bk7_18) (fun hG => by have hc0 : ak7_17.eval (.const (.bool false)) = .bool false := rfl; generalize ak7_17.eval = ρ at e179_k7_17 e186_k7_17 hc0; rw [hBk7_18.out]; cases Bk7_9 <;> simp only [execOp, vif, cond_true, cond_false, Bool.true_and, Bool.false_and, Bool.true_or, Bool.false_or, beq_self_eq_true, hGk7_5.out, hGk7_11.out] at e186_k7_17 ⊢ <;> go_simp) fun ak7_18 fk7_18 => ?_
          have e1_k7_18 := (fk7_18.other 1 (by decide)).trans e1_k7_17
          have e187_k7_18 : ak7_18.eval (.tmp 187) = .bool Bk7_18 := fk7_18.own
          have zk7_18 := fk7_18.sz
          have dk7_18 := fk7_18.df.trans dk7_17
          clear fk7_18 e1_k7_17 e179_k7_17 e186_k7_17 zk7_17 dk7_17
          refine fr_g zk7_18 (t := 188) (by decide) rfl (by rfl) (v := .bool Bk7_18) (fun hG => by generalize ak7_18.eval = ρ at e187_k7_18; simp only [execOp]; go_simp) fun ak7_19 fk7_19 => ?_
          have e1_k7_19 := (fk7_19.other 1 (by decide)).trans e1_k7_18
          have e188_k7_19 : ak7_19.eval (.tmp 188) = .bool Bk7_18 := fk7_19.own
          have zk7_19 := fk7_19.sz
          have dk7_19 := fk7_19.df.trans dk7_18
          clear fk7_19 e1_k7_18 e187_k7_18 zk7_18 dk7_18
          obtain ⟨Gk7_20, hGk7_20⟩ : ∃ G, Hid (G = (true && (Bk7_18 == true))) := ⟨_, Lib.hid rfl⟩
          have iGk7_20 := Lib.hid (show Gk7_20 = true → true = true ∧ Bk7_18 = true from fun h => by rw [hGk7_20.out] at h; simpa using h)
          refine fr_g zk7_19 (t := 189) (by decide) rfl ((fr_w0 (k := 19) (b := true) (t := 188) rfl rfl e188_k7_19).trans hGk7_20.out.symm) (v := .agg CS) (fun _ => load_row _ _ (.tmp 1) Tryz.underlying35 rfl HI.out rfl e1_k7_19 (KB.out uk7_17 HBk7_17.out)) fun ak7_20 fk7_20 => ?_
          have e1_k7_20 := (fk7_20.other 1 (by decide)).trans e1_k7_19
          have e188_k7_20 := (fk7_20.other 188 (by decide)).trans e188_k7_19
          have e189_k7_20 : ak7_20.eval (.tmp 189) = vif Gk7_20 (.agg CS) := fk7_20.own
          have zk7_20 := fk7_20.sz
          have dk7_20 := fk7_20.df.trans dk7_19
          clear fk7_20 e1_k7_19 e188_k7_19 zk7_19 dk7_19
          refine fr_gc zk7_20 (t := 190) (by decide) rfl ((fr_w0 (k := 19) (b := true) (t := 188) rfl rfl e188_k7_20).trans hGk7_20.out.symm) 87 #[.agg CS, .string ⟨#[118, 99]⟩] (v := .bool (restB { v := true, ch := true } m)) (fun hG => by obtain ⟨hp0, hb0⟩ := iGk7_20.out hG; have hc0 : ak7_20.eval (.const (.string ⟨#[118, 99]⟩)) = .string ⟨#[118, 99]⟩ := rfl; have hf : ak7_20.eval (.func 87) = .func (.func 87) #[] #[] := rfl; generalize ak7_20.eval = ρ at hf e189_k7_20 hc0; simp only [vif, cond_true, cond_false, hG, hp0, hb0] at e189_k7_20; simp only [execOp]; go_simp) (fun hG => CZvc.out uk7_17 HBk7_17.out) fun ak7_21 uk7_21 blk7_21 fk7_21 => ?_
          have HBk7_21 := Lib.hid (bthen HBk7_17.out blk7_21)
          clear blk7_21
          have e1_k7_21 := (fk7_21.other 1 (by decide)).trans e1_k7_20
          have e188_k7_21 := (fk7_21.other 188 (by decide)).trans e188_k7_20
          have e190_k7_21 : ak7_21.eval (.tmp 190) = vif Gk7_20 (.bool (restB { v := true, ch := true } m)) := fk7_21.own
          have zk7_21 := fk7_21.sz
          have dk7_21 := fk7_21.df.trans dk7_20
          clear fk7_21 e1_k7_20 e188_k7_20 e189_k7_20 zk7_20 dk7_20
          obtain ⟨Bk7_22, hBk7_22⟩ : ∃ B, Hid (B = ((Bk7_18 && (restB { v := true, ch := true } m)))) := ⟨_, Lib.hid rfl⟩
          refine fr_g zk7_21 (t := 191) (by decide) rfl (by rfl) (v := .bool Bk7_22) (fun hG => by have hc0 : ak7_21.eval (.const (.bool false)) = .bool false := rfl; generalize ak7_21.eval = ρ at e188_k7_21 e190_k7_21 hc0; rw [hBk7_22.out]; cases Bk7_18 <;> simp only [execOp, vif, cond_true, cond_false, Bool.true_and, Bool.false_and, Bool.true_or, Bool.false_or, beq_self_eq_true, hGk7_5.out, hGk7_11.out, hGk7_20.out] at e190_k7_21 ⊢ <;> go_simp) fun ak7_22 fk7_22 => ?_
          have e1_k7_22 := (fk7_22.other 1 (by decide)).trans e1_k7_21
          have e191_k7_22 : ak7_22.eval (.tmp 191) = .bool Bk7_22 := fk7_22.own
          have zk7_22 := fk7_22.sz
          have dk7_22 := fk7_22.df.trans dk7_21
          clear fk7_22 e1_k7_21 e188_k7_21 e190_k7_21 zk7_21 dk7_21
          refine fr_g zk7_22 (t := 5) (by decide) rfl (by rfl) (v := .bool Bk7_22) (fun hG => by generalize ak7_22.eval = ρ at e191_k7_22; simp only [execOp]; go_simp) fun ak7_23 fk7_23 => ?_
          have e1_k7_23 := (fk7_23.other 1 (by decide)).trans e1_k7_22
          have e5_k7_23 : ak7_23.eval (.tmp 5) = .bool Bk7_22 := fk7_23.own
          have zk7_23 := fk7_23.sz
          have dk7_23 := fk7_23.df.trans dk7_22
          clear fk7_23 e1_k7_22 e191_k7_22 zk7_22 dk7_22
          have hv : Bk7_22 = okR m := by
            rw [hok]
            unfold okR7
            simp only [hBk7_22.out, hBk7_18.out, hBk7_9.out, hBk7_8.out, hBk7_3.out]
            try (simp [Bool.and_assoc])
          exact hQ _ _ ⟨zk7_23, dk7_23, HBk7_21.out, e1_k7_23, by rw [e5_k7_23, hv]⟩
        intro a' w' h
        exact hQ0 _ _ h
      clear et
      refine wp_seq ?_
      refine fr_region (fun a' w' => a'.tmps.size = 268 ∧ a'.defers = [] ∧ Below w1.heap.size w1 w' ∧ a'.eval (.tmp 1) = .pointer (some ⟨w.heap.size, 0, none⟩) ∧ a'.eval (.tmp 3) = .bool (decide (0 ≤ m.v) && decide (m.v ≤ 15)) ∧ a'.eval (.tmp 4) = .bool (ofR m.e m.s) ∧ a'.eval (.tmp 30) = .int .i64 m.k ∧ a'.eval (.tmp 192) = .bool (m.k == 8)) (fun Q' hQ => ?_) ?_
      · skip
        refine fr_g hsz (t := 193) (by decide) rfl (by rfl) (v := .bool (m.k == 8)) (fun hG => by have hc0 : af.eval (.const (.int .i64 8)) = .int .i64 8 := rfl; generalize af.eval = ρ at e30 hc0; simp only [execOp]; go_simp) fun at8_0 ft8_0 => ?_
        have e1_t8_0 := (ft8_0.other 1 (by decide)).trans e1
        have e3_t8_0 := (ft8_0.other 3 (by decide)).trans e3
        have e4_t8_0 := (ft8_0.other 4 (by decide)).trans e4
        have e30_t8_0 := (ft8_0.other 30 (by decide)).trans e30
        have e193_t8_0 : at8_0.eval (.tmp 193) = .bool (m.k == 8) := ft8_0.own
        have zt8_0 := ft8_0.sz
        have dt8_0 := ft8_0.df.trans hdf
        clear ft8_0 e1 e3 e4 e30 hsz hdf
        refine fr_g zt8_0 (t := 192) (by decide) rfl (by rfl) (v := .bool (m.k == 8)) (fun hG => by generalize at8_0.eval = ρ at e193_t8_0; simp only [execOp]; go_simp) fun at8_1 ft8_1 => ?_
        have e1_t8_1 := (ft8_1.other 1 (by decide)).trans e1_t8_0
        have e3_t8_1 := (ft8_1.other 3 (by decide)).trans e3_t8_0
        have e4_t8_1 := (ft8_1.other 4 (by decide)).trans e4_t8_0
        have e30_t8_1 := (ft8_1.other 30 (by decide)).trans e30_t8_0
        have e192_t8_1 : at8_1.eval (.tmp 192) = .bool (m.k == 8) := ft8_1.own
        have zt8_1 := ft8_1.sz
        have dt8_1 := ft8_1.df.trans dt8_0
        clear ft8_1 e1_t8_0 e3_t8_0 e4_t8_0 e30_t8_0 e193_t8_0 zt8_0 dt8_0
        exact hQ _ _ ⟨zt8_1, dt8_1, HB.out, e1_t8_1, e3_t8_1, e4_t8_1, e30_t8_1, e192_t8_1⟩
      clear e3 e4 e30 hsz hdf e1 HB
      rintro af wf ⟨hsz, hdf, hb, e1, e3, e4, e30, et⟩
      have HB := Lib.hid hb
      clear hb
      show Code.wp Tryz.prog _ _ af wf
      refine wp_cond_split et (fun ht => ?_) (fun hf8 => ?_)
      · have h : m.k = 8 := by simpa using ht
        have hok : okR m = okR8 m := by unfold okR; rw [if_neg (by omega), if_neg (by omega), if_neg (by omega), if_neg (by omega), if_neg (by omega), if_neg (by omega), if_neg (by omega), if_pos h]
        clear h hk et ht
        refine wp_seq ?_
        refine fr_region (fun a' w' => a'.tmps.size = 268 ∧ a'.defers = [] ∧ Below w1.heap.size w1 w' ∧ a'.eval (.tmp 1) = .pointer (some ⟨w.heap.size, 0, none⟩) ∧ a'.eval (.tmp 7) = .int .i64 (resErr m.c)) (fun Q' hQ => ?_) ?_
        · clear e3 e4 e30
          refine fr_g hsz (t := 195) (by decide) rfl (by rfl) (v := .pointer (some ⟨w.heap.size, 10, none⟩)) (fun hG => by generalize af.eval = ρ at e1; simp only [execOp]; go_simp) fun ar22_0 fr22_0 => ?_
          have e1_r22_0 := (fr22_0.other 1 (by decide)).trans e1
          have e195_r22_0 : ar22_0.eval (.tmp 195) = .pointer (some ⟨w.heap.size, 10, none⟩) := fr22_0.own
          have zr22_0 := fr22_0.sz
          have dr22_0 := fr22_0.df.trans hdf
          clear fr22_0 e1 hsz hdf
          refine fr_g zr22_0 (t := 196) (by decide) rfl (by rfl) (v := .agg #[.int .i64 m.c, .float .f64 m.r]) (fun hG => by have y10 := X10.out wf HB.out; have y11 := X11.out wf HB.out; generalize ar22_0.eval = ρ at e195_r22_0; simp only [execOp]; go_simp) fun ar22_1 fr22_1 => ?_
          have e1_r22_1 := (fr22_1.other 1 (by decide)).trans e1_r22_0
          have e196_r22_1 : ar22_1.eval (.tmp 196) = .agg #[.int .i64 m.c, .float .f64 m.r] := fr22_1.own
          have zr22_1 := fr22_1.sz
          have dr22_1 := fr22_1.df.trans dr22_0
          clear fr22_1 e1_r22_0 e195_r22_0 zr22_0 dr22_0
          refine fr_gc zr22_1 (t := 197) (by decide) rfl (by rfl) 92 #[.agg #[.int .i64 m.c, .float .f64 m.r]] (v := .tuple #[.string (resText m.c m.r), .int .i64 (resErr m.c)]) (fun hG => by have hf : ar22_1.eval (.func 92) = .func (.func 92) #[] #[] := rfl; generalize ar22_1.eval = ρ at hf e196_r22_1; simp only [execOp]; go_simp) (fun hG => CT.out wf) fun ar22_2 ur22_2 blr22_2 fr22_2 => ?_
          have HBr22_2 := Lib.hid (bthen HB.out blr22_2)
          clear blr22_2
          have e1_r22_2 := (fr22_2.other 1 (by decide)).trans e1_r22_1
          have e197_r22_2 : ar22_2.eval (.tmp 197) = .tuple #[.string (resText m.c m.r), .int .i64 (resErr m.c)] := fr22_2.own
          have zr22_2 := fr22_2.sz
          have dr22_2 := fr22_2.df.trans dr22_1
          clear fr22_2 e1_r22_1 e196_r22_1 zr22_1 dr22_1
          refine fr_g zr22_2 (t := 194) (by decide) rfl (by rfl) (v := .tuple #[.string (resText m.c m.r), .int .i64 (resErr m.c)]) (fun hG => by generalize ar22_2.eval = ρ at e197_r22_2; simp only [execOp]; go_simp) fun ar22_3 fr22_3 => ?_
          have e1_r22_3 := (fr22_3.other 1 (by decide)).trans e1_r22_2
          have e194_r22_3 : ar22_3.eval (.tmp 194) = .tuple #[.string (resText m.c m.r), .int .i64 (resErr m.c)] := fr22_3.own
          have zr22_3 := fr22_3.sz
          have dr22_3 := fr22_3.df.trans dr22_2
          clear fr22_3 e1_r22_2 e197_r22_2 zr22_2 dr22_2
          refine fr_g zr22_3 (t := 198) (by decide) rfl (by rfl) (v := .string (resText m.c m.r)) (fun hG => by generalize ar22_3.eval = ρ at e194_r22_3; simp only [execOp]; go_simp) fun ar22_4 fr22_4 => ?_
          have e1_r22_4 := (fr22_4.other 1 (by decide)).trans e1_r22_3
          have e194_r22_4 := (fr22_4.other 194 (by decide)).trans e194_r22_3
          have e198_r22_4 : ar22_4.eval (.tmp 198) = .string (resText m.c m.r) := fr22_4.own
          have zr22_4 := fr22_4.sz
          have dr22_4 := fr22_4.df.trans dr22_3
          clear fr22_4 e1_r22_3 e194_r22_3 zr22_3 dr22_3
          refine fr_g zr22_4 (t := 199) (by decide) rfl (by rfl) (v := .int .i64 (resErr m.c)) (fun hG => by generalize ar22_4.eval = ρ at e194_r22_4; simp only [execOp]; go_simp) fun ar22_5 fr22_5 => ?_
          have e1_r22_5 := (fr22_5.other 1 (by decide)).trans e1_r22_4
          have e198_r22_5 := (fr22_5.other 198 (by decide)).trans e198_r22_4
          have e199_r22_5 : ar22_5.eval (.tmp 199) = .int .i64 (resErr m.c) := fr22_5.own
          have zr22_5 := fr22_5.sz
          have dr22_5 := fr22_5.df.trans dr22_4
          clear fr22_5 e1_r22_4 e194_r22_4 e198_r22_4 zr22_4 dr22_4
          refine fr_g zr22_5 (t := 6) (by decide) rfl (by rfl) (v := .string (resText m.c m.r)) (fun hG => by generalize ar22_5.eval = ρ at e198_r22_5; simp only [execOp]; go_simp) fun ar22_6 fr22_6 => ?_
          have e1_r22_6 := (fr22_6.other 1 (by decide)).trans e1_r22_5
          have e199_r22_6 := (fr22_6.other 199 (by decide)).trans e199_r22_5
          have zr22_6 := fr22_6.sz
          have dr22_6 := fr22_6.df.trans dr22_5
          clear fr22_6 e1_r22_5 e198_r22_5 e199_r22_5 zr22_5 dr22_5
          refine fr_g zr22_6 (t := 7) (by decide) rfl (by rfl) (v := .int .i64 (resErr m.c)) (fun hG => by generalize ar22_6.eval = ρ at e199_r22_6; simp only [execOp]; go_simp) fun ar22_7 fr22_7 => ?_
          have e1_r22_7 := (fr22_7.other 1 (by decide)).trans e1_r22_6
          have e7_r22_7 : ar22_7.eval (.tmp 7) = .int .i64 (resErr m.c) := fr22_7.own
          have zr22_7 := fr22_7.sz
          have dr22_7 := fr22_7.df.trans dr22_6
          clear fr22_7 e1_r22_6 e199_r22_6 zr22_6 dr22_6
          exact hQ _ _ ⟨zr22_7, dr22_7, HBr22_2.out, e1_r22_7, e7_r22_7⟩
        clear e3 e4 e30 hsz hdf e1 HB
        rintro af wf ⟨hsz, hdf, hb, e1, e7⟩
        have HB := Lib.hid hb
        clear hb
        show Code.wp Tryz.prog _ _ af wf
        refine fr_region (fun a' w' => a'.tmps.size = 268 ∧ a'.defers = [] ∧ Below w1.heap.size w1 w' ∧ a'.eval (.tmp 1) = .pointer (some ⟨w.heap.size, 0, none⟩) ∧ a'.eval (.tmp 5) = .bool (okR m)) (fun Q' hQ => ?_) ?_
        · skip
          refine fr_g hsz (t := 200) (by decide) rfl (by rfl) (v := .pointer (some ⟨w.heap.size, 4, none⟩)) (fun hG => by generalize af.eval = ρ at e1; simp only [execOp]; go_simp) fun ak8_0 fk8_0 => ?_
          have e1_k8_0 := (fk8_0.other 1 (by decide)).trans e1
          have e7_k8_0 := (fk8_0.other 7 (by decide)).trans e7
          have e200_k8_0 : ak8_0.eval (.tmp 200) = .pointer (some ⟨w.heap.size, 4, none⟩) := fk8_0.own
          have zk8_0 := fk8_0.sz
          have dk8_0 := fk8_0.df.trans hdf
          clear fk8_0 e1 e7 hsz hdf
          refine fr_g zk8_0 (t := 201) (by decide) rfl (by rfl) (v := .agg #[.int .i64 m.q.c, .int .i64 m.q.s, .int .i64 m.q.kind, .string m.q.key, .float .f64 m.q.b, .int .i64 m.q.id]) (fun hG => by have y4 := X4.out wf HB.out; have y5 := X5.out wf HB.out; have y6 := X6.out wf HB.out; have y7 := X7.out wf HB.out; have y8 := X8.out wf HB.out; have y9 := X9.out wf HB.out; generalize ak8_0.eval = ρ at e200_k8_0; simp only [execOp]; go_simp) fun ak8_1 fk8_1 => ?_
          have e1_k8_1 := (fk8_1.other 1 (by decide)).trans e1_k8_0
          have e7_k8_1 := (fk8_1.other 7 (by decide)).trans e7_k8_0
          have e201_k8_1 : ak8_1.eval (.tmp 201) = .agg #[.int .i64 m.q.c, .int .i64 m.q.s, .int .i64 m.q.kind, .string m.q.key, .float .f64 m.q.b, .int .i64 m.q.id] := fk8_1.own
          have zk8_1 := fk8_1.sz
          have dk8_1 := fk8_1.df.trans dk8_0
          clear fk8_1 e1_k8_0 e7_k8_0 e200_k8_0 zk8_0 dk8_0
          refine fr_gc zk8_1 (t := 202) (by decide) rfl (by rfl) 86 #[.agg #[.int .i64 m.q.c, .int .i64 m.q.s, .int .i64 m.q.kind, .string m.q.key, .float .f64 m.q.b, .int .i64 m.q.id]] (v := .bool m.q.right) (fun hG => by have hf : ak8_1.eval (.func 86) = .func (.func 86) #[] #[] := rfl; generalize ak8_1.eval = ρ at hf e201_k8_1; simp only [execOp]; go_simp) (fun hG => CR.out wf) fun ak8_2 uk8_2 blk8_2 fk8_2 => ?_
          have HBk8_2 := Lib.hid (bthen HB.out blk8_2)
          clear blk8_2
          have e1_k8_2 := (fk8_2.other 1 (by decide)).trans e1_k8_1
          have e7_k8_2 := (fk8_2.other 7 (by decide)).trans e7_k8_1
          have e202_k8_2 : ak8_2.eval (.tmp 202) = .bool m.q.right := fk8_2.own
          have zk8_2 := fk8_2.sz
          have dk8_2 := fk8_2.df.trans dk8_1
          clear fk8_2 e1_k8_1 e7_k8_1 e201_k8_1 zk8_1 dk8_1
          refine fr_g zk8_2 (t := 203) (by decide) rfl (by rfl) (v := .bool m.q.right) (fun hG => by generalize ak8_2.eval = ρ at e202_k8_2; simp only [execOp]; go_simp) fun ak8_3 fk8_3 => ?_
          have e1_k8_3 := (fk8_3.other 1 (by decide)).trans e1_k8_2
          have e7_k8_3 := (fk8_3.other 7 (by decide)).trans e7_k8_2
          have e203_k8_3 : ak8_3.eval (.tmp 203) = .bool m.q.right := fk8_3.own
          have zk8_3 := fk8_3.sz
          have dk8_3 := fk8_3.df.trans dk8_2
          clear fk8_3 e1_k8_2 e7_k8_2 e202_k8_2 zk8_2 dk8_2
          obtain ⟨Gk8_4, hGk8_4⟩ : ∃ G, Hid (G = (true && (m.q.right == true))) := ⟨_, Lib.hid rfl⟩
          have iGk8_4 := Lib.hid (show Gk8_4 = true → true = true ∧ m.q.right = true from fun h => by rw [hGk8_4.out] at h; simpa using h)
          refine fr_g zk8_3 (t := 204) (by decide) rfl ((fr_w0 (k := 3) (b := true) (t := 203) rfl rfl e203_k8_3).trans hGk8_4.out.symm) (v := .int .i64 (resErr m.c)) (fun hG => by obtain ⟨hp0, hb0⟩ := iGk8_4.out hG; generalize ak8_3.eval = ρ at e7_k8_3; simp only [execOp]; go_simp) fun ak8_4 fk8_4 => ?_
          have e1_k8_4 := (fk8_4.other 1 (by decide)).trans e1_k8_3
          have e203_k8_4 := (fk8_4.other 203 (by decide)).trans e203_k8_3
          have e204_k8_4 : ak8_4.eval (.tmp 204) = vif Gk8_4 (.int .i64 (resErr m.c)) := fk8_4.own
          have zk8_4 := fk8_4.sz
          have dk8_4 := fk8_4.df.trans dk8_3
          clear fk8_4 e1_k8_3 e7_k8_3 e203_k8_3 zk8_3 dk8_3
          obtain ⟨Bk8_5, hBk8_5⟩ : ∃ B, Hid (B = (((resErr m.c) : Int) == 0)) := ⟨_, Lib.hid rfl⟩
          refine fr_g zk8_4 (t := 205) (by decide) rfl ((fr_w0 (k := 3) (b := true) (t := 203) rfl rfl e203_k8_4).trans hGk8_4.out.symm) (v := .bool Bk8_5) (fun hG => by obtain ⟨hp0, hb0⟩ := iGk8_4.out hG; have hc0 : ak8_4.eval (.const (.int .i64 0)) = .int .i64 0 := rfl; generalize ak8_4.eval = ρ at e204_k8_4 hc0; simp only [vif, cond_true, cond_false, hG, hp0, hb0] at e204_k8_4; rw [hBk8_5.out]; simp only [execOp]; go_simp) fun ak8_5 fk8_5 => ?_
          have e1_k8_5 := (fk8_5.other 1 (by decide)).trans e1_k8_4
          have e203_k8_5 := (fk8_5.other 203 (by decide)).trans e203_k8_4
          have e205_k8_5 : ak8_5.eval (.tmp 205) = vif Gk8_4 (.bool Bk8_5) := fk8_5.own
          have zk8_5 := fk8_5.sz
          have dk8_5 := fk8_5.df.trans dk8_4
          clear fk8_5 e1_k8_4 e203_k8_4 e204_k8_4 zk8_4 dk8_4
          obtain ⟨Bk8_6, hBk8_6⟩ : ∃ B, Hid (B = ((m.q.right && Bk8_5))) := ⟨_, Lib.hid rfl⟩
          refine fr_g zk8_5 (t := 206) (by decide) rfl (by rfl) (v := .bool Bk8_6) (fun hG => by have hc0 : ak8_5.eval (.const (.bool false)) = .bool false := rfl; generalize ak8_5.eval = ρ at e203_k8_5 e205_k8_5 hc0; rw [hBk8_6.out]; cases hcs : m.q.right <;> simp only [execOp, vif, cond_true, cond_false, Bool.true_and, Bool.false_and, Bool.true_or, Bool.false_or, beq_self_eq_true, hGk8_4.out, hcs] at e205_k8_5 ⊢ <;> go_simp) fun ak8_6 fk8_6 => ?_
          have e1_k8_6 := (fk8_6.other 1 (by decide)).trans e1_k8_5
          have e206_k8_6 : ak8_6.eval (.tmp 206) = .bool Bk8_6 := fk8_6.own
          have zk8_6 := fk8_6.sz
          have dk8_6 := fk8_6.df.trans dk8_5
          clear fk8_6 e1_k8_5 e203_k8_5 e205_k8_5 zk8_5 dk8_5
          refine fr_g zk8_6 (t := 207) (by decide) rfl (by rfl) (v := .bool Bk8_6) (fun hG => by generalize ak8_6.eval = ρ at e206_k8_6; simp only [execOp]; go_simp) fun ak8_7 fk8_7 => ?_
          have e1_k8_7 := (fk8_7.other 1 (by decide)).trans e1_k8_6
          have e207_k8_7 : ak8_7.eval (.tmp 207) = .bool Bk8_6 := fk8_7.own
          have zk8_7 := fk8_7.sz
          have dk8_7 := fk8_7.df.trans dk8_6
          clear fk8_7 e1_k8_6 e206_k8_6 zk8_6 dk8_6
          obtain ⟨Gk8_8, hGk8_8⟩ : ∃ G, Hid (G = (true && (Bk8_6 == true))) := ⟨_, Lib.hid rfl⟩
          have iGk8_8 := Lib.hid (show Gk8_8 = true → true = true ∧ Bk8_6 = true from fun h => by rw [hGk8_8.out] at h; simpa using h)
          refine fr_g zk8_7 (t := 208) (by decide) rfl ((fr_w0 (k := 7) (b := true) (t := 207) rfl rfl e207_k8_7).trans hGk8_8.out.symm) (v := .agg CS) (fun _ => load_row _ _ (.tmp 1) Tryz.underlying35 rfl HI.out rfl e1_k8_7 (KB.out uk8_2 HBk8_2.out)) fun ak8_8 fk8_8 => ?_
          have e1_k8_8 := (fk8_8.other 1 (by decide)).trans e1_k8_7
          have e207_k8_8 := (fk8_8.other 207 (by decide)).trans e207_k8_7
          have e208_k8_8 : ak8_8.eval (.tmp 208) = vif Gk8_8 (.agg CS) := fk8_8.own
          have zk8_8 := fk8_8.sz
          have dk8_8 := fk8_8.df.trans dk8_7
          clear fk8_8 e1_k8_7 e207_k8_7 zk8_7 dk8_7
          refine fr_gc zk8_8 (t := 209) (by decide) rfl ((fr_w0 (k := 7) (b := true) (t := 207) rfl rfl e207_k8_8).trans hGk8_8.out.symm) 87 #[.agg CS, .string ⟨#[114, 120]⟩] (v := .bool (restB { q := true, r := true } m)) (fun hG => by obtain ⟨hp0, hb0⟩ := iGk8_8.out hG; have hc0 : ak8_8.eval (.const (.string ⟨#[114, 120]⟩)) = .string ⟨#[114, 120]⟩ := rfl; have hf : ak8_8.eval (.func 87) = .func (.func 87) #[] #[] := rfl; generalize ak8_8.eval = ρ at hf e208_k8_8 hc0; simp only [vif, cond_true, cond_false, hG, hp0, hb0] at e208_k8_8; simp only [execOp]; go_simp) (fun hG => CZrx.out uk8_2 HBk8_2.out) fun ak8_9 uk8_9 blk8_9 fk8_9 => ?_
          have HBk8_9 := Lib.hid (bthen HBk8_2.out blk8_9)
          clear blk8_9
          have e1_k8_9 := (fk8_9.other 1 (by decide)).trans e1_k8_8
          have e207_k8_9 := (fk8_9.other 207 (by decide)).trans e207_k8_8
          have e209_k8_9 : ak8_9.eval (.tmp 209) = vif Gk8_8 (.bool (restB { q := true, r := true } m)) := fk8_9.own
          have zk8_9 := fk8_9.sz
          have dk8_9 := fk8_9.df.trans dk8_8
          clear fk8_9 e1_k8_8 e207_k8_8 e208_k8_8 zk8_8 dk8_8
          obtain ⟨Bk8_10, hBk8_10⟩ : ∃ B, Hid (B = ((Bk8_6 && (restB { q := true, r := true } m)))) := ⟨_, Lib.hid rfl⟩
          refine fr_g zk8_9 (t := 210) (by decide) rfl (by rfl) (v := .bool Bk8_10) (fun hG => by have hc0 : ak8_9.eval (.const (.bool false)) = .bool false := rfl; generalize ak8_9.eval = ρ at e207_k8_9 e209_k8_9 hc0; rw [hBk8_10.out]; cases Bk8_6 <;> simp only [execOp, vif, cond_true, cond_false, Bool.true_and, Bool.false_and, Bool.true_or, Bool.false_or, beq_self_eq_true, hGk8_4.out, hGk8_8.out] at e209_k8_9 ⊢ <;> go_simp) fun ak8_10 fk8_10 => ?_
          have e1_k8_10 := (fk8_10.other 1 (by decide)).trans e1_k8_9
          have e210_k8_10 : ak8_10.eval (.tmp 210) = .bool Bk8_10 := fk8_10.own
          have zk8_10 := fk8_10.sz
          have dk8_10 := fk8_10.df.trans dk8_9
          clear fk8_10 e1_k8_9 e207_k8_9 e209_k8_9 zk8_9 dk8_9
          refine fr_g zk8_10 (t := 5) (by decide) rfl (by rfl) (v := .bool Bk8_10) (fun hG => by generalize ak8_10.eval = ρ at e210_k8_10; simp only [execOp]; go_simp) fun ak8_11 fk8_11 => ?_
          have e1_k8_11 := (fk8_11.other 1 (by decide)).trans e1_k8_10
          have e5_k8_11 : ak8_11.eval (.tmp 5) = .bool Bk8_10 := fk8_11.own
          have zk8_11 := fk8_11.sz
          have dk8_11 := fk8_11.df.trans dk8_10
          clear fk8_11 e1_k8_10 e210_k8_10 zk8_10 dk8_10
          have hv : Bk8_10 = okR m := by
            rw [hok]
            unfold okR8
            simp only [hBk8_10.out, hBk8_6.out, hBk8_5.out]
            try (simp [Bool.and_assoc])
          exact hQ _ _ ⟨zk8_11, dk8_11, HBk8_9.out, e1_k8_11, by rw [e5_k8_11, hv]⟩
        intro a' w' h
        exact hQ0 _ _ h
      clear et
      refine wp_seq ?_
      refine fr_region (fun a' w' => a'.tmps.size = 268 ∧ a'.defers = [] ∧ Below w1.heap.size w1 w' ∧ a'.eval (.tmp 1) = .pointer (some ⟨w.heap.size, 0, none⟩) ∧ a'.eval (.tmp 3) = .bool (decide (0 ≤ m.v) && decide (m.v ≤ 15)) ∧ a'.eval (.tmp 4) = .bool (ofR m.e m.s) ∧ a'.eval (.tmp 30) = .int .i64 m.k ∧ a'.eval (.tmp 211) = .bool (m.k == 9)) (fun Q' hQ => ?_) ?_
      · skip
        refine fr_g hsz (t := 212) (by decide) rfl (by rfl) (v := .bool (m.k == 9)) (fun hG => by have hc0 : af.eval (.const (.int .i64 9)) = .int .i64 9 := rfl; generalize af.eval = ρ at e30 hc0; simp only [execOp]; go_simp) fun at9_0 ft9_0 => ?_
        have e1_t9_0 := (ft9_0.other 1 (by decide)).trans e1
        have e3_t9_0 := (ft9_0.other 3 (by decide)).trans e3
        have e4_t9_0 := (ft9_0.other 4 (by decide)).trans e4
        have e30_t9_0 := (ft9_0.other 30 (by decide)).trans e30
        have e212_t9_0 : at9_0.eval (.tmp 212) = .bool (m.k == 9) := ft9_0.own
        have zt9_0 := ft9_0.sz
        have dt9_0 := ft9_0.df.trans hdf
        clear ft9_0 e1 e3 e4 e30 hsz hdf
        refine fr_g zt9_0 (t := 211) (by decide) rfl (by rfl) (v := .bool (m.k == 9)) (fun hG => by generalize at9_0.eval = ρ at e212_t9_0; simp only [execOp]; go_simp) fun at9_1 ft9_1 => ?_
        have e1_t9_1 := (ft9_1.other 1 (by decide)).trans e1_t9_0
        have e3_t9_1 := (ft9_1.other 3 (by decide)).trans e3_t9_0
        have e4_t9_1 := (ft9_1.other 4 (by decide)).trans e4_t9_0
        have e30_t9_1 := (ft9_1.other 30 (by decide)).trans e30_t9_0
        have e211_t9_1 : at9_1.eval (.tmp 211) = .bool (m.k == 9) := ft9_1.own
        have zt9_1 := ft9_1.sz
        have dt9_1 := ft9_1.df.trans dt9_0
        clear ft9_1 e1_t9_0 e3_t9_0 e4_t9_0 e30_t9_0 e212_t9_0 zt9_0 dt9_0
        exact hQ _ _ ⟨zt9_1, dt9_1, HB.out, e1_t9_1, e3_t9_1, e4_t9_1, e30_t9_1, e211_t9_1⟩
      clear e3 e4 e30 hsz hdf e1 HB
      rintro af wf ⟨hsz, hdf, hb, e1, e3, e4, e30, et⟩
      have HB := Lib.hid hb
      clear hb
      show Code.wp Tryz.prog _ _ af wf
      refine wp_cond_split et (fun ht => ?_) (fun hf9 => ?_)
      · have h : m.k = 9 := by simpa using ht
        have hok : okR m = okR9 m := by unfold okR; rw [if_neg (by omega), if_neg (by omega), if_neg (by omega), if_neg (by omega), if_neg (by omega), if_neg (by omega), if_neg (by omega), if_neg (by omega), if_pos h]
        clear h hk et ht
        clear e30 e3 e4
        refine fr_region (fun a' w' => a'.tmps.size = 268 ∧ a'.defers = [] ∧ Below w1.heap.size w1 w' ∧ a'.eval (.tmp 1) = .pointer (some ⟨w.heap.size, 0, none⟩) ∧ a'.eval (.tmp 5) = .bool (okR m)) (fun Q' hQ => ?_) ?_
        · skip
          refine fr_g hsz (t := 213) (by decide) rfl (by rfl) (v := .agg CS) (fun _ => load_row _ _ (.tmp 1) Tryz.underlying35 rfl HI.out rfl e1 (KB.out wf HB.out)) fun ak9_0 fk9_0 => ?_
          have e1_k9_0 := (fk9_0.other 1 (by decide)).trans e1
          have e213_k9_0 : ak9_0.eval (.tmp 213) = .agg CS := fk9_0.own
          have zk9_0 := fk9_0.sz
          have dk9_0 := fk9_0.df.trans hdf
          clear fk9_0 e1 hsz hdf
          refine fr_gc zk9_0 (t := 214) (by decide) rfl (by rfl) 87 #[.agg CS, .string ⟨#[]⟩] (v := .bool (restB {} m)) (fun hG => by have hc0 : ak9_0.eval (.const (.string ⟨#[]⟩)) = .string ⟨#[]⟩ := rfl; have hf : ak9_0.eval (.func 87) = .func (.func 87) #[] #[] := rfl; generalize ak9_0.eval = ρ at hf e213_k9_0 hc0; simp only [execOp]; go_simp) (fun hG => CZe.out wf HB.out) fun ak9_1 uk9_1 blk9_1 fk9_1 => ?_
          have HBk9_1 := Lib.hid (bthen HB.out blk9_1)
          clear blk9_1
          have e1_k9_1 := (fk9_1.other 1 (by decide)).trans e1_k9_0
          have e214_k9_1 : ak9_1.eval (.tmp 214) = .bool (restB {} m) := fk9_1.own
          have zk9_1 := fk9_1.sz
          have dk9_1 := fk9_1.df.trans dk9_0
          clear fk9_1 e1_k9_0 e213_k9_0 zk9_0 dk9_0
          refine fr_g zk9_1 (t := 5) (by decide) rfl (by rfl) (v := .bool (restB {} m)) (fun hG => by generalize ak9_1.eval = ρ at e214_k9_1; simp only [execOp]; go_simp) fun ak9_2 fk9_2 => ?_
          have e1_k9_2 := (fk9_2.other 1 (by decide)).trans e1_k9_1
          have e5_k9_2 : ak9_2.eval (.tmp 5) = .bool (restB {} m) := fk9_2.own
          have zk9_2 := fk9_2.sz
          have dk9_2 := fk9_2.df.trans dk9_1
          clear fk9_2 e1_k9_1 e214_k9_1 zk9_1 dk9_1
          have hv : (restB {} m) = okR m := by
            rw [hok]
            unfold okR9
            try (simp [Bool.and_assoc])
          exact hQ _ _ ⟨zk9_2, dk9_2, HBk9_1.out, e1_k9_2, by rw [e5_k9_2, hv]⟩
        intro a' w' h
        exact hQ0 _ _ h
      clear et
      refine wp_seq ?_
      refine fr_region (fun a' w' => a'.tmps.size = 268 ∧ a'.defers = [] ∧ Below w1.heap.size w1 w' ∧ a'.eval (.tmp 1) = .pointer (some ⟨w.heap.size, 0, none⟩) ∧ a'.eval (.tmp 3) = .bool (decide (0 ≤ m.v) && decide (m.v ≤ 15)) ∧ a'.eval (.tmp 4) = .bool (ofR m.e m.s) ∧ a'.eval (.tmp 30) = .int .i64 m.k ∧ a'.eval (.tmp 215) = .bool (m.k == 10)) (fun Q' hQ => ?_) ?_
      · skip
        refine fr_g hsz (t := 216) (by decide) rfl (by rfl) (v := .bool (m.k == 10)) (fun hG => by have hc0 : af.eval (.const (.int .i64 10)) = .int .i64 10 := rfl; generalize af.eval = ρ at e30 hc0; simp only [execOp]; go_simp) fun at10_0 ft10_0 => ?_
        have e1_t10_0 := (ft10_0.other 1 (by decide)).trans e1
        have e3_t10_0 := (ft10_0.other 3 (by decide)).trans e3
        have e4_t10_0 := (ft10_0.other 4 (by decide)).trans e4
        have e30_t10_0 := (ft10_0.other 30 (by decide)).trans e30
        have e216_t10_0 : at10_0.eval (.tmp 216) = .bool (m.k == 10) := ft10_0.own
        have zt10_0 := ft10_0.sz
        have dt10_0 := ft10_0.df.trans hdf
        clear ft10_0 e1 e3 e4 e30 hsz hdf
        refine fr_g zt10_0 (t := 215) (by decide) rfl (by rfl) (v := .bool (m.k == 10)) (fun hG => by generalize at10_0.eval = ρ at e216_t10_0; simp only [execOp]; go_simp) fun at10_1 ft10_1 => ?_
        have e1_t10_1 := (ft10_1.other 1 (by decide)).trans e1_t10_0
        have e3_t10_1 := (ft10_1.other 3 (by decide)).trans e3_t10_0
        have e4_t10_1 := (ft10_1.other 4 (by decide)).trans e4_t10_0
        have e30_t10_1 := (ft10_1.other 30 (by decide)).trans e30_t10_0
        have e215_t10_1 : at10_1.eval (.tmp 215) = .bool (m.k == 10) := ft10_1.own
        have zt10_1 := ft10_1.sz
        have dt10_1 := ft10_1.df.trans dt10_0
        clear ft10_1 e1_t10_0 e3_t10_0 e4_t10_0 e30_t10_0 e216_t10_0 zt10_0 dt10_0
        exact hQ _ _ ⟨zt10_1, dt10_1, HB.out, e1_t10_1, e3_t10_1, e4_t10_1, e30_t10_1, e215_t10_1⟩
      clear e3 e4 e30 hsz hdf e1 HB
      rintro af wf ⟨hsz, hdf, hb, e1, e3, e4, e30, et⟩
      have HB := Lib.hid hb
      clear hb
      show Code.wp Tryz.prog _ _ af wf
      · have h : m.k = 10 := by
          unfold kindB at hk
          simp at hk hf1 hf2 hf3 hf4 hf5 hf6 hf7 hf8 hf9
          omega
        refine wp_cond_true (by rw [et, h]; rfl) ?_
        have hok : okR m = okR10 m := by unfold okR; rw [if_neg (by omega), if_neg (by omega), if_neg (by omega), if_neg (by omega), if_neg (by omega), if_neg (by omega), if_neg (by omega), if_neg (by omega), if_neg (by omega)]
        clear h hk et
        clear e30 e3 e4
        refine fr_region (fun a' w' => a'.tmps.size = 268 ∧ a'.defers = [] ∧ Below w1.heap.size w1 w' ∧ a'.eval (.tmp 1) = .pointer (some ⟨w.heap.size, 0, none⟩) ∧ a'.eval (.tmp 5) = .bool (okR m)) (fun Q' hQ => ?_) ?_
        · skip
          refine fr_g hsz (t := 217) (by decide) rfl (by rfl) (v := .pointer (some ⟨w.heap.size, 1, none⟩)) (fun hG => by generalize af.eval = ρ at e1; simp only [execOp]; go_simp) fun ak10_0 fk10_0 => ?_
          have e1_k10_0 := (fk10_0.other 1 (by decide)).trans e1
          have e217_k10_0 : ak10_0.eval (.tmp 217) = .pointer (some ⟨w.heap.size, 1, none⟩) := fk10_0.own
          have zk10_0 := fk10_0.sz
          have dk10_0 := fk10_0.df.trans hdf
          clear fk10_0 e1 hsz hdf
          refine fr_g zk10_0 (t := 218) (by decide) rfl (by rfl) (v := .int .i64 m.e) (fun hG => by have y1 := X1.out wf HB.out; generalize ak10_0.eval = ρ at e217_k10_0; simp only [execOp]; go_simp) fun ak10_1 fk10_1 => ?_
          have e1_k10_1 := (fk10_1.other 1 (by decide)).trans e1_k10_0
          have e218_k10_1 : ak10_1.eval (.tmp 218) = .int .i64 m.e := fk10_1.own
          have zk10_1 := fk10_1.sz
          have dk10_1 := fk10_1.df.trans dk10_0
          clear fk10_1 e1_k10_0 e217_k10_0 zk10_0 dk10_0
          obtain ⟨Bk10_2, hBk10_2⟩ : ∃ B, Hid (B = (decide ((1 : Int) ≤ m.e))) := ⟨_, Lib.hid rfl⟩
          refine fr_g zk10_1 (t := 219) (by decide) rfl (by rfl) (v := .bool Bk10_2) (fun hG => by have hc0 : ak10_1.eval (.const (.int .i64 1)) = .int .i64 1 := rfl; generalize ak10_1.eval = ρ at e218_k10_1 hc0; rw [hBk10_2.out]; simp only [execOp]; go_simp) fun ak10_2 fk10_2 => ?_
          have e1_k10_2 := (fk10_2.other 1 (by decide)).trans e1_k10_1
          have e219_k10_2 : ak10_2.eval (.tmp 219) = .bool Bk10_2 := fk10_2.own
          have zk10_2 := fk10_2.sz
          have dk10_2 := fk10_2.df.trans dk10_1
          clear fk10_2 e1_k10_1 e218_k10_1 zk10_1 dk10_1
          refine fr_g zk10_2 (t := 220) (by decide) rfl (by rfl) (v := .bool Bk10_2) (fun hG => by generalize ak10_2.eval = ρ at e219_k10_2; simp only [execOp]; go_simp) fun ak10_3 fk10_3 => ?_
          have e1_k10_3 := (fk10_3.other 1 (by decide)).trans e1_k10_2
          have e220_k10_3 : ak10_3.eval (.tmp 220) = .bool Bk10_2 := fk10_3.own
          have zk10_3 := fk10_3.sz
          have dk10_3 := fk10_3.df.trans dk10_2
          clear fk10_3 e1_k10_2 e219_k10_2 zk10_2 dk10_2
          obtain ⟨Gk10_4, hGk10_4⟩ : ∃ G, Hid (G = (true && (Bk10_2 == true))) := ⟨_, Lib.hid rfl⟩
          have iGk10_4 := Lib.hid (show Gk10_4 = true → true = true ∧ Bk10_2 = true from fun h => by rw [hGk10_4.out] at h; simpa using h)
          refine fr_g zk10_3 (t := 221) (by decide) rfl ((fr_w0 (k := 3) (b := true) (t := 220) rfl rfl e220_k10_3).trans hGk10_4.out.symm) (v := .pointer (some ⟨w.heap.size, 3, none⟩)) (fun hG => by obtain ⟨hp0, hb0⟩ := iGk10_4.out hG; generalize ak10_3.eval = ρ at e1_k10_3; simp only [execOp]; go_simp) fun ak10_4 fk10_4 => ?_
          have e1_k10_4 := (fk10_4.other 1 (by decide)).trans e1_k10_3
          have e220_k10_4 := (fk10_4.other 220 (by decide)).trans e220_k10_3
          have e221_k10_4 : ak10_4.eval (.tmp 221) = vif Gk10_4 (.pointer (some ⟨w.heap.size, 3, none⟩)) := fk10_4.own
          have zk10_4 := fk10_4.sz
          have dk10_4 := fk10_4.df.trans dk10_3
          clear fk10_4 e1_k10_3 e220_k10_3 zk10_3 dk10_3
          refine fr_g zk10_4 (t := 222) (by decide) rfl ((fr_w0 (k := 3) (b := true) (t := 220) rfl rfl e220_k10_4).trans hGk10_4.out.symm) (v := .int .i64 m.s) (fun hG => by obtain ⟨hp0, hb0⟩ := iGk10_4.out hG; have y3 := X3.out wf HB.out; generalize ak10_4.eval = ρ at e221_k10_4; simp only [vif, cond_true, cond_false, hG, hp0, hb0] at e221_k10_4; simp only [execOp]; go_simp) fun ak10_5 fk10_5 => ?_
          have e1_k10_5 := (fk10_5.other 1 (by decide)).trans e1_k10_4
          have e220_k10_5 := (fk10_5.other 220 (by decide)).trans e220_k10_4
          have e222_k10_5 : ak10_5.eval (.tmp 222) = vif Gk10_4 (.int .i64 m.s) := fk10_5.own
          have zk10_5 := fk10_5.sz
          have dk10_5 := fk10_5.df.trans dk10_4
          clear fk10_5 e1_k10_4 e220_k10_4 e221_k10_4 zk10_4 dk10_4
          refine fr_g zk10_5 (t := 223) (by decide) rfl ((fr_w0 (k := 3) (b := true) (t := 220) rfl rfl e220_k10_5).trans hGk10_4.out.symm) (v := .pointer (some ⟨w.heap.size, 1, none⟩)) (fun hG => by obtain ⟨hp0, hb0⟩ := iGk10_4.out hG; generalize ak10_5.eval = ρ at e1_k10_5; simp only [execOp]; go_simp) fun ak10_6 fk10_6 => ?_
          have e1_k10_6 := (fk10_6.other 1 (by decide)).trans e1_k10_5
          have e220_k10_6 := (fk10_6.other 220 (by decide)).trans e220_k10_5
          have e222_k10_6 := (fk10_6.other 222 (by decide)).trans e222_k10_5
          have e223_k10_6 : ak10_6.eval (.tmp 223) = vif Gk10_4 (.pointer (some ⟨w.heap.size, 1, none⟩)) := fk10_6.own
          have zk10_6 := fk10_6.sz
          have dk10_6 := fk10_6.df.trans dk10_5
          clear fk10_6 e1_k10_5 e220_k10_5 e222_k10_5 zk10_5 dk10_5
          refine fr_g zk10_6 (t := 224) (by decide) rfl ((fr_w0 (k := 3) (b := true) (t := 220) rfl rfl e220_k10_6).trans hGk10_4.out.symm) (v := .int .i64 m.e) (fun hG => by obtain ⟨hp0, hb0⟩ := iGk10_4.out hG; have y1 := X1.out wf HB.out; generalize ak10_6.eval = ρ at e223_k10_6; simp only [vif, cond_true, cond_false, hG, hp0, hb0] at e223_k10_6; simp only [execOp]; go_simp) fun ak10_7 fk10_7 => ?_
          have e1_k10_7 := (fk10_7.other 1 (by decide)).trans e1_k10_6
          have e220_k10_7 := (fk10_7.other 220 (by decide)).trans e220_k10_6
          have e222_k10_7 := (fk10_7.other 222 (by decide)).trans e222_k10_6
          have e224_k10_7 : ak10_7.eval (.tmp 224) = vif Gk10_4 (.int .i64 m.e) := fk10_7.own
          have zk10_7 := fk10_7.sz
          have dk10_7 := fk10_7.df.trans dk10_6
          clear fk10_7 e1_k10_6 e220_k10_6 e222_k10_6 e223_k10_6 zk10_6 dk10_6
          refine fr_g zk10_7 (t := 225) (by decide) rfl ((fr_w0 (k := 3) (b := true) (t := 220) rfl rfl e220_k10_7).trans hGk10_4.out.symm) (v := .int .i64 (wrap64 (4 * m.e))) (fun hG => by obtain ⟨hp0, hb0⟩ := iGk10_4.out hG; have hc0 : ak10_7.eval (.const (.int .i64 4)) = .int .i64 4 := rfl; generalize ak10_7.eval = ρ at e224_k10_7 hc0; simp only [vif, cond_true, cond_false, hG, hp0, hb0] at e224_k10_7; simp only [execOp]; go_simp) fun ak10_8 fk10_8 => ?_
          have e1_k10_8 := (fk10_8.other 1 (by decide)).trans e1_k10_7
          have e220_k10_8 := (fk10_8.other 220 (by decide)).trans e220_k10_7
          have e222_k10_8 := (fk10_8.other 222 (by decide)).trans e222_k10_7
          have e225_k10_8 : ak10_8.eval (.tmp 225) = vif Gk10_4 (.int .i64 (wrap64 (4 * m.e))) := fk10_8.own
          have zk10_8 := fk10_8.sz
          have dk10_8 := fk10_8.df.trans dk10_7
          clear fk10_8 e1_k10_7 e220_k10_7 e222_k10_7 e224_k10_7 zk10_7 dk10_7
          obtain ⟨Bk10_9, hBk10_9⟩ : ∃ B, Hid (B = ((m.s : Int) == (wrap64 (4 * m.e)))) := ⟨_, Lib.hid rfl⟩
          refine fr_g zk10_8 (t := 226) (by decide) rfl ((fr_w0 (k := 3) (b := true) (t := 220) rfl rfl e220_k10_8).trans hGk10_4.out.symm) (v := .bool Bk10_9) (fun hG => by obtain ⟨hp0, hb0⟩ := iGk10_4.out hG; generalize ak10_8.eval = ρ at e222_k10_8 e225_k10_8; simp only [vif, cond_true, cond_false, hG, hp0, hb0] at e222_k10_8 e225_k10_8; rw [hBk10_9.out]; simp only [execOp]; go_simp) fun ak10_9 fk10_9 => ?_
          have e1_k10_9 := (fk10_9.other 1 (by decide)).trans e1_k10_8
          have e220_k10_9 := (fk10_9.other 220 (by decide)).trans e220_k10_8
          have e226_k10_9 : ak10_9.eval (.tmp 226) = vif Gk10_4 (.bool Bk10_9) := fk10_9.own
          have zk10_9 := fk10_9.sz
          have dk10_9 := fk10_9.df.trans dk10_8
          clear fk10_9 e1_k10_8 e220_k10_8 e222_k10_8 e225_k10_8 zk10_8 dk10_8
          obtain ⟨Bk10_10, hBk10_10⟩ : ∃ B, Hid (B = ((Bk10_2 && Bk10_9))) := ⟨_, Lib.hid rfl⟩
          refine fr_g zk10_9 (t := 227) (by decide) rfl (by rfl) (v := .bool Bk10_10) (fun hG => by have hc0 : ak10_9.eval (.const (.bool false)) = .bool false := rfl; generalize ak10_9.eval = ρ at e220_k10_9 e226_k10_9 hc0; rw [hBk10_10.out]; cases Bk10_2 <;> simp only [execOp, vif, cond_true, cond_false, Bool.true_and, Bool.false_and, Bool.true_or, Bool.false_or, beq_self_eq_true, hGk10_4.out] at e226_k10_9 ⊢ <;> go_simp) fun ak10_10 fk10_10 => ?_
          have e1_k10_10 := (fk10_10.other 1 (by decide)).trans e1_k10_9
          have e227_k10_10 : ak10_10.eval (.tmp 227) = .bool Bk10_10 := fk10_10.own
          have zk10_10 := fk10_10.sz
          have dk10_10 := fk10_10.df.trans dk10_9
          clear fk10_10 e1_k10_9 e220_k10_9 e226_k10_9 zk10_9 dk10_9
          refine fr_g zk10_10 (t := 228) (by decide) rfl (by rfl) (v := .bool Bk10_10) (fun hG => by generalize ak10_10.eval = ρ at e227_k10_10; simp only [execOp]; go_simp) fun ak10_11 fk10_11 => ?_
          have e1_k10_11 := (fk10_11.other 1 (by decide)).trans e1_k10_10
          have e228_k10_11 : ak10_11.eval (.tmp 228) = .bool Bk10_10 := fk10_11.own
          have zk10_11 := fk10_11.sz
          have dk10_11 := fk10_11.df.trans dk10_10
          clear fk10_11 e1_k10_10 e227_k10_10 zk10_10 dk10_10
          obtain ⟨Gk10_12, hGk10_12⟩ : ∃ G, Hid (G = (true && (Bk10_10 == true))) := ⟨_, Lib.hid rfl⟩
          have iGk10_12 := Lib.hid (show Gk10_12 = true → true = true ∧ Bk10_10 = true from fun h => by rw [hGk10_12.out] at h; simpa using h)
          refine fr_g zk10_11 (t := 229) (by decide) rfl ((fr_w0 (k := 11) (b := true) (t := 228) rfl rfl e228_k10_11).trans hGk10_12.out.symm) (v := .pointer (some ⟨w.heap.size, 12, none⟩)) (fun hG => by obtain ⟨hp0, hb0⟩ := iGk10_12.out hG; generalize ak10_11.eval = ρ at e1_k10_11; simp only [execOp]; go_simp) fun ak10_12 fk10_12 => ?_
          have e1_k10_12 := (fk10_12.other 1 (by decide)).trans e1_k10_11
          have e228_k10_12 := (fk10_12.other 228 (by decide)).trans e228_k10_11
          have e229_k10_12 : ak10_12.eval (.tmp 229) = vif Gk10_12 (.pointer (some ⟨w.heap.size, 12, none⟩)) := fk10_12.own
          have zk10_12 := fk10_12.sz
          have dk10_12 := fk10_12.df.trans dk10_11
          clear fk10_12 e1_k10_11 e228_k10_11 zk10_11 dk10_11
          refine fr_g zk10_12 (t := 230) (by decide) rfl ((fr_w0 (k := 11) (b := true) (t := 228) rfl rfl e228_k10_12).trans hGk10_12.out.symm) (v := .string m.t) (fun hG => by obtain ⟨hp0, hb0⟩ := iGk10_12.out hG; have y12 := X12.out wf HB.out; generalize ak10_12.eval = ρ at e229_k10_12; simp only [vif, cond_true, cond_false, hG, hp0, hb0] at e229_k10_12; simp only [execOp]; go_simp) fun ak10_13 fk10_13 => ?_
          have e1_k10_13 := (fk10_13.other 1 (by decide)).trans e1_k10_12
          have e228_k10_13 := (fk10_13.other 228 (by decide)).trans e228_k10_12
          have e230_k10_13 : ak10_13.eval (.tmp 230) = vif Gk10_12 (.string m.t) := fk10_13.own
          have zk10_13 := fk10_13.sz
          have dk10_13 := fk10_13.df.trans dk10_12
          clear fk10_13 e1_k10_12 e228_k10_12 e229_k10_12 zk10_12 dk10_12
          obtain ⟨Bk10_14, hBk10_14⟩ : ∃ B, Hid (B = (!(m.t.toList.isEmpty))) := ⟨_, Lib.hid rfl⟩
          refine fr_g zk10_13 (t := 231) (by decide) rfl ((fr_w0 (k := 11) (b := true) (t := 228) rfl rfl e228_k10_13).trans hGk10_12.out.symm) (v := .bool Bk10_14) (fun hG => by obtain ⟨hp0, hb0⟩ := iGk10_12.out hG; have hc0 : ak10_13.eval (.const (.string ⟨#[]⟩)) = .string ⟨#[]⟩ := rfl; generalize ak10_13.eval = ρ at e230_k10_13 hc0; simp only [vif, cond_true, cond_false, hG, hp0, hb0] at e230_k10_13; rw [hBk10_14.out]; simp only [execOp]; go_simp) fun ak10_14 fk10_14 => ?_
          have e1_k10_14 := (fk10_14.other 1 (by decide)).trans e1_k10_13
          have e228_k10_14 := (fk10_14.other 228 (by decide)).trans e228_k10_13
          have e231_k10_14 : ak10_14.eval (.tmp 231) = vif Gk10_12 (.bool Bk10_14) := fk10_14.own
          have zk10_14 := fk10_14.sz
          have dk10_14 := fk10_14.df.trans dk10_13
          clear fk10_14 e1_k10_13 e228_k10_13 e230_k10_13 zk10_13 dk10_13
          obtain ⟨Bk10_15, hBk10_15⟩ : ∃ B, Hid (B = ((Bk10_10 && Bk10_14))) := ⟨_, Lib.hid rfl⟩
          refine fr_g zk10_14 (t := 232) (by decide) rfl (by rfl) (v := .bool Bk10_15) (fun hG => by have hc0 : ak10_14.eval (.const (.bool false)) = .bool false := rfl; generalize ak10_14.eval = ρ at e228_k10_14 e231_k10_14 hc0; rw [hBk10_15.out]; cases Bk10_10 <;> simp only [execOp, vif, cond_true, cond_false, Bool.true_and, Bool.false_and, Bool.true_or, Bool.false_or, beq_self_eq_true, hGk10_4.out, hGk10_12.out] at e231_k10_14 ⊢ <;> go_simp) fun ak10_15 fk10_15 => ?_
          have e1_k10_15 := (fk10_15.other 1 (by decide)).trans e1_k10_14
          have e232_k10_15 : ak10_15.eval (.tmp 232) = .bool Bk10_15 := fk10_15.own
          have zk10_15 := fk10_15.sz
          have dk10_15 := fk10_15.df.trans dk10_14
          clear fk10_15 e1_k10_14 e228_k10_14 e231_k10_14 zk10_14 dk10_14
          refine fr_g zk10_15 (t := 233) (by decide) rfl (by rfl) (v := .bool Bk10_15) (fun hG => by generalize ak10_15.eval = ρ at e232_k10_15; simp only [execOp]; go_simp) fun ak10_16 fk10_16 => ?_
          have e1_k10_16 := (fk10_16.other 1 (by decide)).trans e1_k10_15
          have e233_k10_16 : ak10_16.eval (.tmp 233) = .bool Bk10_15 := fk10_16.own
          have zk10_16 := fk10_16.sz
          have dk10_16 := fk10_16.df.trans dk10_15
          clear fk10_16 e1_k10_15 e232_k10_15 zk10_15 dk10_15
          obtain ⟨Gk10_17, hGk10_17⟩ : ∃ G, Hid (G = (true && (Bk10_15 == true))) := ⟨_, Lib.hid rfl⟩
          have iGk10_17 := Lib.hid (show Gk10_17 = true → true = true ∧ Bk10_15 = true from fun h => by rw [hGk10_17.out] at h; simpa using h)
          refine fr_g zk10_16 (t := 234) (by decide) rfl ((fr_w0 (k := 16) (b := true) (t := 233) rfl rfl e233_k10_16).trans hGk10_17.out.symm) (v := .pointer (some ⟨w.heap.size, 16, none⟩)) (fun hG => by obtain ⟨hp0, hb0⟩ := iGk10_17.out hG; generalize ak10_16.eval = ρ at e1_k10_16; simp only [execOp]; go_simp) fun ak10_17 fk10_17 => ?_
          have e1_k10_17 := (fk10_17.other 1 (by decide)).trans e1_k10_16
          have e233_k10_17 := (fk10_17.other 233 (by decide)).trans e233_k10_16
          have e234_k10_17 : ak10_17.eval (.tmp 234) = vif Gk10_17 (.pointer (some ⟨w.heap.size, 16, none⟩)) := fk10_17.own
          have zk10_17 := fk10_17.sz
          have dk10_17 := fk10_17.df.trans dk10_16
          clear fk10_17 e1_k10_16 e233_k10_16 zk10_16 dk10_16
          refine fr_g zk10_17 (t := 235) (by decide) rfl ((fr_w0 (k := 16) (b := true) (t := 233) rfl rfl e233_k10_17).trans hGk10_17.out.symm) (v := .slice a4 m.lk.length c4) (fun hG => by obtain ⟨hp0, hb0⟩ := iGk10_17.out hG; have y16 := X16.out wf HB.out; generalize ak10_17.eval = ρ at e234_k10_17; simp only [vif, cond_true, cond_false, hG, hp0, hb0] at e234_k10_17; simp only [execOp]; go_simp) fun ak10_18 fk10_18 => ?_
          have e1_k10_18 := (fk10_18.other 1 (by decide)).trans e1_k10_17
          have e233_k10_18 := (fk10_18.other 233 (by decide)).trans e233_k10_17
          have e235_k10_18 : ak10_18.eval (.tmp 235) = vif Gk10_17 (.slice a4 m.lk.length c4) := fk10_18.own
          have zk10_18 := fk10_18.sz
          have dk10_18 := fk10_18.df.trans dk10_17
          clear fk10_18 e1_k10_17 e233_k10_17 e234_k10_17 zk10_17 dk10_17
          refine fr_g zk10_18 (t := 236) (by decide) rfl ((fr_w0 (k := 16) (b := true) (t := 233) rfl rfl e233_k10_18).trans hGk10_17.out.symm) (v := .int .i64 m.lk.length) (fun hG => by obtain ⟨hp0, hb0⟩ := iGk10_17.out hG; generalize ak10_18.eval = ρ at e235_k10_18; simp only [vif, cond_true, cond_false, hG, hp0, hb0] at e235_k10_18; simp only [execOp]; go_simp) fun ak10_19 fk10_19 => ?_
          have e1_k10_19 := (fk10_19.other 1 (by decide)).trans e1_k10_18
          have e233_k10_19 := (fk10_19.other 233 (by decide)).trans e233_k10_18
          have e236_k10_19 : ak10_19.eval (.tmp 236) = vif Gk10_17 (.int .i64 m.lk.length) := fk10_19.own
          have zk10_19 := fk10_19.sz
          have dk10_19 := fk10_19.df.trans dk10_18
          clear fk10_19 e1_k10_18 e233_k10_18 e235_k10_18 zk10_18 dk10_18
          refine fr_g zk10_19 (t := 237) (by decide) rfl ((fr_w0 (k := 16) (b := true) (t := 233) rfl rfl e233_k10_19).trans hGk10_17.out.symm) (v := .pointer (some ⟨w.heap.size, 1, none⟩)) (fun hG => by obtain ⟨hp0, hb0⟩ := iGk10_17.out hG; generalize ak10_19.eval = ρ at e1_k10_19; simp only [execOp]; go_simp) fun ak10_20 fk10_20 => ?_
          have e1_k10_20 := (fk10_20.other 1 (by decide)).trans e1_k10_19
          have e233_k10_20 := (fk10_20.other 233 (by decide)).trans e233_k10_19
          have e236_k10_20 := (fk10_20.other 236 (by decide)).trans e236_k10_19
          have e237_k10_20 : ak10_20.eval (.tmp 237) = vif Gk10_17 (.pointer (some ⟨w.heap.size, 1, none⟩)) := fk10_20.own
          have zk10_20 := fk10_20.sz
          have dk10_20 := fk10_20.df.trans dk10_19
          clear fk10_20 e1_k10_19 e233_k10_19 e236_k10_19 zk10_19 dk10_19
          refine fr_g zk10_20 (t := 238) (by decide) rfl ((fr_w0 (k := 16) (b := true) (t := 233) rfl rfl e233_k10_20).trans hGk10_17.out.symm) (v := .int .i64 m.e) (fun hG => by obtain ⟨hp0, hb0⟩ := iGk10_17.out hG; have y1 := X1.out wf HB.out; generalize ak10_20.eval = ρ at e237_k10_20; simp only [vif, cond_true, cond_false, hG, hp0, hb0] at e237_k10_20; simp only [execOp]; go_simp) fun ak10_21 fk10_21 => ?_
          have e1_k10_21 := (fk10_21.other 1 (by decide)).trans e1_k10_20
          have e233_k10_21 := (fk10_21.other 233 (by decide)).trans e233_k10_20
          have e236_k10_21 := (fk10_21.other 236 (by decide)).trans e236_k10_20
          have e238_k10_21 : ak10_21.eval (.tmp 238) = vif Gk10_17 (.int .i64 m.e) := fk10_21.own
          have zk10_21 := fk10_21.sz
          have dk10_21 := fk10_21.df.trans dk10_20
          clear fk10_21 e1_k10_20 e233_k10_20 e236_k10_20 e237_k10_20 zk10_20 dk10_20
          obtain ⟨Bk10_22, hBk10_22⟩ : ∃ B, Hid (B = ((m.lk.length : Int) == m.e)) := ⟨_, Lib.hid rfl⟩
          refine fr_g zk10_21 (t := 239) (by decide) rfl ((fr_w0 (k := 16) (b := true) (t := 233) rfl rfl e233_k10_21).trans hGk10_17.out.symm) (v := .bool Bk10_22) (fun hG => by obtain ⟨hp0, hb0⟩ := iGk10_17.out hG; generalize ak10_21.eval = ρ at e236_k10_21 e238_k10_21; simp only [vif, cond_true, cond_false, hG, hp0, hb0] at e236_k10_21 e238_k10_21; rw [hBk10_22.out]; simp only [execOp]; go_simp) fun ak10_22 fk10_22 => ?_
          have e1_k10_22 := (fk10_22.other 1 (by decide)).trans e1_k10_21
          have e233_k10_22 := (fk10_22.other 233 (by decide)).trans e233_k10_21
          have e239_k10_22 : ak10_22.eval (.tmp 239) = vif Gk10_17 (.bool Bk10_22) := fk10_22.own
          have zk10_22 := fk10_22.sz
          have dk10_22 := fk10_22.df.trans dk10_21
          clear fk10_22 e1_k10_21 e233_k10_21 e236_k10_21 e238_k10_21 zk10_21 dk10_21
          obtain ⟨Bk10_23, hBk10_23⟩ : ∃ B, Hid (B = ((Bk10_15 && Bk10_22))) := ⟨_, Lib.hid rfl⟩
          refine fr_g zk10_22 (t := 240) (by decide) rfl (by rfl) (v := .bool Bk10_23) (fun hG => by have hc0 : ak10_22.eval (.const (.bool false)) = .bool false := rfl; generalize ak10_22.eval = ρ at e233_k10_22 e239_k10_22 hc0; rw [hBk10_23.out]; cases Bk10_15 <;> simp only [execOp, vif, cond_true, cond_false, Bool.true_and, Bool.false_and, Bool.true_or, Bool.false_or, beq_self_eq_true, hGk10_4.out, hGk10_12.out, hGk10_17.out] at e239_k10_22 ⊢ <;> go_simp) fun ak10_23 fk10_23 => ?_
          have e1_k10_23 := (fk10_23.other 1 (by decide)).trans e1_k10_22
          have e240_k10_23 : ak10_23.eval (.tmp 240) = .bool Bk10_23 := fk10_23.own
          have zk10_23 := fk10_23.sz
          have dk10_23 := fk10_23.df.trans dk10_22
          clear fk10_23 e1_k10_22 e233_k10_22 e239_k10_22 zk10_22 dk10_22
          refine fr_g zk10_23 (t := 241) (by decide) rfl (by rfl) (v := .bool Bk10_23) (fun hG => by generalize ak10_23.eval = ρ at e240_k10_23; simp only [execOp]; go_simp) fun ak10_24 fk10_24 => ?_
          have e1_k10_24 := (fk10_24.other 1 (by decide)).trans e1_k10_23
          have e241_k10_24 : ak10_24.eval (.tmp 241) = .bool Bk10_23 := fk10_24.own
          have zk10_24 := fk10_24.sz
          have dk10_24 := fk10_24.df.trans dk10_23
          clear fk10_24 e1_k10_23 e240_k10_23 zk10_23 dk10_23
          obtain ⟨Gk10_25, hGk10_25⟩ : ∃ G, Hid (G = (true && (Bk10_23 == true))) := ⟨_, Lib.hid rfl⟩
          have iGk10_25 := Lib.hid (show Gk10_25 = true → true = true ∧ Bk10_23 = true from fun h => by rw [hGk10_25.out] at h; simpa using h)
          refine fr_g zk10_24 (t := 242) (by decide) rfl ((fr_w0 (k := 24) (b := true) (t := 241) rfl rfl e241_k10_24).trans hGk10_25.out.symm) (v := .pointer (some ⟨w.heap.size, 16, none⟩)) (fun hG => by obtain ⟨hp0, hb0⟩ := iGk10_25.out hG; generalize ak10_24.eval = ρ at e1_k10_24; simp only [execOp]; go_simp) fun ak10_25 fk10_25 => ?_
          have e1_k10_25 := (fk10_25.other 1 (by decide)).trans e1_k10_24
          have e241_k10_25 := (fk10_25.other 241 (by decide)).trans e241_k10_24
          have e242_k10_25 : ak10_25.eval (.tmp 242) = vif Gk10_25 (.pointer (some ⟨w.heap.size, 16, none⟩)) := fk10_25.own
          have zk10_25 := fk10_25.sz
          have dk10_25 := fk10_25.df.trans dk10_24
          clear fk10_25 e1_k10_24 e241_k10_24 zk10_24 dk10_24
          refine fr_g zk10_25 (t := 243) (by decide) rfl ((fr_w0 (k := 24) (b := true) (t := 241) rfl rfl e241_k10_25).trans hGk10_25.out.symm) (v := .slice a4 m.lk.length c4) (fun hG => by obtain ⟨hp0, hb0⟩ := iGk10_25.out hG; have y16 := X16.out wf HB.out; generalize ak10_25.eval = ρ at e242_k10_25; simp only [vif, cond_true, cond_false, hG, hp0, hb0] at e242_k10_25; simp only [execOp]; go_simp) fun ak10_26 fk10_26 => ?_
          have e1_k10_26 := (fk10_26.other 1 (by decide)).trans e1_k10_25
          have e241_k10_26 := (fk10_26.other 241 (by decide)).trans e241_k10_25
          have e243_k10_26 : ak10_26.eval (.tmp 243) = vif Gk10_25 (.slice a4 m.lk.length c4) := fk10_26.own
          have zk10_26 := fk10_26.sz
          have dk10_26 := fk10_26.df.trans dk10_25
          clear fk10_26 e1_k10_25 e241_k10_25 e242_k10_25 zk10_25 dk10_25
          refine fr_gc zk10_26 (t := 244) (by decide) rfl ((fr_w0 (k := 24) (b := true) (t := 241) rfl rfl e241_k10_26).trans hGk10_25.out.symm) 93 #[.slice a4 m.lk.length c4] (v := .bool (linksB 0 m.lk)) (fun hG => by obtain ⟨hp0, hb0⟩ := iGk10_25.out hG; have hf : ak10_26.eval (.func 93) = .func (.func 93) #[] #[] := rfl; generalize ak10_26.eval = ρ at hf e243_k10_26; simp only [vif, cond_true, cond_false, hG, hp0, hb0] at e243_k10_26; simp only [execOp]; go_simp) (fun hG => CL.out wf HB.out) fun ak10_27 uk10_27 blk10_27 fk10_27 => ?_
          have HBk10_27 := Lib.hid (bthen HB.out blk10_27)
          clear blk10_27
          have e1_k10_27 := (fk10_27.other 1 (by decide)).trans e1_k10_26
          have e241_k10_27 := (fk10_27.other 241 (by decide)).trans e241_k10_26
          have e244_k10_27 : ak10_27.eval (.tmp 244) = vif Gk10_25 (.bool (linksB 0 m.lk)) := fk10_27.own
          have zk10_27 := fk10_27.sz
          have dk10_27 := fk10_27.df.trans dk10_26
          clear fk10_27 e1_k10_26 e241_k10_26 e243_k10_26 zk10_26 dk10_26
          obtain ⟨Bk10_28, hBk10_28⟩ : ∃ B, Hid (B = ((Bk10_23 && (linksB 0 m.lk)))) := ⟨_, Lib.hid rfl⟩
          refine fr_g zk10_27 (t := 245) (by decide) rfl (by rfl) (v := .bool Bk10_28) (fun hG => by have hc0 : ak10_27.eval (.const (.bool false)) = .bool false := rfl; generalize ak10_27.eval = ρ at e241_k10_27 e244_k10_27 hc0; rw [hBk10_28.out]; cases Bk10_23 <;> simp only [execOp, vif, cond_true, cond_false, Bool.true_and, Bool.false_and, Bool.true_or, Bool.false_or, beq_self_eq_true, hGk10_4.out, hGk10_12.out, hGk10_17.out, hGk10_25.out] at e244_k10_27 ⊢ <;> go_simp) fun ak10_28 fk10_28 => ?_
          have e1_k10_28 := (fk10_28.other 1 (by decide)).trans e1_k10_27
          have e245_k10_28 : ak10_28.eval (.tmp 245) = .bool Bk10_28 := fk10_28.own
          have zk10_28 := fk10_28.sz
          have dk10_28 := fk10_28.df.trans dk10_27
          clear fk10_28 e1_k10_27 e241_k10_27 e244_k10_27 zk10_27 dk10_27
          refine fr_g zk10_28 (t := 246) (by decide) rfl (by rfl) (v := .bool Bk10_28) (fun hG => by generalize ak10_28.eval = ρ at e245_k10_28; simp only [execOp]; go_simp) fun ak10_29 fk10_29 => ?_
          have e1_k10_29 := (fk10_29.other 1 (by decide)).trans e1_k10_28
          have e246_k10_29 : ak10_29.eval (.tmp 246) = .bool Bk10_28 := fk10_29.own
          have zk10_29 := fk10_29.sz
          have dk10_29 := fk10_29.df.trans dk10_28
          clear fk10_29 e1_k10_28 e245_k10_28 zk10_28 dk10_28
          obtain ⟨Gk10_30, hGk10_30⟩ : ∃ G, Hid (G = (true && (Bk10_28 == true))) := ⟨_, Lib.hid rfl⟩
          have iGk10_30 := Lib.hid (show Gk10_30 = true → true = true ∧ Bk10_28 = true from fun h => by rw [hGk10_30.out] at h; simpa using h)
          refine fr_g zk10_29 (t := 247) (by decide) rfl ((fr_w0 (k := 29) (b := true) (t := 246) rfl rfl e246_k10_29).trans hGk10_30.out.symm) (v := .agg CS) (fun _ => load_row _ _ (.tmp 1) Tryz.underlying35 rfl HI.out rfl e1_k10_29 (KB.out uk10_27 HBk10_27.out)) fun ak10_30 fk10_30 => ?_
          have e1_k10_30 := (fk10_30.other 1 (by decide)).trans e1_k10_29
          have e246_k10_30 := (fk10_30.other 246 (by decide)).trans e246_k10_29
          have e247_k10_30 : ak10_30.eval (.tmp 247) = vif Gk10_30 (.agg CS) := fk10_30.own
          have zk10_30 := fk10_30.sz
          have dk10_30 := fk10_30.df.trans dk10_29
          clear fk10_30 e1_k10_29 e246_k10_29 zk10_29 dk10_29
          refine fr_gc zk10_30 (t := 248) (by decide) rfl ((fr_w0 (k := 29) (b := true) (t := 246) rfl rfl e246_k10_30).trans hGk10_30.out.symm) 87 #[.agg CS, .string ⟨#[115, 116, 103, 108]⟩] (v := .bool (restB { s := true, t := true, sg := true, lk := true } m)) (fun hG => by obtain ⟨hp0, hb0⟩ := iGk10_30.out hG; have hc0 : ak10_30.eval (.const (.string ⟨#[115, 116, 103, 108]⟩)) = .string ⟨#[115, 116, 103, 108]⟩ := rfl; have hf : ak10_30.eval (.func 87) = .func (.func 87) #[] #[] := rfl; generalize ak10_30.eval = ρ at hf e247_k10_30 hc0; simp only [vif, cond_true, cond_false, hG, hp0, hb0] at e247_k10_30; simp only [execOp]; go_simp) (fun hG => CZstgl.out uk10_27 HBk10_27.out) fun ak10_31 uk10_31 blk10_31 fk10_31 => ?_
          have HBk10_31 := Lib.hid (bthen HBk10_27.out blk10_31)
          clear blk10_31
          have e1_k10_31 := (fk10_31.other 1 (by decide)).trans e1_k10_30
          have e246_k10_31 := (fk10_31.other 246 (by decide)).trans e246_k10_30
          have e248_k10_31 : ak10_31.eval (.tmp 248) = vif Gk10_30 (.bool (restB { s := true, t := true, sg := true, lk := true } m)) := fk10_31.own
          have zk10_31 := fk10_31.sz
          have dk10_31 := fk10_31.df.trans dk10_30
          clear fk10_31 e1_k10_30 e246_k10_30 e247_k10_30 zk10_30 dk10_30
          obtain ⟨Bk10_32, hBk10_32⟩ : ∃ B, Hid (B = ((Bk10_28 && (restB { s := true, t := true, sg := true, lk := true } m)))) := ⟨_, Lib.hid rfl⟩
          refine fr_g zk10_31 (t := 249) (by decide) rfl (by rfl) (v := .bool Bk10_32) (fun hG => by have hc0 : ak10_31.eval (.const (.bool false)) = .bool false := rfl; generalize ak10_31.eval = ρ at e246_k10_31 e248_k10_31 hc0; rw [hBk10_32.out]; cases Bk10_28 <;> simp only [execOp, vif, cond_true, cond_false, Bool.true_and, Bool.false_and, Bool.true_or, Bool.false_or, beq_self_eq_true, hGk10_4.out, hGk10_12.out, hGk10_17.out, hGk10_25.out, hGk10_30.out] at e248_k10_31 ⊢ <;> go_simp) fun ak10_32 fk10_32 => ?_
          have e1_k10_32 := (fk10_32.other 1 (by decide)).trans e1_k10_31
          have e249_k10_32 : ak10_32.eval (.tmp 249) = .bool Bk10_32 := fk10_32.own
          have zk10_32 := fk10_32.sz
          have dk10_32 := fk10_32.df.trans dk10_31
          clear fk10_32 e1_k10_31 e246_k10_31 e248_k10_31 zk10_31 dk10_31
          refine fr_g zk10_32 (t := 5) (by decide) rfl (by rfl) (v := .bool Bk10_32) (fun hG => by generalize ak10_32.eval = ρ at e249_k10_32; simp only [execOp]; go_simp) fun ak10_33 fk10_33 => ?_
          have e1_k10_33 := (fk10_33.other 1 (by decide)).trans e1_k10_32
          have e5_k10_33 : ak10_33.eval (.tmp 5) = .bool Bk10_32 := fk10_33.own
          have zk10_33 := fk10_33.sz
          have dk10_33 := fk10_33.df.trans dk10_32
          clear fk10_33 e1_k10_32 e249_k10_32 zk10_32 dk10_32
          have hv : Bk10_32 = okR m := by
            rw [hok]
            unfold okR10
            simp only [hBk10_32.out, hBk10_28.out, hBk10_23.out, hBk10_22.out, hBk10_15.out, hBk10_14.out, hBk10_10.out, hBk10_9.out, hBk10_2.out]
            try (simp [Bool.and_assoc])
          exact hQ _ _ ⟨zk10_33, dk10_33, HBk10_31.out, e1_k10_33, by rw [e5_k10_33, hv]⟩
        intro a' w' h
        exact hQ0 _ _ h
    clear e3 e4 e30 hsz hdf e1 HB
    rintro af wf ⟨hsz, hdf, hb, e1, e5⟩
    have HB := Lib.hid hb
    clear hb
    show Code.wp Tryz.prog _ _ af wf
    refine wp_seq ?_
    refine wp_seq ?_
    refine fr_region (fun a' w' => a'.tmps.size = 268 ∧ a'.defers = [] ∧ Below w1.heap.size w1 w' ∧ a'.eval (.tmp 267) = .bool (((!(okR m) || decide (m.e < 0)) || decide (60 < m.e)) || !(sigsB m.sg))) (fun Q' hQ => ?_) ?_
    · skip
      refine fr_g hsz (t := 250) (by decide) rfl (by rfl) (v := .bool (okR m)) (fun hG => by generalize af.eval = ρ at e5; simp only [execOp]; go_simp) fun ar28_0 fr28_0 => ?_
      have e1_r28_0 := (fr28_0.other 1 (by decide)).trans e1
      have e250_r28_0 : ar28_0.eval (.tmp 250) = .bool (okR m) := fr28_0.own
      have zr28_0 := fr28_0.sz
      have dr28_0 := fr28_0.df.trans hdf
      clear fr28_0 e1 e5 hsz hdf
      obtain ⟨Br28_1, hBr28_1⟩ : ∃ B, Hid (B = (!(okR m))) := ⟨_, Lib.hid rfl⟩
      refine fr_g zr28_0 (t := 251) (by decide) rfl (by rfl) (v := .bool Br28_1) (fun hG => by generalize ar28_0.eval = ρ at e250_r28_0; rw [hBr28_1.out]; simp only [execOp]; go_simp) fun ar28_1 fr28_1 => ?_
      have e1_r28_1 := (fr28_1.other 1 (by decide)).trans e1_r28_0
      have e251_r28_1 : ar28_1.eval (.tmp 251) = .bool Br28_1 := fr28_1.own
      have zr28_1 := fr28_1.sz
      have dr28_1 := fr28_1.df.trans dr28_0
      clear fr28_1 e1_r28_0 e250_r28_0 zr28_0 dr28_0
      refine fr_g zr28_1 (t := 252) (by decide) rfl (by rfl) (v := .bool Br28_1) (fun hG => by generalize ar28_1.eval = ρ at e251_r28_1; simp only [execOp]; go_simp) fun ar28_2 fr28_2 => ?_
      have e1_r28_2 := (fr28_2.other 1 (by decide)).trans e1_r28_1
      have e252_r28_2 : ar28_2.eval (.tmp 252) = .bool Br28_1 := fr28_2.own
      have zr28_2 := fr28_2.sz
      have dr28_2 := fr28_2.df.trans dr28_1
      clear fr28_2 e1_r28_1 e251_r28_1 zr28_1 dr28_1
      obtain ⟨Gr28_3, hGr28_3⟩ : ∃ G, Hid (G = (true && (Br28_1 == false))) := ⟨_, Lib.hid rfl⟩
      have iGr28_3 := Lib.hid (show Gr28_3 = true → true = true ∧ Br28_1 = false from fun h => by rw [hGr28_3.out] at h; simpa using h)
      refine fr_g zr28_2 (t := 253) (by decide) rfl ((fr_w0 (k := 2) (b := false) (t := 252) rfl rfl e252_r28_2).trans hGr28_3.out.symm) (v := .pointer (some ⟨w.heap.size, 1, none⟩)) (fun hG => by obtain ⟨hp0, hb0⟩ := iGr28_3.out hG; generalize ar28_2.eval = ρ at e1_r28_2; simp only [execOp]; go_simp) fun ar28_3 fr28_3 => ?_
      have e1_r28_3 := (fr28_3.other 1 (by decide)).trans e1_r28_2
      have e252_r28_3 := (fr28_3.other 252 (by decide)).trans e252_r28_2
      have e253_r28_3 : ar28_3.eval (.tmp 253) = vif Gr28_3 (.pointer (some ⟨w.heap.size, 1, none⟩)) := fr28_3.own
      have zr28_3 := fr28_3.sz
      have dr28_3 := fr28_3.df.trans dr28_2
      clear fr28_3 e1_r28_2 e252_r28_2 zr28_2 dr28_2
      refine fr_g zr28_3 (t := 254) (by decide) rfl ((fr_w0 (k := 2) (b := false) (t := 252) rfl rfl e252_r28_3).trans hGr28_3.out.symm) (v := .int .i64 m.e) (fun hG => by obtain ⟨hp0, hb0⟩ := iGr28_3.out hG; have y1 := X1.out wf HB.out; generalize ar28_3.eval = ρ at e253_r28_3; simp only [vif, cond_true, cond_false, hG, hp0, hb0] at e253_r28_3; simp only [execOp]; go_simp) fun ar28_4 fr28_4 => ?_
      have e1_r28_4 := (fr28_4.other 1 (by decide)).trans e1_r28_3
      have e252_r28_4 := (fr28_4.other 252 (by decide)).trans e252_r28_3
      have e254_r28_4 : ar28_4.eval (.tmp 254) = vif Gr28_3 (.int .i64 m.e) := fr28_4.own
      have zr28_4 := fr28_4.sz
      have dr28_4 := fr28_4.df.trans dr28_3
      clear fr28_4 e1_r28_3 e252_r28_3 e253_r28_3 zr28_3 dr28_3
      obtain ⟨Br28_5, hBr28_5⟩ : ∃ B, Hid (B = (decide ((m.e : Int) < 0))) := ⟨_, Lib.hid rfl⟩
      refine fr_g zr28_4 (t := 255) (by decide) rfl ((fr_w0 (k := 2) (b := false) (t := 252) rfl rfl e252_r28_4).trans hGr28_3.out.symm) (v := .bool Br28_5) (fun hG => by obtain ⟨hp0, hb0⟩ := iGr28_3.out hG; have hc0 : ar28_4.eval (.const (.int .i64 0)) = .int .i64 0 := rfl; generalize ar28_4.eval = ρ at e254_r28_4 hc0; simp only [vif, cond_true, cond_false, hG, hp0, hb0] at e254_r28_4; rw [hBr28_5.out]; simp only [execOp]; go_simp) fun ar28_5 fr28_5 => ?_
      have e1_r28_5 := (fr28_5.other 1 (by decide)).trans e1_r28_4
      have e252_r28_5 := (fr28_5.other 252 (by decide)).trans e252_r28_4
      have e255_r28_5 : ar28_5.eval (.tmp 255) = vif Gr28_3 (.bool Br28_5) := fr28_5.own
      have zr28_5 := fr28_5.sz
      have dr28_5 := fr28_5.df.trans dr28_4
      clear fr28_5 e1_r28_4 e252_r28_4 e254_r28_4 zr28_4 dr28_4
      obtain ⟨Br28_6, hBr28_6⟩ : ∃ B, Hid (B = ((Br28_1 || Br28_5))) := ⟨_, Lib.hid rfl⟩
      refine fr_g zr28_5 (t := 256) (by decide) rfl (by rfl) (v := .bool Br28_6) (fun hG => by have hc0 : ar28_5.eval (.const (.bool true)) = .bool true := rfl; generalize ar28_5.eval = ρ at e252_r28_5 e255_r28_5 hc0; rw [hBr28_6.out]; cases Br28_1 <;> simp only [execOp, vif, cond_true, cond_false, Bool.true_and, Bool.false_and, Bool.true_or, Bool.false_or, beq_self_eq_true, hGr28_3.out] at e255_r28_5 ⊢ <;> go_simp) fun ar28_6 fr28_6 => ?_
      have e1_r28_6 := (fr28_6.other 1 (by decide)).trans e1_r28_5
      have e256_r28_6 : ar28_6.eval (.tmp 256) = .bool Br28_6 := fr28_6.own
      have zr28_6 := fr28_6.sz
      have dr28_6 := fr28_6.df.trans dr28_5
      clear fr28_6 e1_r28_5 e252_r28_5 e255_r28_5 zr28_5 dr28_5
      refine fr_g zr28_6 (t := 257) (by decide) rfl (by rfl) (v := .bool Br28_6) (fun hG => by generalize ar28_6.eval = ρ at e256_r28_6; simp only [execOp]; go_simp) fun ar28_7 fr28_7 => ?_
      have e1_r28_7 := (fr28_7.other 1 (by decide)).trans e1_r28_6
      have e257_r28_7 : ar28_7.eval (.tmp 257) = .bool Br28_6 := fr28_7.own
      have zr28_7 := fr28_7.sz
      have dr28_7 := fr28_7.df.trans dr28_6
      clear fr28_7 e1_r28_6 e256_r28_6 zr28_6 dr28_6
      obtain ⟨Gr28_8, hGr28_8⟩ : ∃ G, Hid (G = (true && (Br28_6 == false))) := ⟨_, Lib.hid rfl⟩
      have iGr28_8 := Lib.hid (show Gr28_8 = true → true = true ∧ Br28_6 = false from fun h => by rw [hGr28_8.out] at h; simpa using h)
      refine fr_g zr28_7 (t := 258) (by decide) rfl ((fr_w0 (k := 7) (b := false) (t := 257) rfl rfl e257_r28_7).trans hGr28_8.out.symm) (v := .pointer (some ⟨w.heap.size, 1, none⟩)) (fun hG => by obtain ⟨hp0, hb0⟩ := iGr28_8.out hG; generalize ar28_7.eval = ρ at e1_r28_7; simp only [execOp]; go_simp) fun ar28_8 fr28_8 => ?_
      have e1_r28_8 := (fr28_8.other 1 (by decide)).trans e1_r28_7
      have e257_r28_8 := (fr28_8.other 257 (by decide)).trans e257_r28_7
      have e258_r28_8 : ar28_8.eval (.tmp 258) = vif Gr28_8 (.pointer (some ⟨w.heap.size, 1, none⟩)) := fr28_8.own
      have zr28_8 := fr28_8.sz
      have dr28_8 := fr28_8.df.trans dr28_7
      clear fr28_8 e1_r28_7 e257_r28_7 zr28_7 dr28_7
      refine fr_g zr28_8 (t := 259) (by decide) rfl ((fr_w0 (k := 7) (b := false) (t := 257) rfl rfl e257_r28_8).trans hGr28_8.out.symm) (v := .int .i64 m.e) (fun hG => by obtain ⟨hp0, hb0⟩ := iGr28_8.out hG; have y1 := X1.out wf HB.out; generalize ar28_8.eval = ρ at e258_r28_8; simp only [vif, cond_true, cond_false, hG, hp0, hb0] at e258_r28_8; simp only [execOp]; go_simp) fun ar28_9 fr28_9 => ?_
      have e1_r28_9 := (fr28_9.other 1 (by decide)).trans e1_r28_8
      have e257_r28_9 := (fr28_9.other 257 (by decide)).trans e257_r28_8
      have e259_r28_9 : ar28_9.eval (.tmp 259) = vif Gr28_8 (.int .i64 m.e) := fr28_9.own
      have zr28_9 := fr28_9.sz
      have dr28_9 := fr28_9.df.trans dr28_8
      clear fr28_9 e1_r28_8 e257_r28_8 e258_r28_8 zr28_8 dr28_8
      obtain ⟨Br28_10, hBr28_10⟩ : ∃ B, Hid (B = (decide ((60 : Int) < m.e))) := ⟨_, Lib.hid rfl⟩
      refine fr_g zr28_9 (t := 260) (by decide) rfl ((fr_w0 (k := 7) (b := false) (t := 257) rfl rfl e257_r28_9).trans hGr28_8.out.symm) (v := .bool Br28_10) (fun hG => by obtain ⟨hp0, hb0⟩ := iGr28_8.out hG; have hc0 : ar28_9.eval (.const (.int .i64 60)) = .int .i64 60 := rfl; generalize ar28_9.eval = ρ at e259_r28_9 hc0; simp only [vif, cond_true, cond_false, hG, hp0, hb0] at e259_r28_9; rw [hBr28_10.out]; simp only [execOp]; go_simp) fun ar28_10 fr28_10 => ?_
      have e1_r28_10 := (fr28_10.other 1 (by decide)).trans e1_r28_9
      have e257_r28_10 := (fr28_10.other 257 (by decide)).trans e257_r28_9
      have e260_r28_10 : ar28_10.eval (.tmp 260) = vif Gr28_8 (.bool Br28_10) := fr28_10.own
      have zr28_10 := fr28_10.sz
      have dr28_10 := fr28_10.df.trans dr28_9
      clear fr28_10 e1_r28_9 e257_r28_9 e259_r28_9 zr28_9 dr28_9
      obtain ⟨Br28_11, hBr28_11⟩ : ∃ B, Hid (B = ((Br28_6 || Br28_10))) := ⟨_, Lib.hid rfl⟩
      refine fr_g zr28_10 (t := 261) (by decide) rfl (by rfl) (v := .bool Br28_11) (fun hG => by have hc0 : ar28_10.eval (.const (.bool true)) = .bool true := rfl; generalize ar28_10.eval = ρ at e257_r28_10 e260_r28_10 hc0; rw [hBr28_11.out]; cases Br28_6 <;> simp only [execOp, vif, cond_true, cond_false, Bool.true_and, Bool.false_and, Bool.true_or, Bool.false_or, beq_self_eq_true, hGr28_3.out, hGr28_8.out] at e260_r28_10 ⊢ <;> go_simp) fun ar28_11 fr28_11 => ?_
      have e1_r28_11 := (fr28_11.other 1 (by decide)).trans e1_r28_10
      have e261_r28_11 : ar28_11.eval (.tmp 261) = .bool Br28_11 := fr28_11.own
      have zr28_11 := fr28_11.sz
      have dr28_11 := fr28_11.df.trans dr28_10
      clear fr28_11 e1_r28_10 e257_r28_10 e260_r28_10 zr28_10 dr28_10
      refine fr_g zr28_11 (t := 262) (by decide) rfl (by rfl) (v := .bool Br28_11) (fun hG => by generalize ar28_11.eval = ρ at e261_r28_11; simp only [execOp]; go_simp) fun ar28_12 fr28_12 => ?_
      have e1_r28_12 := (fr28_12.other 1 (by decide)).trans e1_r28_11
      have e262_r28_12 : ar28_12.eval (.tmp 262) = .bool Br28_11 := fr28_12.own
      have zr28_12 := fr28_12.sz
      have dr28_12 := fr28_12.df.trans dr28_11
      clear fr28_12 e1_r28_11 e261_r28_11 zr28_11 dr28_11
      obtain ⟨Gr28_13, hGr28_13⟩ : ∃ G, Hid (G = (true && (Br28_11 == false))) := ⟨_, Lib.hid rfl⟩
      have iGr28_13 := Lib.hid (show Gr28_13 = true → true = true ∧ Br28_11 = false from fun h => by rw [hGr28_13.out] at h; simpa using h)
      refine fr_g zr28_12 (t := 263) (by decide) rfl ((fr_w0 (k := 12) (b := false) (t := 262) rfl rfl e262_r28_12).trans hGr28_13.out.symm) (v := .pointer (some ⟨w.heap.size, 14, none⟩)) (fun hG => by obtain ⟨hp0, hb0⟩ := iGr28_13.out hG; generalize ar28_12.eval = ρ at e1_r28_12; simp only [execOp]; go_simp) fun ar28_13 fr28_13 => ?_
      have e262_r28_13 := (fr28_13.other 262 (by decide)).trans e262_r28_12
      have e263_r28_13 : ar28_13.eval (.tmp 263) = vif Gr28_13 (.pointer (some ⟨w.heap.size, 14, none⟩)) := fr28_13.own
      have zr28_13 := fr28_13.sz
      have dr28_13 := fr28_13.df.trans dr28_12
      clear fr28_13 e1_r28_12 e262_r28_12 zr28_12 dr28_12
      refine fr_g zr28_13 (t := 264) (by decide) rfl ((fr_w0 (k := 12) (b := false) (t := 262) rfl rfl e262_r28_13).trans hGr28_13.out.symm) (v := .slice a2 m.sg.length c2) (fun hG => by obtain ⟨hp0, hb0⟩ := iGr28_13.out hG; have y14 := X14.out wf HB.out; generalize ar28_13.eval = ρ at e263_r28_13; simp only [vif, cond_true, cond_false, hG, hp0, hb0] at e263_r28_13; simp only [execOp]; go_simp) fun ar28_14 fr28_14 => ?_
      have e262_r28_14 := (fr28_14.other 262 (by decide)).trans e262_r28_13
      have e264_r28_14 : ar28_14.eval (.tmp 264) = vif Gr28_13 (.slice a2 m.sg.length c2) := fr28_14.own
      have zr28_14 := fr28_14.sz
      have dr28_14 := fr28_14.df.trans dr28_13
      clear fr28_14 e262_r28_13 e263_r28_13 zr28_13 dr28_13
      refine fr_gc zr28_14 (t := 265) (by decide) rfl ((fr_w0 (k := 12) (b := false) (t := 262) rfl rfl e262_r28_14).trans hGr28_13.out.symm) 94 #[.slice a2 m.sg.length c2] (v := .bool (sigsB m.sg)) (fun hG => by obtain ⟨hp0, hb0⟩ := iGr28_13.out hG; have hf : ar28_14.eval (.func 94) = .func (.func 94) #[] #[] := rfl; generalize ar28_14.eval = ρ at hf e264_r28_14; simp only [vif, cond_true, cond_false, hG, hp0, hb0] at e264_r28_14; simp only [execOp]; go_simp) (fun hG => CG.out wf HB.out) fun ar28_15 ur28_15 blr28_15 fr28_15 => ?_
      have HBr28_15 := Lib.hid (bthen HB.out blr28_15)
      clear blr28_15
      have e262_r28_15 := (fr28_15.other 262 (by decide)).trans e262_r28_14
      have e265_r28_15 : ar28_15.eval (.tmp 265) = vif Gr28_13 (.bool (sigsB m.sg)) := fr28_15.own
      have zr28_15 := fr28_15.sz
      have dr28_15 := fr28_15.df.trans dr28_14
      clear fr28_15 e262_r28_14 e264_r28_14 zr28_14 dr28_14
      obtain ⟨Br28_16, hBr28_16⟩ : ∃ B, Hid (B = (!(sigsB m.sg))) := ⟨_, Lib.hid rfl⟩
      refine fr_g zr28_15 (t := 266) (by decide) rfl ((fr_w0 (k := 12) (b := false) (t := 262) rfl rfl e262_r28_15).trans hGr28_13.out.symm) (v := .bool Br28_16) (fun hG => by obtain ⟨hp0, hb0⟩ := iGr28_13.out hG; generalize ar28_15.eval = ρ at e265_r28_15; simp only [vif, cond_true, cond_false, hG, hp0, hb0] at e265_r28_15; rw [hBr28_16.out]; simp only [execOp]; go_simp) fun ar28_16 fr28_16 => ?_
      have e262_r28_16 := (fr28_16.other 262 (by decide)).trans e262_r28_15
      have e266_r28_16 : ar28_16.eval (.tmp 266) = vif Gr28_13 (.bool Br28_16) := fr28_16.own
      have zr28_16 := fr28_16.sz
      have dr28_16 := fr28_16.df.trans dr28_15
      clear fr28_16 e262_r28_15 e265_r28_15 zr28_15 dr28_15
      obtain ⟨Br28_17, hBr28_17⟩ : ∃ B, Hid (B = ((Br28_11 || Br28_16))) := ⟨_, Lib.hid rfl⟩
      refine fr_g zr28_16 (t := 267) (by decide) rfl (by rfl) (v := .bool Br28_17) (fun hG => by have hc0 : ar28_16.eval (.const (.bool true)) = .bool true := rfl; generalize ar28_16.eval = ρ at e262_r28_16 e266_r28_16 hc0; rw [hBr28_17.out]; cases Br28_11 <;> simp only [execOp, vif, cond_true, cond_false, Bool.true_and, Bool.false_and, Bool.true_or, Bool.false_or, beq_self_eq_true, hGr28_3.out, hGr28_8.out, hGr28_13.out] at e266_r28_16 ⊢ <;> go_simp) fun ar28_17 fr28_17 => ?_
      have e267_r28_17 : ar28_17.eval (.tmp 267) = .bool Br28_17 := fr28_17.own
      have zr28_17 := fr28_17.sz
      have dr28_17 := fr28_17.df.trans dr28_16
      clear fr28_17 e262_r28_16 e266_r28_16 zr28_16 dr28_16
      exact hQ _ _ ⟨zr28_17, dr28_17, HBr28_15.out, by rw [e267_r28_17]; simp only [hBr28_17.out, hBr28_16.out, hBr28_11.out, hBr28_10.out, hBr28_6.out, hBr28_5.out, hBr28_1.out]⟩
    clear hsz hdf e1 e5 HB
    rintro af wf ⟨hsz, hdf, hb, e267⟩
    have HB := Lib.hid hb
    clear hb
    show Code.wp Tryz.prog _ _ af wf
    have HF := Lib.hid (show fitR m = if (((!(okR m) || decide (m.e < 0)) || decide (60 < m.e)) || !(sigsB m.sg)) then 4 else 0 by unfold fitR; rw [hk]; rfl)
    generalize (((!(okR m) || decide (m.e < 0)) || decide (60 < m.e)) || !(sigsB m.sg)) = R at HF e267
    cases R with
    | true =>
      refine wp_cond_true e267 ?_
      refine wp_seq ?_
      refine fr_region (fun a' w' => a'.tmps.size = 268 ∧ a'.defers = [] ∧ Below w1.heap.size w1 w' ∧ a'.eval (.tmp 2) = .int .i64 4) (fun Q' hQ => ?_) ?_
      · refine fr_g hsz (t := 2) (by decide) rfl (by rfl) (v := .int .i64 4) (fun hG => by have hc0 : af.eval (.const (.int .i64 4)) = .int .i64 4 := rfl; generalize af.eval = ρ at hc0; simp only [execOp]; go_simp) fun a2 f2 => ?_
        exact hQ _ _ ⟨f2.sz, f2.df.trans hdf, HB.out, f2.own⟩
      rintro a2 w2 ⟨hsz2, hdf2, hb2, e2⟩
      show Code.wp Tryz.prog _ _ a2 w2
      refine wp_ret ?_
      refine then_ret ?_
      refine bodyPost_ret (v := .int .i64 4) ?_ hdf2 (show _ ∧ _ from ⟨by rw [HF.out]; rfl, bthen B1.out hb2⟩)
      have e2' : a2.tmps[2]?.getD undef = .int .i64 4 := by rw [← Array.getD_eq_getD_getElem?]; exact e2
      simp [results, Tryz.results38, e2']
    | false =>
      refine wp_cond_false e267 ?_
      refine wp_skip ?_
      show Code.wp Tryz.prog _ _ af wf
      refine wp_seq ?_
      refine fr_region (fun a' w' => a'.tmps.size = 268 ∧ a'.defers = [] ∧ Below w1.heap.size w1 w' ∧ a'.eval (.tmp 2) = .int .i64 0) (fun Q' hQ => ?_) ?_
      · refine fr_g hsz (t := 2) (by decide) rfl (by rfl) (v := .int .i64 0) (fun hG => by have hc0 : af.eval (.const (.int .i64 0)) = .int .i64 0 := rfl; generalize af.eval = ρ at hc0; simp only [execOp]; go_simp) fun a2 f2 => ?_
        exact hQ _ _ ⟨f2.sz, f2.df.trans hdf, HB.out, f2.own⟩
      rintro a2 w2 ⟨hsz2, hdf2, hb2, e2⟩
      show Code.wp Tryz.prog _ _ a2 w2
      refine wp_ret ?_
      refine bodyPost_ret (v := .int .i64 0) ?_ hdf2 (show _ ∧ _ from ⟨by rw [HF.out]; rfl, bthen B1.out hb2⟩)
      have e2' : a2.tmps[2]?.getD undef = .int .i64 0 := by rw [← Array.getD_eq_getD_getElem?]; exact e2
      simp [results, Tryz.results38, e2']
end Go.Proofs.YtijeieamodjgbaaGreat
