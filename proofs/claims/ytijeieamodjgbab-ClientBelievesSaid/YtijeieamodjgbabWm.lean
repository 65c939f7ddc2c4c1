
/- Messages: what they are in memory, and how arguments of these types read. -/
import Derived.Test.YtijeieamodjgbabDt
import Derived.Test.YtijeieamodjgbabCl
import Derived.Test.YtijeieamodjgbabDh
import Derived.Test.YtijeieamodjgbabRdW
import Derived.Test.YtijeieamodjgbabReP
import Derived.Test.YtijeieamodjgbabDr2

namespace Go.Proofs.Ytijeieamodjgbab
set_option maxRecDepth 100000
open Go.ChangeShapes Go.WideShapes Go.ChangeAt Go.RowKit Go.Deep
set_option linter.unusedVariables false
set_option linter.unusedSimpArgs false

section
variable {H : Type} {enc : TypeId × Value → H} {P : Program} {w : World} {base : Nat} {spare : Nat → Bool} {held : Bool} {fuel : Nat} {t : TypeId} {cs : List Value} {x : DataW H × List MemPlace}
theorem trod_float {k : FloatKind} (ht : P.underlying t = some (.float k)) (h : DataW.trod enc P w base spare held fuel t cs = some x) : ∃ b, cs = [.float k b] ∧ x = (.lit (.float k b), []) ∧ (Lit.float k b).wf = true := by
  cases fuel with
  | zero => simp [DataW.trod] at h
  | succ n =>
    unfold DataW.trod at h
    rw [ht] at h
    split at h <;> simp_all
end
def Sh.f64 : Sh Nat where
  k := 1
  bs := 8
  E := fun _ b cs => cs = [.float .f64 b] ∧ b < 18446744073709551616
  sz := fun _ => 1
  len := fun ⟨h, _⟩ => by rw [h]; rfl
  old := fun h _ => h
def Sh.map {α β : Type} (S : Sh α) (f : β → α) : Sh β where
  k := S.k
  bs := S.bs
  E := fun w y cs => S.E w (f y) cs
  sz := fun y => S.sz (f y)
  len := fun h => S.len h
  old := fun h hb => S.old h hb
section
variable {P : Program} {t e : TypeId}
theorem vw_f64 (ht : P.underlying t = some (.float .f64)) (hc : P.cellsOf t = 1) (hb : P.bytesOf t = 8) : Vw P t Sh.f64 :=
  ⟨hc, hb, fun h _ => by
    obtain ⟨n, hcs, rfl, hw⟩ := trod_float ht h
    refine ⟨n, ⟨hcs, ?_⟩, Nat.le_refl _⟩
    simp only [Lit.wf, decide_eq_true_eq, Bool.and_eq_true] at hw
    first | exact hw | exact hw.1 | omega⟩
theorem vw_map {α β : Type} {S : Sh α} (f : β → α) (g : α → β) (hfg : ∀ y, f (g y) = y) (V : Vw P t S) : Vw P t (S.map f) :=
  ⟨V.1, V.2.1, fun h hw => by
    obtain ⟨y, hy, hs⟩ := V.2.2 h hw
    exact ⟨g y, by show S.E _ (f (g y)) _; rw [hfg]; exact hy, by show S.sz (f (g y)) ≤ _; rw [hfg]; exact hs⟩⟩
end
theorem vwF64 : Vw Try.prog 31 Sh.f64 := vw_f64 Try.underlying31 (by kernel_rfl) (by kernel_rfl)

/-- An operation, a request, a result. -/
def shOpn : Sh (Int × ByteArray × Nat × Int) := (Sh.int.pair (Sh.str.pair (Sh.f64.pair Sh.int))).bytes 40
theorem vwOpn : Vw Try.prog 33 shOpn := vw_struct Try.underlying33 (fsv_cons vwInt (fsv_cons vwStr (fsv_cons vwF64 (fsv_one vwInt) rfl) rfl) rfl) (by kernel_rfl) (by kernel_rfl)
def shReq : Sh Rq := ((Sh.int.pair (Sh.int.pair shOpn)).bytes 56).map fun r => (r.c, r.s, r.kind, r.key, r.b, r.id)
theorem vwReq : Vw Try.prog 35 shReq := vw_map _ (fun y => ⟨y.1, y.2.1, y.2.2.1, y.2.2.2.1, y.2.2.2.2.1, y.2.2.2.2.2⟩) (fun _ => rfl) (vw_struct Try.underlying35 (fsv_cons vwInt (fsv_cons vwInt (fsv_one vwOpn) rfl) rfl) (by kernel_rfl) (by kernel_rfl))
def shRes : Sh (Int × Nat) := (Sh.int.pair Sh.f64).bytes 16
theorem vwRes : Vw Try.prog 45 shRes := vw_struct Try.underlying45 (fsv_cons vwInt (fsv_one vwF64) rfl) (by kernel_rfl) (by kernel_rfl)
/-- Evidence: view, slot, request, signatures. -/
structure Ce where
  v : Int
  s : Int
  q : Rq
  sg : List Sg
/-- A change: who, which view, evidence, signature. -/
structure Ch where
  fr : Int
  v : Int
  ce : List Ce
  sg : Sg
/-- A message. -/
structure Mg where
  k : Int
  e : Int
  v : Int
  s : Int
  q : Rq
  c : Int
  r : Nat
  t : ByteArray
  nx : List Int
  sg : List Sg
  ch : List Ch
  lk : List Lk
def shCert : Sh Ce := ((Sh.int.pair (Sh.int.pair (shReq.pair shSig.slice))).bytes 96).map fun x => (x.v, x.s, x.q, x.sg)
theorem vwCert : Vw Try.prog 152 shCert := vw_map _ (fun y => ⟨y.1, y.2.1, y.2.2.1, y.2.2.2⟩) (fun _ => rfl) (vw_struct Try.underlying152 (fsv_cons vwInt (fsv_cons vwInt (fsv_cons vwReq (fsv_one vwSigs) rfl) rfl) rfl) (by kernel_rfl) (by kernel_rfl))
theorem vwCerts : Vw Try.prog 120 shCert.slice := vw_slice Try.underlying120 (by kernel_rfl) (by kernel_rfl) vwCert (by decide) (by decide)
def shChange : Sh Ch := ((Sh.int.pair (Sh.int.pair (shCert.slice.pair shSig))).bytes 64).map fun x => (x.fr, x.v, x.ce, x.sg)
theorem vwChange : Vw Try.prog 122 shChange := vw_map _ (fun y => ⟨y.1, y.2.1, y.2.2.1, y.2.2.2⟩) (fun _ => rfl) (vw_struct Try.underlying122 (fsv_cons vwInt (fsv_cons vwInt (fsv_cons vwCerts (fsv_one vwSig) rfl) rfl) rfl) (by kernel_rfl) (by kernel_rfl))
theorem vwChanges : Vw Try.prog 47 shChange.slice := vw_slice Try.underlying47 (by kernel_rfl) (by kernel_rfl) vwChange (by decide) (by decide)
def shMsg : Sh Mg := ((Sh.int.pair (Sh.int.pair (Sh.int.pair (Sh.int.pair (shReq.pair (shRes.pair (Sh.str.pair (Sh.int.slice.pair (shSig.slice.pair (shChange.slice.pair shLink.slice)))))))))).bytes 216).map fun m => (m.k, m.e, m.v, m.s, m.q, (m.c, m.r), m.t, m.nx, m.sg, m.ch, m.lk)
theorem vwMsg : Vw Try.prog 50 shMsg := vw_map _ (fun y => ⟨y.1, y.2.1, y.2.2.1, y.2.2.2.1, y.2.2.2.2.1, y.2.2.2.2.2.1.1, y.2.2.2.2.2.1.2, y.2.2.2.2.2.2.1, y.2.2.2.2.2.2.2.1, y.2.2.2.2.2.2.2.2.1, y.2.2.2.2.2.2.2.2.2.1, y.2.2.2.2.2.2.2.2.2.2⟩) (fun _ => rfl)
  (vw_struct Try.underlying50 (fsv_cons vwInt (fsv_cons vwInt (fsv_cons vwInt (fsv_cons vwInt (fsv_cons vwReq (fsv_cons vwRes (fsv_cons vwStr (fsv_cons vwInts (fsv_cons vwSigs (fsv_cons vwChanges (fsv_one vwLinks) rfl) rfl) rfl) rfl) rfl) rfl) rfl) rfl) rfl) rfl) (by kernel_rfl) (by kernel_rfl))

def Rq.cs (r : Rq) : List Value := [.int .i64 r.c, .int .i64 r.s, .int .i64 r.kind, .string r.key, .float .f64 r.b, .int .i64 r.id]
theorem req_open {w : World} {y : Rq} {cs : List Value} (h : shReq.E w y cs) : cs = y.cs ∧ y.Ok := by
  obtain ⟨c, s, kind, key, b, id⟩ := y
  obtain ⟨_, _, rfl, ⟨rfl, h1⟩, _, _, rfl, ⟨rfl, h2⟩, _, _, rfl, ⟨rfl, h3⟩, _, _, rfl, ⟨rfl, h4⟩, _, _, rfl, ⟨rfl, h5⟩, rfl, h6⟩ := h
  exact ⟨rfl, h1, h2, h3, h6, h5, h4⟩
theorem cert_open {w : World} {y : Ce} {cs : List Value} (h : shCert.E w y cs) : ∃ a n c, cs = [.int .i64 y.v, .int .i64 y.s, .int .i64 y.q.c, .int .i64 y.q.s, .int .i64 y.q.kind, .string y.q.key, .float .f64 y.q.b, .int .i64 y.q.id, .slice a n c] ∧ i64 y.v ∧ i64 y.s ∧ y.q.Ok ∧ SlAt shSig w a n c y.sg := by
  obtain ⟨_, _, rfl, ⟨rfl, h1⟩, _, _, rfl, ⟨rfl, h2⟩, _, _, rfl, h3, a, n, c, rfl, h4⟩ := h
  obtain ⟨rfl, q3⟩ := req_open h3
  exact ⟨a, n, c, rfl, h1, h2, q3, h4⟩
theorem change_open {w : World} {y : Ch} {cs : List Value} (h : shChange.E w y cs) : ∃ a n c, cs = [.int .i64 y.fr, .int .i64 y.v, .slice a n c, .int .i64 y.sg.1, .string y.sg.2] ∧ i64 y.fr ∧ i64 y.v ∧ SlAt shCert w a n c y.ce ∧ i64 y.sg.1 ∧ y.sg.2.size ≤ 1125899906842624 := by
  obtain ⟨_, _, rfl, ⟨rfl, h1⟩, _, _, rfl, ⟨rfl, h2⟩, _, _, rfl, ⟨a, n, c, rfl, h3⟩, _, _, rfl, ⟨rfl, h4⟩, rfl, h5⟩ := h
  exact ⟨a, n, c, rfl, h1, h2, h3, h4, h5⟩
/-- A message's cells. -/
def mgCs (m : Mg) (a1 : Option Addr) (n1 c1 : Nat) (a2 : Option Addr) (n2 c2 : Nat) (a3 : Option Addr) (n3 c3 : Nat) (a4 : Option Addr) (n4 c4 : Nat) : List Value :=
  [.int .i64 m.k, .int .i64 m.e, .int .i64 m.v, .int .i64 m.s, .int .i64 m.q.c, .int .i64 m.q.s, .int .i64 m.q.kind, .string m.q.key, .float .f64 m.q.b, .int .i64 m.q.id, .int .i64 m.c, .float .f64 m.r, .string m.t, .slice a1 n1 c1, .slice a2 n2 c2, .slice a3 n3 c3, .slice a4 n4 c4]
structure MsgIn (w : World) (m : Mg) (a1 : Option Addr) (n1 c1 : Nat) (a2 : Option Addr) (n2 c2 : Nat) (a3 : Option Addr) (n3 c3 : Nat) (a4 : Option Addr) (n4 c4 : Nat) : Prop where
  k : i64 m.k
  e : i64 m.e
  v : i64 m.v
  s : i64 m.s
  q : m.q.Ok
  c : i64 m.c
  r : m.r < 18446744073709551616
  t : m.t.size ≤ 140737488351232
  nx : SlAt Sh.int w a1 n1 c1 m.nx
  sg : SlAt shSig w a2 n2 c2 m.sg
  ch : SlAt shChange w a3 n3 c3 m.ch
  lk : SlAt shLink w a4 n4 c4 m.lk
theorem MsgIn.old {w w' : World} {m : Mg} {a1 : Option Addr} {n1 c1 : Nat} {a2 : Option Addr} {n2 c2 : Nat} {a3 : Option Addr} {n3 c3 : Nat} {a4 : Option Addr} {n4 c4 : Nat} (h : MsgIn w m a1 n1 c1 a2 n2 c2 a3 n3 c3 a4 n4 c4) (hb : Below w.heap.size w w') : MsgIn w' m a1 n1 c1 a2 n2 c2 a3 n3 c3 a4 n4 c4 :=
  ⟨h.k, h.e, h.v, h.s, h.q, h.c, h.r, h.t, h.nx.old hb, h.sg.old hb, h.ch.old hb, h.lk.old hb⟩
theorem msg_open {w : World} {y : Mg} {cs : List Value} (h : shMsg.E w y cs) : ∃ a1 n1 c1 a2 n2 c2 a3 n3 c3 a4 n4 c4, cs = mgCs y a1 n1 c1 a2 n2 c2 a3 n3 c3 a4 n4 c4 ∧ MsgIn w y a1 n1 c1 a2 n2 c2 a3 n3 c3 a4 n4 c4 := by
  obtain ⟨_, _, rfl, ⟨rfl, h1⟩, _, _, rfl, ⟨rfl, h2⟩, _, _, rfl, ⟨rfl, h3⟩, _, _, rfl, ⟨rfl, h4⟩, _, _, rfl, h5, _, _, rfl, ⟨_, _, rfl, ⟨rfl, h6⟩, rfl, h7⟩, _, _, rfl, ⟨rfl, h8⟩, _, _, rfl, ⟨a1, n1, c1, rfl, h9⟩, _, _, rfl, ⟨a2, n2, c2, rfl, h10⟩, _, _, rfl, ⟨a3, n3, c3, rfl, h11⟩, a4, n4, c4, rfl, h12⟩ := h
  obtain ⟨rfl, q5⟩ := req_open h5
  exact ⟨a1, n1, c1, a2, n2, c2, a3, n3, c3, a4, n4, c4, rfl, h1, h2, h3, h4, q5, h6, h7, h8, h9, h10, h11, h12⟩
/-- One certificate, one change, one link of a slice: cell by cell. -/
theorem cert_cells {w : World} {a : Option Addr} {n c : Nat} {l : List Ce} (h : SlAt shCert w a n c l) {i : Nat} (hi : i < n) :
    ∃ b o y sa sn sc, a = some ⟨b, o, none⟩ ∧ l[i]? = some y ∧ w.cell? ⟨b, o + i * 9, none⟩ = some (.int .i64 y.v) ∧ w.cell? ⟨b, o + i * 9 + 1, none⟩ = some (.int .i64 y.s) ∧ w.cell? ⟨b, o + i * 9 + 2, none⟩ = some (.int .i64 y.q.c) ∧ w.cell? ⟨b, o + i * 9 + 3, none⟩ = some (.int .i64 y.q.s) ∧ w.cell? ⟨b, o + i * 9 + 4, none⟩ = some (.int .i64 y.q.kind) ∧
      w.cell? ⟨b, o + i * 9 + 5, none⟩ = some (.string y.q.key) ∧ w.cell? ⟨b, o + i * 9 + 6, none⟩ = some (.float .f64 y.q.b) ∧ w.cell? ⟨b, o + i * 9 + 7, none⟩ = some (.int .i64 y.q.id) ∧ w.cell? ⟨b, o + i * 9 + 8, none⟩ = some (.slice sa sn sc) ∧ i64 y.v ∧ i64 y.s ∧ y.q.Ok ∧ SlAt shSig w sa sn sc y.sg := by
  obtain ⟨y, hy⟩ : ∃ y, l[i]? = some y := ⟨_, List.getElem?_eq_getElem (by rw [h.len]; exact hi)⟩
  obtain ⟨b, o, cs, ha, hE, hc⟩ := h.cell i y hy
  obtain ⟨sa, sn, sc, rfl, h1, h2, h3, h4⟩ := cert_open hE
  exact ⟨b, o, y, sa, sn, sc, ha, hy, hc 0 _ rfl, hc 1 _ rfl, hc 2 _ rfl, hc 3 _ rfl, hc 4 _ rfl, hc 5 _ rfl, hc 6 _ rfl, hc 7 _ rfl, hc 8 _ rfl, h1, h2, h3, h4⟩
theorem change_cells {w : World} {a : Option Addr} {n c : Nat} {l : List Ch} (h : SlAt shChange w a n c l) {i : Nat} (hi : i < n) :
    ∃ b o y sa sn sc, a = some ⟨b, o, none⟩ ∧ l[i]? = some y ∧ w.cell? ⟨b, o + i * 5, none⟩ = some (.int .i64 y.fr) ∧ w.cell? ⟨b, o + i * 5 + 1, none⟩ = some (.int .i64 y.v) ∧ w.cell? ⟨b, o + i * 5 + 2, none⟩ = some (.slice sa sn sc) ∧ w.cell? ⟨b, o + i * 5 + 3, none⟩ = some (.int .i64 y.sg.1) ∧ w.cell? ⟨b, o + i * 5 + 4, none⟩ = some (.string y.sg.2) ∧
      i64 y.fr ∧ i64 y.v ∧ SlAt shCert w sa sn sc y.ce ∧ i64 y.sg.1 ∧ y.sg.2.size ≤ 1125899906842624 := by
  obtain ⟨y, hy⟩ : ∃ y, l[i]? = some y := ⟨_, List.getElem?_eq_getElem (by rw [h.len]; exact hi)⟩
  obtain ⟨b, o, cs, ha, hE, hc⟩ := h.cell i y hy
  obtain ⟨sa, sn, sc, rfl, h1, h2, h3, h4, h5⟩ := change_open hE
  exact ⟨b, o, y, sa, sn, sc, ha, hy, hc 0 _ rfl, hc 1 _ rfl, hc 2 _ rfl, hc 3 _ rfl, hc 4 _ rfl, h1, h2, h3, h4, h5⟩
theorem link_cells13 {w : World} {a : Option Addr} {n c : Nat} {l : List Lk} (h : SlAt shLink w a n c l) {i : Nat} (hi : i < n) :
    ∃ b o e m s a' n' c' sa sn sc, a = some ⟨b, o, none⟩ ∧ l[i]? = some ((e, m), s) ∧ w.cell? ⟨b, o + i * 3, none⟩ = some (.int .i64 e) ∧ w.cell? ⟨b, o + i * 3 + 1, none⟩ = some (.slice a' n' c') ∧ w.cell? ⟨b, o + i * 3 + 2, none⟩ = some (.slice sa sn sc) ∧ i64 e ∧ SlAt Sh.int w a' n' c' m ∧ SlAt shSig w sa sn sc s := by
  obtain ⟨y, hy⟩ : ∃ y, l[i]? = some y := ⟨_, List.getElem?_eq_getElem (by rw [h.len]; exact hi)⟩
  obtain ⟨b, o, cs, ha, hE, hc⟩ := h.cell i y hy
  obtain ⟨e, m, s, a', n', c', sa, sn, sc, rfl, rfl, h1, h2, h3⟩ := link_open hE
  exact ⟨b, o, e, m, s, a', n', c', sa, sn, sc, ha, hy, hc 0 _ rfl, hc 1 _ rfl, hc 2 _ rfl, h1, h2, h3⟩
end Go.Proofs.Ytijeieamodjgbab

/- Messages: which are well-formed, what their bytes are made of. No program in sight. -/
namespace Go.Proofs.Ytijeieamodjgbab
set_option maxRecDepth 100000
open Go.RowKit
set_option linter.unusedVariables false
set_option linter.unusedSimpArgs false

def Rq.nil (q : Rq) : Bool := nullQ q.c q.s q.kind q.key q.b q.id
def askB (q : Rq) : Bool := q.right || q.nil
def byB (s : Sg) : Bool := decide (0 ≤ s.1) && decide (s.1 < 200)
def sigsB (l : List Sg) : Bool := l.all byB && decide (l.length ≤ 16)
def ofB (e s : Int) : Bool := decide (4 * e < s) && decide (s ≤ 4 * e + 4)
def certB (e last : Int) (x : Ce) : Bool := ofB e x.s && decide (last < x.s) && decide (0 ≤ x.v) && decide (x.v ≤ 15) && askB x.q && sigsB x.sg
def certsB (e : Int) : Int → List Ce → Bool
  | _, [] => true
  | last, x :: r => certB e last x && certsB e x.s r
def changeB (e : Int) (c : Ch) : Bool := decide (0 ≤ c.fr) && decide (c.fr < 16) && decide (1 ≤ c.v) && decide (c.v ≤ 15) && decide (c.ce.length ≤ 4) && byB c.sg && certsB e 0 c.ce
def changesB (e view : Int) : Int → List Ch → Bool
  | _, [] => true
  | last, c :: r => decide (c.v = view) && decide (last < c.fr) && changeB e c && changesB e view c.fr r
def linksB : Nat → List Lk → Bool
  | _, [] => true
  | i, k :: r => decide (k.1.1 = i + 1) && rightB k.1.1 k.1.2 && sigsB k.2 && linksB (i + 1) r
/-- What must be zero: which fields are looked at. -/
structure But where
  v : Bool := false
  s : Bool := false
  q : Bool := false
  r : Bool := false
  t : Bool := false
  nx : Bool := false
  sg : Bool := false
  ch : Bool := false
  lk : Bool := false
def restB (b : But) (m : Mg) : Bool := (b.v || decide (m.v = 0)) && (b.s || decide (m.s = 0)) && (b.q || m.q.nil) && (b.r || (decide (m.c = 0) && decide (canonB m.r = 0))) && (b.t || decide (m.t.size = 0)) && (b.nx || decide (m.nx.length = 0)) && (b.sg || decide (m.sg.length = 0)) && (b.ch || decide (m.ch.length = 0)) && (b.lk || decide (m.lk.length = 0))
def viewB (m : Mg) : Bool := decide (0 ≤ m.v) && decide (m.v ≤ 15)
def okM (m : Mg) : Bool :=
  if m.k = 1 then decide (m.e = 0) && m.q.right && decide (m.sg.length = 1) && restB { q := true, sg := true } m
  else if m.k = 2 then viewB m && ofB m.e m.s && ((m.q.right && decide (m.sg.length = 1)) || (m.q.nil && decide (m.sg.length = 0))) && restB { v := true, s := true, q := true, sg := true } m
  else if m.k = 3 then viewB m && ofB m.e m.s && askB m.q && decide (m.sg.length = 1) && restB { v := true, s := true, q := true, sg := true } m
  else if m.k = 4 then viewB m && ofB m.e m.s && askB m.q && decide (m.sg.length = 0) && restB { v := true, s := true, q := true, sg := true } m
  else if m.k = 5 then decide (m.s = 4 * m.e + 4) && decide (m.t.size ≠ 0) && risingB m.nx && decide (m.sg.length = 2) && restB { s := true, t := true, nx := true, sg := true } m
  else if m.k = 6 then decide (m.ch.length = 1) && changesB m.e m.v (-1) m.ch && restB { v := true, ch := true } m
  else if m.k = 7 then decide (1 ≤ m.ch.length) && decide (m.ch.length ≤ 10) && changesB m.e m.v (-1) m.ch && restB { v := true, ch := true } m
  else if m.k = 8 then m.q.right && decide (0 ≤ m.c) && decide (m.c ≤ 8) && restB { q := true, r := true } m
  else if m.k = 9 then restB {} m
  else if m.k = 10 then decide (0 < m.e) && decide (m.s = 4 * m.e) && decide (m.t.size ≠ 0) && decide ((m.lk.length : Int) = m.e) && linksB 0 m.lk && restB { s := true, t := true, sg := true, lk := true } m
  else false
/-- Is a message well-formed? -/
def fitsP (m : Mg) : Bool := decide (0 ≤ m.e) && decide (m.e ≤ 60) && sigsB m.sg && okM m
def kindB (m : Mg) : Bool := decide (1 ≤ m.k) && decide (m.k ≤ 10)

/-- What is put, one thing behind the other: whether it can be, its bytes. -/
abbrev Ith := Bool × List UInt8
def itB (n : Int) : Ith := (decide (0 ≤ n ∧ n ≤ 255), beN n.toNat 1)
def itW (n : Int) : Ith := (decide (0 ≤ n ∧ n ≤ 65535), beN n.toNat 2)
def itT (t : ByteArray) : Ith := (decide (t.size ≤ 65535), beN t.size 2 ++ t.data.toList)
def wIt (s : W) (i : Ith) : W := wPut s i.1 i.2
def wIts (s : W) (l : List Ith) : W := l.foldl wIt s
theorem wIts_app (s : W) (a b : List Ith) : wIts s (a ++ b) = wIts (wIts s a) b := by simp [wIts]
def itSig (s : Sg) : List Ith := [itB s.1, itT s.2]
def itSigs (l : List Sg) : List Ith := itB l.length :: l.flatMap itSig
def itCert (x : Ce) : List Ith := itB x.v :: itW x.s :: itT x.q.text :: itSigs x.sg
def itChange (c : Ch) : List Ith := itB c.fr :: itB c.v :: itB c.ce.length :: (c.ce.flatMap itCert ++ itSig c.sg)
def itLink (k : Lk) : List Ith := itT (textS k.1.1 k.1.2) :: itSigs k.2
def itHead (m : Mg) : List Ith := [itB m.k, itW m.e, itB m.v, itW m.s, itT m.q.text, itT (resText m.c m.r), itT m.t, itB m.nx.length]
def itMsg (m : Mg) : List Ith := itHead m ++ m.nx.map itB ++ itSigs m.sg ++ (itB m.ch.length :: m.ch.flatMap itChange) ++ (itB m.lk.length :: m.lk.flatMap itLink)
def msgS (m : Mg) : W := wIts (wNew 65536) (itMsg m)
/-- A message's bytes, and what is told of it. -/
def mgText (m : Mg) : ByteArray := if kindB m && fitsP m then (if (msgS m).err = 0 then ⟨(msgS m).out.toArray⟩ else ⟨#[]⟩) else ⟨#[]⟩
def mgErr (m : Mg) : Int := if kindB m = false then 19 else if fitsP m = false then 4 else if (msgS m).err = 0 then 0 else 3

/-- A writer of up to 65536 bytes. -/
structure Mid (s : W) : Prop where
  room : 0 ≤ s.room
  size : (s.out.length : Int) + s.room ≤ 65536
  err : 0 ≤ s.err ∧ s.err ≤ 9
theorem Mid.put {s : W} (h : Mid s) (ok : Bool) (bs : List UInt8) : Mid (wPut s ok bs) :=
  ⟨(wPut_room (ok := ok) (bs := bs) (T := 65536) h.room h.size).1, (wPut_room (ok := ok) (bs := bs) (T := 65536) h.room h.size).2, wPut_errs h.err⟩
theorem mid_new : Mid (wNew 65536) := ⟨by decide, by decide, by decide⟩
theorem Mid.its {l : List Ith} : ∀ {s : W}, Mid s → Mid (wIts s l) := by
  induction l with
  | nil => exact fun h => h
  | cons i r ih => exact fun h => ih (h.put i.1 i.2)
end Go.Proofs.Ytijeieamodjgbab

/- Messages out of bytes: parsers, and readers' states. No program in sight. -/
namespace Go.Proofs.Ytijeieamodjgbab
set_option maxRecDepth 100000
open Go.RowKit
set_option linter.unusedVariables false
set_option linter.unusedSimpArgs false

/-- A parser: a thing and what is left. -/
abbrev Ps (α : Type) := List UInt8 → Option (α × List UInt8)
section
variable {α β : Type}
def pRet (x : α) : Ps α := fun t => some (x, t)
def pThen (p : Ps α) (f : α → Ps β) : Ps β := fun t => match p t with
  | none => none
  | some (x, r) => f x r
def pIf (b : Bool) (p : Ps α) : Ps α := fun t => if b = true then p t else none
def pNum (k : Nat) : Ps Int := fun t => if t.length < k then none else some (((valBE (t.take k) : Nat) : Int), t.drop k)
def pText : Ps ByteArray := pThen (pNum 2) fun n => fun t => if t.length < n.toNat then none else some (⟨(t.take n.toNat).toArray⟩, t.drop n.toNat)
def pRep (p : Ps α) : Nat → Ps (List α)
  | 0 => pRet []
  | k + 1 => pThen p fun x => pThen (pRep p k) fun l => pRet (x :: l)
theorem pThen_some {p : Ps α} {f : α → Ps β} {t r : List UInt8} {x : α} (h : p t = some (x, r)) : pThen p f t = f x r := by unfold pThen; rw [h]
theorem pThen_none {p : Ps α} {f : α → Ps β} {t : List UInt8} (h : p t = none) : pThen p f t = none := by unfold pThen; rw [h]
theorem pRep_snoc {p : Ps α} : ∀ {k : Nat} {t r r' : List UInt8} {l : List α} {x : α}, pRep p k t = some (l, r) → p r = some (x, r') → pRep p (k + 1) t = some (l ++ [x], r')
  | 0, t, r, r', l, x, h, hx => by
    simp only [pRep, pRet, Option.some.injEq, Prod.mk.injEq] at h
    obtain ⟨rfl, rfl⟩ := h
    simp only [pRep, pThen, pRet, hx, List.nil_append]
  | k + 1, t, r, r', l, x, h, hx => by
    rw [pRep] at h ⊢
    cases hp : p t with
    | none => rw [pThen_none hp] at h; cases h
    | some y =>
      obtain ⟨y, r1⟩ := y
      rw [pThen_some hp] at h ⊢
      cases hr : pRep p k r1 with
      | none => rw [pThen_none hr] at h; cases h
      | some z =>
        obtain ⟨z, r2⟩ := z
        rw [pThen_some hr] at h
        simp only [pRet, Option.some.injEq, Prod.mk.injEq] at h
        obtain ⟨rfl, rfl⟩ := h
        rw [pThen_some (pRep_snoc hr hx)]
        rfl
theorem pRep_stop {p : Ps α} : ∀ {k i : Nat} {t r : List UInt8} {l : List α}, pRep p i t = some (l, r) → p r = none → i < k → pRep p k t = none
  | k + 1, 0, t, r, l, h, hx, _ => by
    simp only [pRep, pRet, Option.some.injEq, Prod.mk.injEq] at h
    obtain ⟨rfl, rfl⟩ := h
    rw [pRep, pThen_none hx]
  | k + 1, i + 1, t, r, l, h, hx, hk => by
    rw [pRep] at h ⊢
    cases hp : p t with
    | none => rw [pThen_none hp]
    | some y =>
      obtain ⟨y, r1⟩ := y
      rw [pThen_some hp] at h ⊢
      cases hr : pRep p i r1 with
      | none => rw [pThen_none hr] at h; cases h
      | some z =>
        obtain ⟨z, r2⟩ := z
        rw [pThen_some hr] at h
        simp only [pRet, Option.some.injEq, Prod.mk.injEq] at h
        obtain ⟨-, rfl⟩ := h
        rw [pThen_none (pRep_stop hr hx (by omega))]
/-- What a reading function does to a reader: v is read, and s' is left. -/
def Pr (p : Ps α) (s : R) (v : α) (s' : R) : Prop := (s.bad = true ∧ s'.bad = true) ∨ (s.bad = false ∧ ((p s.rest = none ∧ s'.bad = true) ∨ ∃ r, p s.rest = some (v, r) ∧ s' = ⟨r, false⟩))
theorem Pr.ret (x : α) (s : R) : Pr (pRet x) s x s := by
  obtain ⟨r, b⟩ := s
  cases b with
  | true => exact .inl ⟨rfl, rfl⟩
  | false => exact .inr ⟨rfl, .inr ⟨r, rfl, rfl⟩⟩
theorem Pr.then {p : Ps α} {f : α → Ps β} {s s1 s2 : R} {x : α} {y : β} (h : Pr p s x s1) (h2 : Pr (f x) s1 y s2) : Pr (pThen p f) s y s2 := by
  rcases h with ⟨h, h1⟩ | ⟨h, h1⟩
  · rcases h2 with ⟨_, g⟩ | ⟨g, _⟩
    · exact .inl ⟨h, g⟩
    · rw [h1] at g; cases g
  · refine .inr ⟨h, ?_⟩
    rcases h1 with ⟨h1, h3⟩ | ⟨r, h1, rfl⟩
    · rcases h2 with ⟨_, g⟩ | ⟨g, _⟩
      · exact .inl ⟨pThen_none h1, g⟩
      · rw [h3] at g; cases g
    · rcases h2 with ⟨g, _⟩ | ⟨_, g⟩
      · cases g
      · rw [pThen_some h1]; exact g
theorem Pr.map {p : Ps α} {f : α → β} {s s1 : R} {x : α} (h : Pr p s x s1) : Pr (pThen p fun x => pRet (f x)) s (f x) s1 := h.then (Pr.ret _ _)
theorem Pr.if {p : Ps α} {s s1 : R} {x : α} {b : Bool} (h : Pr p s x s1) (hb : b = true) : Pr (pIf b p) s x s1 := by
  have : pIf b p = p := by funext t; unfold pIf; rw [if_pos hb]
  rw [this]; exact h
/-- It was refused. -/
def No (p : Ps α) (s : R) : Prop := s.bad = true ∨ p s.rest = none
theorem No.then {p : Ps α} {f : α → Ps β} {s : R} (h : No p s) : No (pThen p f) s := h.imp id pThen_none
theorem No.step {p : Ps α} {f : α → Ps β} {s s1 : R} {x : α} (h : Pr p s x s1) (h2 : No (f x) s1) : No (pThen p f) s := by
  rcases h with ⟨h, _⟩ | ⟨h, h1⟩
  · exact .inl h
  · rcases h1 with ⟨h1, _⟩ | ⟨r, h1, rfl⟩
    · exact .inr (pThen_none h1)
    · rcases h2 with g | g
      · cases g
      · exact .inr (by rw [pThen_some h1]; exact g)
theorem Pr.bad {p : Ps α} {s s1 : R} {x : α} (h : Pr p s x s1) (hb : s1.bad = true) : No p s := by
  rcases h with ⟨h, _⟩ | ⟨h, h1⟩
  · exact .inl h
  · rcases h1 with ⟨h1, _⟩ | ⟨r, h1, rfl⟩
    · exact .inr h1
    · cases hb
theorem No.bad {p : Ps α} {s : R} (h : s.bad = true) : No p s := .inl h
theorem No.if {p : Ps α} {s : R} {b : Bool} (hb : b = false) : No (pIf b p) s := .inr (by unfold pIf; rw [if_neg (by rw [hb]; decide)])
theorem Pr.good {p : Ps α} {s s1 : R} {x : α} (h : Pr p s x s1) (hb : s1.bad = false) : s.bad = false ∧ p s.rest = some (x, s1.rest) := by
  rcases h with ⟨_, h⟩ | ⟨h, h1⟩
  · rw [h] at hb; cases hb
  · rcases h1 with ⟨_, h1⟩ | ⟨r, h1, rfl⟩
    · rw [h1] at hb; cases hb
    · exact ⟨h, h1⟩
/-- One more of a row. -/
theorem Pr.snoc {p : Ps α} {k : Nat} {s s1 s2 : R} {l : List α} {x : α} (h : Pr (pRep p k) s l s1) (h2 : Pr p s1 x s2) : Pr (pRep p (k + 1)) s (l ++ [x]) s2 := by
  rcases h with ⟨h, h1⟩ | ⟨h, h1⟩
  · rcases h2 with ⟨_, g⟩ | ⟨g, _⟩
    · exact .inl ⟨h, g⟩
    · rw [h1] at g; cases g
  · refine .inr ⟨h, ?_⟩
    rcases h1 with ⟨h1, h3⟩ | ⟨r, h1, rfl⟩
    · rcases h2 with ⟨_, g⟩ | ⟨g, _⟩
      · refine .inl ⟨?_, g⟩
        have key : ∀ {k : Nat} {t : List UInt8}, pRep p k t = none → pRep p (k + 1) t = none := by
          intro k
          induction k with
          | zero => intro t h; cases h
          | succ k ih =>
            intro t h
            rw [pRep] at h ⊢
            cases hp : p t with
            | none => exact pThen_none hp
            | some y =>
              obtain ⟨y, r1⟩ := y
              rw [pThen_some hp] at h ⊢
              cases hr : pRep p k r1 with
              | none => exact pThen_none (ih hr)
              | some z => obtain ⟨z, r2⟩ := z; rw [pThen_some hr] at h; cases h
        exact key h1
      · rw [h3] at g; cases g
    · rcases h2 with ⟨g, _⟩ | ⟨_, g⟩
      · cases g
      · rcases g with ⟨g, g1⟩ | ⟨r', g, rfl⟩
        · exact .inl ⟨pRep_stop h1 g (by omega), g1⟩
        · exact .inr ⟨r', pRep_snoc h1 g, rfl⟩
/-- Refused within a row. -/
theorem No.rep {p : Ps α} {k i : Nat} {s s1 : R} {l : List α} (h : Pr (pRep p i) s l s1) (h2 : No p s1) (hi : i < k) : No (pRep p k) s := by
  rcases h with ⟨h, _⟩ | ⟨h, h1⟩
  · exact .inl h
  · rcases h1 with ⟨h1, _⟩ | ⟨r, h1, rfl⟩
    · right
      have key : ∀ {k i : Nat} {t : List UInt8}, pRep p i t = none → i ≤ k → pRep p k t = none := by
        intro k
        induction k with
        | zero => intro i t h hi; obtain rfl : i = 0 := by omega
                  exact h
        | succ k ih =>
          intro i t h hi
          cases i with
          | zero => cases h
          | succ i =>
            rw [pRep] at h ⊢
            cases hp : p t with
            | none => exact pThen_none hp
            | some y =>
              obtain ⟨y, r1⟩ := y
              rw [pThen_some hp] at h ⊢
              cases hr : pRep p i r1 with
              | none => exact pThen_none (ih hr (by omega))
              | some z => obtain ⟨z, r2⟩ := z; rw [pThen_some hr] at h; cases h
      exact key h1 (by omega)
    · rcases h2 with g | g
      · cases g
      · exact .inr (pRep_stop h1 g hi)
end
def pSig : Ps Sg := pThen (pNum 1) fun n => pThen pText fun t => pRet (n, t)
def pSigs (L : Bool) : Ps (List Sg) := pThen (pNum 1) fun n => pIf (!L || decide (n ≤ 16)) (pRep pSig n.toNat)
def pReq : Ps Rq := pThen pText fun t => pIf (decide (readErr t.data.toList = 0)) (pRet (readRq t.data.toList))
def pCert (L : Bool) : Ps Ce := pThen (pNum 1) fun v => pThen (pNum 2) fun s => pThen pReq fun q => pThen (pSigs L) fun sg => pRet ⟨v, s, q, sg⟩
def pChange (L : Bool) : Ps Ch := pThen (pNum 1) fun fr => pThen (pNum 1) fun v => pThen (pNum 1) fun n => pIf (!L || decide (n ≤ 4)) (pThen (pRep (pCert L) n.toNat) fun ce => pThen pSig fun sg => pRet ⟨fr, v, ce, sg⟩)
def pLink (L : Bool) : Ps Lk := pThen pText fun t => pIf (decide (readC t.data.toList = 0)) (pThen (pSigs L) fun sg => pRet ((readE t.data.toList, readL t.data.toList), sg))
end Go.Proofs.Ytijeieamodjgbab
