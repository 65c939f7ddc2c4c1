
/- The client: what a reply leaves (plain), and how its memory turns. -/
import Derived.Test.YtijeieamodjgbabCk

namespace Go.Proofs.Ytijeieamodjgbab
set_option maxRecDepth 100000
open Go.RowKit Go.Maps
set_option linter.unusedVariables false
set_option linter.unusedSimpArgs false

/-- The configuration of an epoch that is known. -/
def confAt (s : Cst) (x : Int) : Option Cf := if x < 0 then none else (s.c0 :: s.cs)[x.toNat]?
def confL (s : Cst) (x : Int) : Cf := (confAt s x).getD (0, [])
def replyG (s : Cst) (fr ep : Int) (rq : Rq) : Bool := wtB s && (confAt s ep).isSome && hasB (confL s ep).2 fr && sameQ rq s.q
def alikeN (cm : Came) (ep : Int) (l : List Int) (t : ByteArray) : Nat := (l.filter (fun id => cHas cm (ep, id) && decide (cGet cm (ep, id) = t))).length
def cameS (s : Cst) (fr ep : Int) (t : ByteArray) : Cst := { s with cm := s.cm ++ [((ep, fr), t)], hs := s.hs + 1 }
def takenS (s : Cst) (rc : Int) (rb : Nat) : Cst := { s with ac := s.ac ++ [((s.ac.length : Int) + 1, s.q)], rs := s.rs ++ [(rc, rb)], q := Rq.z }
def replyS (s : Cst) (fr ep : Int) (rq : Rq) (rc : Int) (rb : Nat) : Cst :=
  if replyG s fr ep rq = false then s else if cHas s.cm (ep, fr) = true then s else
    if weakP ((confL s ep).2.length : Int) ≤ (alikeN (s.cm ++ [((ep, fr), resText rc rb)]) ep (confL s ep).2 (resText rc rb) : Int) then takenS (cameS s fr ep (resText rc rb)) rc rb else cameS s fr ep (resText rc rb)
theorem came_inv {s : Cst} (h : CInv s) (fr ep : Int) (t : ByteArray) : CInv (cameS s fr ep t) :=
  ⟨h.len, h.l64, h.id, h.st, h.q, h.right, h.opn, h.na, h.nr, h.ac, by have := h.hs; show (s.cm ++ [((ep, fr), t)]).length ≤ s.hs + 1; simp; omega⟩
theorem taken_inv {s : Cst} (h : CInv s) (hw : wtB s = true) (rc : Int) (rb : Nat) : CInv (takenS s rc rb) := by
  have hq : 0 < s.q.c := of_decide_eq_true hw
  have ho := h.opn hq
  have hn := h.na
  rw [if_pos hq] at hn
  refine ⟨h.len, h.l64, h.id, h.st, rqz_ok, h.right, fun h0 => absurd h0 (show ¬ (0 : Int) < 0 by decide), ?_, ?_, fun k x hk => ?_, h.hs⟩
  · rw [if_neg (show ¬ 0 < (takenS s rc rb).q.c from (show ¬ (0 : Int) < 0 by decide))]
    show ((s.ac ++ [_]).length : Int) = s.st
    rw [List.length_append]
    simp only [List.length_singleton]
    omega
  · show (s.rs ++ [_]).length = (s.ac ++ [_]).length
    rw [List.length_append, List.length_append, h.nr]; rfl
  · have hk : (s.ac ++ [((s.ac.length : Int) + 1, s.q)])[k]? = some x := hk
    by_cases hl : k < s.ac.length
    · rw [List.getElem?_append_left hl] at hk
      exact h.ac k x hk
    · rw [List.getElem?_append_right (by omega)] at hk
      have h1 := (List.getElem?_eq_some_iff.1 hk).1
      have he : k = s.ac.length := by simp at h1; omega
      subst he
      have hx : ((s.ac.length : Int) + 1, s.q) = x := by simpa using hk
      subst hx
      exact ⟨rfl, ho.1, by show s.q.s = _; omega⟩
theorem conf_right {s : Cst} (h : CInv s) {x : Int} {c : Cf} (hc : confAt s x = some c) : 4 ≤ c.2.length ∧ c.2.length ≤ 10 ∧ (∀ y ∈ c.2, 0 ≤ y ∧ y < 16) ∧ 0 ≤ x ∧ x ≤ 64 := by
  unfold confAt at hc
  split at hc
  · cases hc
  · have hr := (rightB_rising (h.right _ (List.mem_of_getElem? hc))).2.2
    have hl := (List.getElem?_eq_some_iff.1 hc).1
    have h1 := h.len
    have h2 := h.l64
    simp only [List.length_cons] at hl
    exact ⟨(risingB_len hr).1, (risingB_len hr).2, risingB_range hr, by omega, by omega⟩
theorem alike_step {cm : Came} {ep : Int} {l : List Int} {t : ByteArray} {k : Nat} {x : Int} (h : l.take (k + 1) = l.take k ++ [x]) : alikeN cm ep (l.take (k + 1)) t = alikeN cm ep (l.take k) t + (if (cHas cm (ep, x) && decide (cGet cm (ep, x) = t)) = true then 1 else 0) := by
  unfold alikeN
  rw [h, List.filter_append, List.length_append]
  congr 1
  simp only [List.filter_cons, List.filter_nil]
  split <;> simp_all
theorem alike_le (cm : Came) (ep : Int) (l : List Int) (t : ByteArray) : alikeN cm ep l t ≤ l.length := List.length_filter_le _ _
section
variable {X : Nat → Prop} {w w' : World} {B p t : Nat} {oc os om oa ob : Option Nat} {s : Cst}
/-- The map has an entry more. -/
theorem CliAt.came (h : CliAt X w B p t oc os om oa ob s) {m n : Nat} {D : DataW Value} (hm : om = some m) (hk : Keep (fun k => k = m) w w') (ho : w'.ownsMap Try.prog 128 rawC m n D) {fr ep : Int} {tx : ByteArray}
    (hn : n ≤ s.cm.length + 1) (hc : CMp (s.cm ++ [((ep, fr), tx)]) D) : CliAt X w' B p t oc os om oa ob (cameS s fr ep tx) := by
  have hlt := h.lt
  obtain ⟨va, vb, hp, h1, e1, h2, e2⟩ := h.ex
  have hmo := h.own m (.inr (.inl hm))
  have hpm : p ≠ m := fun e => h.nop.1 (by rw [e]; exact hm)
  refine ⟨h.trk.keep hk (fun k _ hy => by subst hy; exact hmo), came_inv h.inv fr ep tx, h.hB, fun k hm' => ⟨(h.hm k hm').1, Nat.lt_of_lt_of_le (h.hm k hm').2 hk.size⟩, h.own, h.nop, h.nom, h.noa, ⟨va, vb, ?_, ?_, e1, ?_, e2⟩, fun hq => ⟨m, n, D, hm, ho, ?_, hc⟩⟩
  · rw [hk.block p (blk_lt hp) hpm]; exact hp
  · exact owns_keep h1 hk (fun k hk' hy => by subst hy; exact (h.nom k hm).1 (by rw [← e1]; exact hk'))
  · exact owns_keep h2 hk (fun k hk' hy => by subst hy; exact (h.nom k hm).2 (by rw [← e2]; exact hk'))
  · show n ≤ (s.cm ++ [((ep, fr), tx)]).length
    simp; omega
/-- The request's result is taken: the box, and both rows. -/
theorem CliAt.taken (h : CliAt X w B p t oc os om oa ob s) (hw : wtB s = true) {rc : Int} {rb : Nat} {va' vb' : Value} {oa' ob' : Option Nat}
    (hk : Keep (fun k => k = p ∨ oa = some k ∨ ob = some k) w w')
    (hbox : w'.heap[p]? = some (.cells #[.int .i64 s.id, .pointer (some ⟨t, 0, none⟩), .int .i64 s.st, .int .i64 0, .int .i64 0, .int .i64 0, .string ⟨#[]⟩, .float .f64 0, .int .i64 0, .map om, va', vb'] 79 (0, 0)))
    (h1 : w'.ownsRow B 57 7 va' (s.ac.length + 1) (entsV (s.ac ++ [((s.ac.length : Int) + 1, s.q)]))) (e1 : va'.ownBlock = oa') (h2 : w'.ownsRow B 45 2 vb' (s.rs.length + 1) (ressV (s.rs ++ [(rc, rb)]))) (e2 : vb'.ownBlock = ob')
    (ha : ∀ k, oa' = some k → oa = some k ∨ w.heap.size ≤ k) (hb : ∀ k, ob' = some k → ob = some k ∨ w.heap.size ≤ k) (hab : ∀ k, oa' = some k → ob' ≠ some k) : CliAt X w' B p t oc os om oa' ob' (takenS s rc rb) := by
  have hlt := h.lt
  have hpl := (hlt p (.inl rfl)).2
  have htl := h.trk.lt
  have hnew : ∀ k, w.heap.size ≤ k → X k ∧ ¬ trX t oc os k := fun k hk' => ⟨h.trk.new k hk', fun hc => by
    rcases hc with hc | hc | hc
    · omega
    · have := (htl.2.1 k hc).2; omega
    · have := (htl.2.2 k hc).2; omega⟩
  refine ⟨h.trk.keep hk (fun k _ hy => ?_), taken_inv h.inv hw rc rb, h.hB, fun k hm' => ⟨(h.hm k hm').1, Nat.lt_of_lt_of_le (h.hm k hm').2 hk.size⟩, fun k hy => ?_, ⟨h.nop.1, fun hc => ?_, fun hc => ?_⟩, fun k hm => ⟨fun hc => ?_, fun hc => ?_⟩, hab, ⟨va', vb', hbox, ?_, e1, ?_, e2⟩, fun hq => absurd hq (show ¬ (0 : Int) < 0 by decide)⟩
  · rcases hy with hy | hy | hy
    · exact h.own k (.inl hy)
    · exact h.own k (.inr (.inr (.inl hy)))
    · exact h.own k (.inr (.inr (.inr hy)))
  · rcases hy with hy | hy | hy | hy
    · exact h.own k (.inl hy)
    · exact h.own k (.inr (.inl hy))
    · rcases ha k hy with hy | hy
      · exact h.own k (.inr (.inr (.inl hy)))
      · exact hnew k hy
    · rcases hb k hy with hy | hy
      · exact h.own k (.inr (.inr (.inr hy)))
      · exact hnew k hy
  · rcases ha p hc with hc | hc
    · exact h.nop.2.1 hc
    · omega
  · rcases hb p hc with hc | hc
    · exact h.nop.2.2 hc
    · omega
  · rcases ha k hc with hc | hc
    · exact (h.nom k hm).1 hc
    · have := (h.hm k hm).2; omega
  · rcases hb k hc with hc | hc
    · exact (h.nom k hm).2 hc
    · have := (h.hm k hm).2; omega
  · show w'.ownsRow B 57 7 va' (s.ac ++ [_]).length _
    rw [List.length_append]; exact h1
  · show w'.ownsRow B 45 2 vb' (s.rs ++ [_]).length _
    rw [List.length_append]; exact h2
end
end Go.Proofs.Ytijeieamodjgbab
