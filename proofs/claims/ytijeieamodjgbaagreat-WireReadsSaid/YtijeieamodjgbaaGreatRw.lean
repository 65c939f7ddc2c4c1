
/- Wire: walk of the reference's Read. (printed by mkRw.py) -/
import Derived.Test.YtijeieamodjgbaaGreatWm
import Derived.Test.YtijeieamodjgbaaGreatWz
import Derived.Test.YtijeieamodjgbaaGreatRr
import Derived.Test.YtijeieamodjgbaaGreatReR
import Derived.Test.YtijeieamodjgbaaGreatDr3
import Derived.Test.YtijeieamodjgbaaGreatWfp
import Derived.Deep.CutBlock
import Derived.Deep.DeepCutAuto
import Derived.Deep.MidRow

namespace Go.Proofs.YtijeieamodjgbaaGreat
set_option maxRecDepth 100000
open Go.RowKit
set_option linter.unusedVariables false
set_option linter.unusedSimpArgs false

section
variable {α β : Type}
theorem pThen_inv {p : Ps α} {f : α → Ps β} {t r : List UInt8} {y : β} (h : pThen p f t = some (y, r)) : ∃ x r1, p t = some (x, r1) ∧ f x r1 = some (y, r) := by
  unfold pThen at h
  cases hp : p t with
  | none => rw [hp] at h; cases h
  | some z =>
    obtain ⟨x, r1⟩ := z
    rw [hp] at h
    exact ⟨x, r1, rfl, h⟩
theorem pIf_inv {b : Bool} {p : Ps α} {t r : List UInt8} {y : α} (h : pIf b p t = some (y, r)) : b = true ∧ p t = some (y, r) := by
  unfold pIf at h
  cases b with
  | true => exact ⟨rfl, by simpa using h⟩
  | false => simp at h
theorem pIf_mk {b : Bool} {p : Ps α} {t : List UInt8} (h : b = true) : pIf b p t = p t := by unfold pIf; rw [if_pos h]
theorem pIf_f {b : Bool} {p : Ps α} {t : List UInt8} : pIf (!false || b) p t = p t := rfl
theorem pRet_inv {x y : α} {t r : List UInt8} (h : pRet x t = some (y, r)) : x = y ∧ t = r := by
  simp only [pRet, Option.some.injEq, Prod.mk.injEq] at h
  exact h
theorem pNum_nat {k : Nat} {t r : List UInt8} {n : Int} (h : pNum k t = some (n, r)) : ∃ m : Nat, n = m := by
  unfold pNum at h
  split at h
  · cases h
  · simp only [Option.some.injEq, Prod.mk.injEq] at h
    exact ⟨_, h.1.symm⟩
theorem pRep_map {p q : Ps α} : ∀ {n : Nat} {t r : List UInt8} {l : List α}, pRep p n t = some (l, r) → (∀ x ∈ l, ∀ t r, p t = some (x, r) → q t = some (x, r)) → pRep q n t = some (l, r)
  | 0, t, r, l, h, _ => h
  | n + 1, t, r, l, h, hq => by
    rw [pRep] at h ⊢
    obtain ⟨x, r1, h1, h2⟩ := pThen_inv h
    obtain ⟨l', r2, h3, h4⟩ := pThen_inv h2
    obtain ⟨rfl, rfl⟩ := pRet_inv h4
    rw [pThen_some (hq x (by simp) _ _ h1), pThen_some (pRep_map h3 (fun y hy => hq y (by simp [hy])))]
    rfl
end
theorem sigs_to {t r : List UInt8} {l : List Sg} (h : pSigs true t = some (l, r)) : pSigs false t = some (l, r) := by
  unfold pSigs at h ⊢
  obtain ⟨n, r1, h1, h2⟩ := pThen_inv h
  obtain ⟨_, h3⟩ := pIf_inv h2
  rw [pThen_some h1, pIf_f]
  exact h3
theorem sigs_of {t r : List UInt8} {l : List Sg} (h : pSigs false t = some (l, r)) (hl : l.length ≤ 16) : pSigs true t = some (l, r) := by
  unfold pSigs at h ⊢
  obtain ⟨n, r1, h1, h2⟩ := pThen_inv h
  obtain ⟨_, h3⟩ := pIf_inv h2
  obtain ⟨m, rfl⟩ := pNum_nat h1
  have := pRep_len h3
  rw [pThen_some h1, pIf_mk (by simp; simp at this; omega)]
  exact h3
theorem cert_to {t r : List UInt8} {x : Ce} (h : pCert true t = some (x, r)) : pCert false t = some (x, r) := by
  unfold pCert at h ⊢
  obtain ⟨v, r1, h1, h⟩ := pThen_inv h
  obtain ⟨s, r2, h2, h⟩ := pThen_inv h
  obtain ⟨q, r3, h3, h⟩ := pThen_inv h
  obtain ⟨sg, r4, h4, h⟩ := pThen_inv h
  rw [pThen_some h1, pThen_some h2, pThen_some h3, pThen_some (sigs_to h4)]
  exact h
theorem cert_of {t r : List UInt8} {x : Ce} (h : pCert false t = some (x, r)) (hl : x.sg.length ≤ 16) : pCert true t = some (x, r) := by
  unfold pCert at h ⊢
  obtain ⟨v, r1, h1, h⟩ := pThen_inv h
  obtain ⟨s, r2, h2, h⟩ := pThen_inv h
  obtain ⟨q, r3, h3, h⟩ := pThen_inv h
  obtain ⟨sg, r4, h4, h⟩ := pThen_inv h
  obtain ⟨rfl, rfl⟩ := pRet_inv h
  rw [pThen_some h1, pThen_some h2, pThen_some h3, pThen_some (sigs_of h4 hl)]
  rfl
theorem change_to {t r : List UInt8} {x : Ch} (h : pChange true t = some (x, r)) : pChange false t = some (x, r) := by
  unfold pChange at h ⊢
  obtain ⟨fr, r1, h1, h⟩ := pThen_inv h
  obtain ⟨v, r2, h2, h⟩ := pThen_inv h
  obtain ⟨n, r3, h3, h⟩ := pThen_inv h
  obtain ⟨_, h⟩ := pIf_inv h
  obtain ⟨ce, r4, h4, h⟩ := pThen_inv h
  rw [pThen_some h1, pThen_some h2, pThen_some h3, pIf_f, pThen_some (pRep_map h4 (fun x _ t r h => cert_to h))]
  exact h
theorem change_of {t r : List UInt8} {x : Ch} (h : pChange false t = some (x, r)) (hl : x.ce.length ≤ 4 ∧ ∀ y ∈ x.ce, y.sg.length ≤ 16) : pChange true t = some (x, r) := by
  unfold pChange at h ⊢
  obtain ⟨fr, r1, h1, h⟩ := pThen_inv h
  obtain ⟨v, r2, h2, h⟩ := pThen_inv h
  obtain ⟨n, r3, h3, h⟩ := pThen_inv h
  obtain ⟨_, h⟩ := pIf_inv h
  obtain ⟨ce, r4, h4, h⟩ := pThen_inv h
  obtain ⟨sg, r5, h5, h⟩ := pThen_inv h
  obtain ⟨rfl, rfl⟩ := pRet_inv h
  obtain ⟨m, rfl⟩ := pNum_nat h3
  have hn := pRep_len h4
  have hl1 : ce.length ≤ 4 := hl.1
  rw [pThen_some h1, pThen_some h2, pThen_some h3, pIf_mk (by simp; simp at hn; omega), pThen_some (pRep_map h4 (fun x hx t r h => cert_of h (hl.2 x hx))), pThen_some h5]
  rfl
theorem link_to {t r : List UInt8} {x : Lk} (h : pLink true t = some (x, r)) : pLink false t = some (x, r) := by
  unfold pLink at h ⊢
  obtain ⟨tx, r1, h1, h⟩ := pThen_inv h
  obtain ⟨hb, h⟩ := pIf_inv h
  obtain ⟨sg, r2, h2, h⟩ := pThen_inv h
  rw [pThen_some h1, pIf_mk hb, pThen_some (sigs_to h2)]
  exact h
theorem link_of {t r : List UInt8} {x : Lk} (h : pLink false t = some (x, r)) (hl : x.2.length ≤ 16) : pLink true t = some (x, r) := by
  unfold pLink at h ⊢
  obtain ⟨tx, r1, h1, h⟩ := pThen_inv h
  obtain ⟨hb, h⟩ := pIf_inv h
  obtain ⟨sg, r2, h2, h⟩ := pThen_inv h
  obtain ⟨rfl, rfl⟩ := pRet_inv h
  rw [pThen_some h1, pIf_mk hb, pThen_some (sigs_of h2 hl)]
  rfl
theorem msg_to {t r : List UInt8} {x : Mg} (h : pMsg true t = some (x, r)) : pMsg false t = some (x, r) := by
  unfold pMsg pTail at h ⊢
  obtain ⟨k, r1, h1, h⟩ := pThen_inv h
  obtain ⟨e, r2, h2, h⟩ := pThen_inv h
  obtain ⟨v, r3, h3, h⟩ := pThen_inv h
  obtain ⟨s, r4, h4, h⟩ := pThen_inv h
  obtain ⟨q, r5, h5, h⟩ := pThen_inv h
  obtain ⟨rt, r6, h6, h⟩ := pThen_inv h
  obtain ⟨hb, h⟩ := pIf_inv h
  obtain ⟨tx, r7, h7, h⟩ := pThen_inv h
  obtain ⟨n1, r8, h8, h⟩ := pThen_inv h
  obtain ⟨_, h⟩ := pIf_inv h
  obtain ⟨nx, r9, h9, h⟩ := pThen_inv h
  obtain ⟨sg, r10, h10, h⟩ := pThen_inv h
  obtain ⟨n2, r11, h11, h⟩ := pThen_inv h
  obtain ⟨_, h⟩ := pIf_inv h
  obtain ⟨ch, r12, h12, h⟩ := pThen_inv h
  obtain ⟨n3, r13, h13, h⟩ := pThen_inv h
  obtain ⟨_, h⟩ := pIf_inv h
  obtain ⟨lk, r14, h14, h⟩ := pThen_inv h
  rw [pThen_some h1, pThen_some h2, pThen_some h3, pThen_some h4, pThen_some h5, pThen_some h6, pIf_mk hb, pThen_some h7, pThen_some h8, pIf_f, pThen_some h9, pThen_some (sigs_to h10), pThen_some h11, pIf_f, pThen_some (pRep_map h12 (fun x _ t r h => change_to h)), pThen_some h13, pIf_f, pThen_some (pRep_map h14 (fun x _ t r h => link_to h))]
  exact h
/-- The counts of a message that fits. -/
def LimM (m : Mg) : Prop := m.nx.length ≤ 10 ∧ m.sg.length ≤ 16 ∧ (m.ch.length ≤ 10 ∧ ∀ c ∈ m.ch, c.ce.length ≤ 4 ∧ ∀ y ∈ c.ce, y.sg.length ≤ 16) ∧ m.lk.length ≤ 60 ∧ ∀ k ∈ m.lk, k.2.length ≤ 16
theorem msg_of {t r : List UInt8} {x : Mg} (h : pMsg false t = some (x, r)) (hl : LimM x) : pMsg true t = some (x, r) := by
  unfold pMsg pTail at h ⊢
  obtain ⟨k, r1, h1, h⟩ := pThen_inv h
  obtain ⟨e, r2, h2, h⟩ := pThen_inv h
  obtain ⟨v, r3, h3, h⟩ := pThen_inv h
  obtain ⟨s, r4, h4, h⟩ := pThen_inv h
  obtain ⟨q, r5, h5, h⟩ := pThen_inv h
  obtain ⟨rt, r6, h6, h⟩ := pThen_inv h
  obtain ⟨hb, h⟩ := pIf_inv h
  obtain ⟨tx, r7, h7, h⟩ := pThen_inv h
  obtain ⟨n1, r8, h8, h⟩ := pThen_inv h
  obtain ⟨_, h⟩ := pIf_inv h
  obtain ⟨nx, r9, h9, h⟩ := pThen_inv h
  obtain ⟨sg, r10, h10, h⟩ := pThen_inv h
  obtain ⟨n2, r11, h11, h⟩ := pThen_inv h
  obtain ⟨_, h⟩ := pIf_inv h
  obtain ⟨ch, r12, h12, h⟩ := pThen_inv h
  obtain ⟨n3, r13, h13, h⟩ := pThen_inv h
  obtain ⟨_, h⟩ := pIf_inv h
  obtain ⟨lk, r14, h14, h⟩ := pThen_inv h
  obtain ⟨rfl, rfl⟩ := pRet_inv h
  obtain ⟨l1, l2, ⟨l3, l4⟩, l5, l6⟩ := hl
  obtain ⟨m1, rfl⟩ := pNum_nat h8
  obtain ⟨m2, rfl⟩ := pNum_nat h11
  obtain ⟨m3, rfl⟩ := pNum_nat h13
  have g1 := pRep_len h9
  have g2 := pRep_len h12
  have g3 := pRep_len h14
  dsimp only at l1 l2 l3 l4 l5 l6
  rw [pThen_some h1, pThen_some h2, pThen_some h3, pThen_some h4, pThen_some h5, pThen_some h6, pIf_mk hb, pThen_some h7, pThen_some h8, pIf_mk (by simp; simp at g1; omega), pThen_some h9, pThen_some (sigs_of h10 l2), pThen_some h11, pIf_mk (by simp; simp at g2; omega), pThen_some (pRep_map h12 (fun x hx t r h => change_of h (l4 x hx))), pThen_some h13, pIf_mk (by simp; simp at g3; omega), pThen_some (pRep_map h14 (fun x hx t r h => link_of h (l6 x hx)))]
  rfl
theorem certs_lim {e : Int} : ∀ {l : List Ce} {last : Int}, certsB e last l = true → ∀ y ∈ l, y.sg.length ≤ 16
  | x :: r, last, h, y, hy => by
    rw [certsB, Bool.and_eq_true] at h
    rcases List.mem_cons.1 hy with rfl | hy
    · have h1 := h.1
      unfold certB sigsB at h1
      simp only [Bool.and_eq_true, decide_eq_true_eq] at h1
      exact h1.2.2
    · exact certs_lim h.2 y hy
theorem changes_lim {e view : Int} : ∀ {l : List Ch} {last : Int}, changesB e view last l = true → ∀ c ∈ l, c.ce.length ≤ 4 ∧ ∀ y ∈ c.ce, y.sg.length ≤ 16
  | x :: r, last, h, c, hc => by
    rw [changesB] at h
    simp only [Bool.and_eq_true] at h
    rcases List.mem_cons.1 hc with rfl | hc
    · have h1 := h.1.2
      unfold changeB at h1
      simp only [Bool.and_eq_true, decide_eq_true_eq] at h1
      exact ⟨h1.1.1.2, certs_lim h1.2⟩
    · exact changes_lim h.2 c hc
theorem links_lim : ∀ {l : List Lk} {i : Nat}, linksB i l = true → ∀ k ∈ l, k.2.length ≤ 16
  | x :: r, i, h, k, hk => by
    rw [linksB] at h
    simp only [Bool.and_eq_true] at h
    rcases List.mem_cons.1 hk with rfl | hk
    · have h1 := h.1.2
      unfold sigsB at h1
      simp only [Bool.and_eq_true, decide_eq_true_eq] at h1
      exact h1.2
    · exact links_lim h.2 k hk
theorem rest_lim {b : But} {m : Mg} (h : restB b m = true) : (b.nx = true ∨ m.nx.length = 0) ∧ (b.ch = true ∨ m.ch.length = 0) ∧ (b.lk = true ∨ m.lk.length = 0) := by
  unfold restB at h
  simp only [Bool.and_eq_true, Bool.or_eq_true, decide_eq_true_eq] at h
  exact ⟨h.1.1.1.2, h.1.2, h.2⟩
theorem rising_lim {l : List Int} (h : risingB l = true) : l.length ≤ 10 := by
  unfold risingB at h
  simp only [Bool.and_eq_true, decide_eq_true_eq] at h
  omega
theorem ok_lim {m : Mg} (h : okM m = true) : (m.nx.length = 0 ∨ risingB m.nx = true) ∧ (m.ch.length = 0 ∨ (m.ch.length ≤ 10 ∧ changesB m.e m.v (-1) m.ch = true)) ∧ (m.lk.length = 0 ∨ ((m.lk.length : Int) = m.e ∧ linksB 0 m.lk = true)) := by
  unfold okM at h
  repeat' split at h
  all_goals first
    | (cases h; done)
    | ((try simp only [Bool.and_eq_true, decide_eq_true_eq] at h)
       first
         | (have hr := rest_lim h.2
            simp only [Bool.false_eq_true, false_or, true_or] at hr
            simp_all)
         | (have hr := rest_lim h
            simp only [Bool.false_eq_true, false_or, true_or] at hr
            simp_all))
theorem fits_lim {m : Mg} (h : (kindB m && fitsP m) = true) : LimM m := by
  unfold fitsP at h
  simp only [Bool.and_eq_true, decide_eq_true_eq] at h
  obtain ⟨_, ⟨⟨h0, h60⟩, hs⟩, hok⟩ := h
  obtain ⟨h1, h2, h3⟩ := ok_lim hok
  have hs2 : m.sg.length ≤ 16 := by
    unfold sigsB at hs
    simp only [Bool.and_eq_true, decide_eq_true_eq] at hs
    exact hs.2
  refine ⟨?_, hs2, ?_, ?_⟩
  · rcases h1 with h1 | h1
    · omega
    · exact rising_lim h1
  · rcases h2 with h2 | ⟨h2, h4⟩
    · exact ⟨by omega, fun c hc => by rw [List.eq_nil_of_length_eq_zero h2] at hc; cases hc⟩
    · exact ⟨h2, changes_lim h4⟩
  · rcases h3 with h3 | ⟨h3, h4⟩
    · exact ⟨by omega, fun c hc => by rw [List.eq_nil_of_length_eq_zero h3] at hc; cases hc⟩
    · exact ⟨by omega, links_lim h4⟩
theorem no_true {t : List UInt8} (h : pMsg false t = none) : pMsg true t = none := by
  cases h2 : pMsg true t with
  | none => rfl
  | some z =>
    obtain ⟨m, r⟩ := z
    rw [msg_to h2] at h; cases h
theorem no_msgF {t : List UInt8} (h : No (pMsg false) ⟨t, false⟩) : readMg t = none := by
  rcases h with h | h
  · cases h
  · unfold readMg
    rw [no_true h]
theorem read_endF {t : List UInt8} {m : Mg} {s : R} (h : Pr (pMsg false) ⟨t, false⟩ m s) : readMg t = if (decide (endE s = 0) && (kindB m && fitsP m)) = true then some m else none := by
  cases hb : s.bad with
  | true =>
    have h1 := no_msgF (h.bad hb)
    have h3 : ¬ endE s = 0 := by unfold endE; rw [if_pos hb]; decide
    rw [h1, decide_eq_false h3]
    rfl
  | false =>
    have h1 := (h.good hb).2
    replace h1 : pMsg false t = some (m, s.rest) := h1
    obtain ⟨r, b⟩ := s
    cases hb
    dsimp only at h1
    unfold readMg
    cases r with
    | nil =>
      have h3 : endE ⟨[], false⟩ = 0 := rfl
      rw [decide_eq_true h3, Bool.true_and]
      cases hk : kindB m && fitsP m with
      | true =>
        rw [msg_of h1 (fits_lim hk)]
        show (if (kindB m && fitsP m) = true then some m else none) = _
        rw [hk]
      | false =>
        cases h2 : pMsg true t with
        | none => rfl
        | some z =>
          obtain ⟨m2, r2⟩ := z
          have h4 := msg_to h2
          rw [h1] at h4
          injection h4 with h4
          injection h4 with h5 h6
          subst h5 h6
          show (if (kindB m && fitsP m) = true then some m else none) = _
          rw [hk]
    | cons x r =>
      have h3 : ¬ endE ⟨x :: r, false⟩ = 0 := by
        unfold endE
        rw [if_neg (by simp), if_pos (by simp)]
        decide
      rw [decide_eq_false h3]
      cases h2 : pMsg true t with
      | none => rfl
      | some z =>
        obtain ⟨m2, r2⟩ := z
        have h4 := msg_to h2
        rw [h1] at h4
        injection h4 with h4
        injection h4 with h5 h6
        subst h5 h6
        rfl
end Go.Proofs.YtijeieamodjgbaaGreat

namespace Go.Proofs.YtijeieamodjgbaaGreat
set_option maxRecDepth 100000
open Go.RowKit Go.Deep
set_option linter.unusedVariables false
set_option linter.unusedSimpArgs false
attribute [local go_sem] run_store_float

theorem To.on {α β : Type} {P : Ps α} {s s1 s2 : R} {p : Ps β} {b : β → Bool} {f : β → Ps α} {x : β} (T : To P s (pThen p fun x => pIf (b x) (f x)) s1) (h : Pr p s1 x s2) (hb : b x = true) : To P s (f x) s2 := by
  have T2 := T.step h
  exact ⟨fun y r hy => T2.1 y r (hy.if hb), fun hn => T2.2 (no_if hn)⟩
theorem To.off {α β : Type} {P : Ps α} {s s1 s2 : R} {p : Ps β} {b : β → Bool} {f : β → Ps α} {x : β} (T : To P s (pThen p fun x => pIf (b x) (f x)) s1) (h : Pr p s1 x s2) (hb : b x = false) : No P s := T.2 (No.step h (No.if hb))
theorem wpL_val {P : Program} {ops : Array Oper} {rest : List Oper} {o : Oper} {a : Act} {w w' : World} {Q : Exit → Act → World → Prop} {v : Value} (hw : Region.wanted o (yielded ops a.tmps) = true) (hrun : (execOp a.eval o).run P w = .ok (.value v) w') (h : wpList P ops Q rest (a.put o.dst v) w') : wpList P ops Q (o :: rest) a w :=
  wpList_step fun K hK => by
    rw [if_pos hw]
    unfold Oper.wp
    rw [hrun]
    exact hK _ _ h
theorem wpL_skip {P : Program} {ops : Array Oper} {rest : List Oper} {o : Oper} {a : Act} {w : World} {Q : Exit → Act → World → Prop} (hw : Region.wanted o (yielded ops a.tmps) = false) (h : wpList P ops Q rest (a.put o.dst undef) w) : wpList P ops Q (o :: rest) a w :=
  wpList_step fun K hK => by
    rw [if_neg (by rw [hw]; decide)]
    exact hK _ _ h
theorem wpL_call {P : Program} {ops : Array Oper} {rest : List Oper} {o : Oper} {a : Act} {w : World} {Q : Exit → Act → World → Prop} {R : Ending → World → Prop} (hw : Region.wanted o (yielded ops a.tmps) = true)
    (f : FuncId) (args : Array Value) (hrun : (execOp a.eval o).run P w = .ok (.enter f args) w) (hc : Calls P f args w R) (h : ∀ e w', R e w' → ∃ v, e = .returned v ∧ wpList P ops Q rest (a.put o.dst v) w') : wpList P ops Q (o :: rest) a w :=
  wpList_step fun K hK => step_calls_g hw f args hrun hc fun e w' he => by
    obtain ⟨v, rfl, hv⟩ := h e w' he
    exact ⟨v, rfl, hK _ _ hv⟩
theorem build_msg (ρ : Operand → Value) (o : Oper) (ho : o.op = .build 35 #[]) (w : World) : (execOp ρ o).run Tryz.prog w = .ok (.value (.agg zeroMg.toArray)) w := by
  have hbd : (Instr.build 35 #[]).run Tryz.prog w = Result.ok (.agg zeroMg.toArray) w := by kernel_rfl
  unfold execOp
  simp [ho, hbd]
theorem pr_linkR {s s1 : R} {sg : List Sg} (hc : readC (tVal s) = 0) (h : Pr (pSigs false) (tNext s) sg s1) : Pr (pLink false) s ((readE (tVal s), readL (tVal s)), sg) s1 := by
  unfold pLink
  have hb : decide (readC (⟨(tVal s).toArray⟩ : ByteArray).data.toList = 0) = true := by simpa using hc
  exact (pr_text s).then ((h.then (f := fun sg => pRet ((readE (tVal s), readL (tVal s)), sg)) (Pr.ret _ _)).if hb)
theorem no_linkR {s : R} (hc : ¬ readC (tVal s) = 0) : No (pLink false) s := by
  unfold pLink
  have hb : decide (readC (⟨(tVal s).toArray⟩ : ByteArray).data.toList = 0) = false := by simpa using hc
  exact No.step (pr_text s) (No.if hb)
theorem store_zero (w : World) (b : Nat) (h : w.heap[b]? = some (.cells zeroMg.toArray 35 (0, 0))) : (w.setCells b 0 zeroMg.toArray.toList).heap[b]? = some (.cells zeroMg.toArray 35 (0, 0)) := by
  have := sets_blk zeroMg w [] zeroMg h rfl
  simpa using this

set_option maxHeartbeats 8000000 in
theorem rread13_any (text : ByteArray) (w : World) (hts : text.size ≤ 1125899906842624) :
    Calls Tryz.prog 7 #[.string text] w (ReadP13 w text) := by
  obtain ⟨w1, hw1⟩ : ∃ u, u = w.alloc (.cells zeroMg.toArray 35 (0, 0)) := ⟨_, rfl⟩
  have b1 : Below w.heap.size w w1 := by rw [hw1]; exact below_alloc _ _
  have hz1 : w1.heap.size = w.heap.size + 1 := by rw [hw1]; simp
  have K1 := Lib.hid (show w1.heap[w.heap.size]? = some (.cells zeroMg.toArray 35 (0, 0)) by rw [hw1]; exact blk_alloc _ _)
  have B1 := Lib.hid b1
  clear b1
  by_cases hlong : 65536 < text.size
  · have hd : decide ((65536 : Int) < (text.size : Int)) = true := by simp; omega
    have HF := Lib.hid (show rdErr13 text = 3 ∧ rdMsg13 text = zeroM from by unfold rdErr13 rdMsg13; rw [if_pos hlong, if_pos hlong]; exact ⟨rfl, rfl⟩)
    rw [zeroMg_row] at hw1
    go_enter Tryz.func7, Tryz.ntmps7
    go_upto_region 1 with (fail)
    rw [← hw1]
    clear hw1
    go_upto_region 2 with (fail)
    refine wp_region_lit ?_
    refine ops_val rfl (w' := w1) (v := .agg zeroMg.toArray) (build_msg _ _ rfl _) ?_
    simp only [Act.put, List.setIfInBounds_toArray, List.set_cons_succ, List.set_cons_zero]
    refine wpList_store_mid rfl 35 (.tmp 2) (.tmp 16) rfl w.heap.size 0 zeroMg.toArray rfl rfl (fun j hj => ⟨by rw [blk_cell K1.out, Option.isSome_iff_exists]; exact ⟨_, Array.getElem?_eq_getElem (show 0 + j < zeroMg.toArray.size by rw [Nat.zero_add]; exact hj)⟩, blk_frozen K1.out _⟩) (by rw [List.size_toArray]; exact info_mg) (by simp [zeroMg, Value.oneCell']) ?_
    obtain ⟨wz, hwz⟩ : ∃ u, u = World.setCells w1 w.heap.size 0 zeroMg.toArray.toList := ⟨_, rfl⟩
    have KZ := Lib.hid (show wz.heap[w.heap.size]? = some (.cells zeroMg.toArray 35 (0, 0)) from by rw [hwz]; exact store_zero _ _ K1.out)
    have BZ := Lib.hid (show Below w.heap.size w wz from by rw [hwz]; exact sets_old (Nat.le_refl _) _ B1.out)
    rw [← hwz]
    clear hwz
    simp only [Act.put, List.setIfInBounds_toArray, List.set_cons_succ, List.set_cons_zero]
    have HFX := Lib.hid (HF.out)
    go_wp2_with fail
    have hld := run_loadVar_row (P := Tryz.prog) wz w.heap.size 35 35 zeroMg.toArray (0, 0) _ KZ.out Tryz.underlying35 rfl (by kernel_rfl)
    refine bodyPost_ret (v := .tuple #[.agg zeroMg.toArray, .int .i64 3]) (by simp [results, Tryz.results7, asAddr, hld]) rfl ?_
    exact ⟨BZ.out, zeroMg, by rw [HFX.out.1], fun u hu => by rw [HFX.out.2]; exact zeroM_at u⟩
  have hd : decide ((65536 : Int) < (text.size : Int)) = false := by simp; omega
  obtain ⟨w2, hw2⟩ : ∃ u, u = w1.alloc (.cells #[.string text, .bool false] 75 (0, 0)) := ⟨_, rfl⟩
  have b2 : Below w1.heap.size w1 w2 := by rw [hw2]; exact below_alloc _ _
  have hz2 : w2.heap.size = w.heap.size + 2 := by rw [hw2]; simp; omega
  have K2 := Lib.hid (blk_below K1.out b2)
  have B2 := Lib.hid (bthen B1.out b2)
  obtain ⟨t, ht⟩ : ∃ t, t = text.data.toList := ⟨_, rfl⟩
  have R2 := Lib.hid (show RRd w2 (w.heap.size + 1) ⟨t, false⟩ from ⟨text, by rw [← hz1, hw2]; exact blk_alloc _ _, ht.symm, by omega⟩)
  have HRE := Lib.hid (show rdErr13 text = (if (readMg t).isSome = true then 0 else 5) ∧ rdMsg13 text = (readMg t).getD zeroM by unfold rdErr13 rdMsg13; rw [if_neg hlong, if_neg hlong, ht]; exact ⟨rfl, rfl⟩)
  have HZF := Lib.hid (show readMg t = none → rdErr13 text = 5 ∧ rdMsg13 text = zeroM from fun h => by rw [HRE.out.1, HRE.out.2, h]; exact ⟨rfl, rfl⟩)
  obtain ⟨p, hpe⟩ : ∃ p, p = w.heap.size + 1 := ⟨_, rfl⟩
  rw [← hpe] at R2
  have C1 := Lib.hid (rrnum_got p ⟨t, false⟩ 1 w2 R2.out (by decide))
  have T0 := Lib.hid ((show To (pMsg false) ⟨t, false⟩ (pThen (pNum 1) fun k => pThen (pNum 2) fun e => pThen (pNum 1) fun v => pThen (pNum 2) fun s => pThen pReq fun q => pThen pText fun rt => pIf (decide (rsE rt.data.toList = 0)) (pThen pText fun t => pTail false k e v s q rt t)) ⟨t, false⟩ from To.refl _ _).step (pr_num _ 1))
  have I1 := Lib.hid (rVal_i64 ⟨t, false⟩ 1 (by decide))
  generalize rNext ⟨t, false⟩ 1 = s1 at *
  generalize rVal ⟨t, false⟩ 1 = k0 at *
  clear b2 ht hlong
  rw [zeroMg_row] at hw1
  go_enter Tryz.func7, Tryz.ntmps7
  go_upto_region 1 with (fail)
  rw [← hw1]
  clear hw1
  go_upto_region 4 with (fail)
  rw [← hw2, ← hpe]
  clear hw2
  have hp1 : w.heap.size < p := by omega
  have hp2 : p < w2.heap.size := by omega
  clear hpe
  go_wp2_with fail
  refine C1.out.mono ?_
  rintro e w3 ⟨rfl, hr3, ho3⟩
  rename_i hK
  refine hK _ _ ?_
  clear hK
  have hz3 := ho3.size
  have k2 := (ho3.block _ (blk_lt K2.out) (by omega)).trans K2.out
  refine ops_val rfl (w' := w3) (v := .agg #[.int .i64 (k0 : Int), .int .i64 0, .int .i64 0, .int .i64 0, .int .i64 0, .int .i64 0, .int .i64 0, .string ⟨#[]⟩, .float .f64 0, .int .i64 0, .int .i64 0, .float .f64 0, .string ⟨#[]⟩, .slice none 0 0, .slice none 0 0, .slice none 0 0, .slice none 0 0]) (by kernel_rfl) ?_
  simp only [Act.put, List.setIfInBounds_toArray, List.set_cons_succ, List.set_cons_zero]
  refine ops_made 35 zeroMg rfl rfl (.tmp 5) (.tmp 22) (fun ρ w => alloc_msg ρ _ rfl w) rfl [.int .i64 (k0 : Int), .int .i64 0, .int .i64 0, .int .i64 0, .int .i64 0, .int .i64 0, .int .i64 0, .string ⟨#[]⟩, .float .f64 0, .int .i64 0, .int .i64 0, .float .f64 0, .string ⟨#[]⟩, .slice none 0 0, .slice none 0 0, .slice none 0 0, .slice none 0 0] rfl (by kernel_rfl) (by simp [Value.oneCell']) rfl rfl fun w4 b4 kc4 hz4 => ?_
  simp only [Act.put, List.setIfInBounds_toArray, List.set_cons_succ, List.set_cons_zero]
  have KC4 := Lib.hid kc4
  have KS := Lib.hid (blk_below k2 b4)
  have R4 := Lib.hid (rrd_old hr3 b4)
  have O4 := Lib.hid (keep_mono14 (Y := fun k => k = p ∨ k = w3.heap.size) (keep_then (keep_then (Keep.of_below B2.out) ho3) (Keep.of_below b4)) (fun k h => .inl h))
  have hpq : p < w3.heap.size := by omega
  have hHq : w.heap.size + 1 < w3.heap.size := by omega
  clear hr3 ho3 k2 b4 C1 K1 K2 kc4 R2
  generalize w3.heap.size = q at *
  have hHp : w.heap.size ≤ p ∧ w.heap.size ≤ q := ⟨by omega, by omega⟩
  have HFN := Lib.hid (fun (u : World) (hu : Keep (fun k => k = p ∨ k = q) w4 u) => (Keep.below (Below.refl _ w) (O4.out.trans (X := fun k => k = p ∨ k = q) (X' := fun k => k = p ∨ k = q) hu (fun _ _ h => h)) (fun k hk => by omega) : Below w.heap.size w u))
  have Q4 := Lib.hid (Keep.refl (fun k => k = p ∨ k = q) w4)
  have T4 := T0
  clear T0 O4
  have I6 := Lib.hid (rVal_i64 s1 2 (by decide))
  have C4 := Lib.hid (rrnum_got p s1 2 w4 R4.out (by decide))
  have T6 := Lib.hid (T4.out.step (pr_num s1 2))
  generalize rNext s1 2 = s2 at *
  generalize rVal s1 2 = e0 at *
  go_wp2_with fail
  refine C4.out.mono ?_
  rintro e w5 ⟨rfl, hr, ho⟩
  have kc := (ho.block _ (blk_lt KC4.out) (by omega)).trans KC4.out
  obtain ⟨w6, hw⟩ : ∃ u, u = w5.setCell ⟨q, 1, none⟩ (.int .i64 (e0 : Int)) := ⟨_, rfl⟩
  have e1 : w5.cell? ⟨q, 1, none⟩ = some (.int .i64 0) := by rw [blk_cell kc]; rfl
  have e2 : w5.frozen? ⟨q, 1, none⟩ = false := blk_frozen kc 1
  have KC6 := Lib.hid (show w6.heap[q]? = some (.cells #[.int .i64 (k0 : Int), .int .i64 (e0 : Int), .int .i64 0, .int .i64 0, .int .i64 0, .int .i64 0, .int .i64 0, .string ⟨#[]⟩, .float .f64 0, .int .i64 0, .int .i64 0, .float .f64 0, .string ⟨#[]⟩, .slice none 0 0, .slice none 0 0, .slice none 0 0, .slice none 0 0] 35 (0, 0)) by rw [hw]; exact (blk_set kc 1 (.int .i64 (e0 : Int))).trans (by simp only [List.setIfInBounds_toArray, List.set_cons_succ, List.set_cons_zero]))
  have Q6 := Lib.hid (show Keep (fun k => k = p ∨ k = q) w4 w6 by rw [hw]; exact Keep.set (Q4.out.trans (keep_mono14 (Y := fun k => k = p ∨ k = q) ho (fun k h => .inl h)) (fun _ _ h => h)) (.inr (.inr rfl)) 1 (.int .i64 (e0 : Int)))
  have R6 := Lib.hid (show RRd w6 p s2 by rw [hw]; exact rrd_put hr 1 (.int .i64 (e0 : Int)) (by omega))
  clear hr ho kc C4 R4 Q4 KC4 T4
  go_upto_region 6 with (fail)
  rw [← hw]
  clear hw e1 e2
  have I8 := Lib.hid (rVal_i64 s2 1 (by decide))
  have C6 := Lib.hid (rrnum_got p s2 1 w6 R6.out (by decide))
  have T8 := Lib.hid (T6.out.step (pr_num s2 1))
  generalize rNext s2 1 = s3 at *
  generalize rVal s2 1 = v0 at *
  go_wp2_with fail
  refine C6.out.mono ?_
  rintro e w7 ⟨rfl, hr, ho⟩
  have kc := (ho.block _ (blk_lt KC6.out) (by omega)).trans KC6.out
  obtain ⟨w8, hw⟩ : ∃ u, u = w7.setCell ⟨q, 2, none⟩ (.int .i64 (v0 : Int)) := ⟨_, rfl⟩
  have e1 : w7.cell? ⟨q, 2, none⟩ = some (.int .i64 0) := by rw [blk_cell kc]; rfl
  have e2 : w7.frozen? ⟨q, 2, none⟩ = false := blk_frozen kc 2
  have KC8 := Lib.hid (show w8.heap[q]? = some (.cells #[.int .i64 (k0 : Int), .int .i64 (e0 : Int), .int .i64 (v0 : Int), .int .i64 0, .int .i64 0, .int .i64 0, .int .i64 0, .string ⟨#[]⟩, .float .f64 0, .int .i64 0, .int .i64 0, .float .f64 0, .string ⟨#[]⟩, .slice none 0 0, .slice none 0 0, .slice none 0 0, .slice none 0 0] 35 (0, 0)) by rw [hw]; exact (blk_set kc 2 (.int .i64 (v0 : Int))).trans (by simp only [List.setIfInBounds_toArray, List.set_cons_succ, List.set_cons_zero]))
  have Q8 := Lib.hid (show Keep (fun k => k = p ∨ k = q) w4 w8 by rw [hw]; exact Keep.set (Q6.out.trans (keep_mono14 (Y := fun k => k = p ∨ k = q) ho (fun k h => .inl h)) (fun _ _ h => h)) (.inr (.inr rfl)) 2 (.int .i64 (v0 : Int)))
  have R8 := Lib.hid (show RRd w8 p s3 by rw [hw]; exact rrd_put hr 2 (.int .i64 (v0 : Int)) (by omega))
  clear hr ho kc C6 R6 Q6 KC6 T6
  go_upto_region 7 with (fail)
  rw [← hw]
  clear hw e1 e2
  have I10 := Lib.hid (rVal_i64 s3 2 (by decide))
  have C8 := Lib.hid (rrnum_got p s3 2 w8 R8.out (by decide))
  have T10 := Lib.hid (T8.out.step (pr_num s3 2))
  generalize rNext s3 2 = s4 at *
  generalize rVal s3 2 = l0 at *
  go_wp2_with fail
  refine C8.out.mono ?_
  rintro e w9 ⟨rfl, hr, ho⟩
  have kc := (ho.block _ (blk_lt KC8.out) (by omega)).trans KC8.out
  obtain ⟨w10, hw⟩ : ∃ u, u = w9.setCell ⟨q, 3, none⟩ (.int .i64 (l0 : Int)) := ⟨_, rfl⟩
  have e1 : w9.cell? ⟨q, 3, none⟩ = some (.int .i64 0) := by rw [blk_cell kc]; rfl
  have e2 : w9.frozen? ⟨q, 3, none⟩ = false := blk_frozen kc 3
  have KC10 := Lib.hid (show w10.heap[q]? = some (.cells #[.int .i64 (k0 : Int), .int .i64 (e0 : Int), .int .i64 (v0 : Int), .int .i64 (l0 : Int), .int .i64 0, .int .i64 0, .int .i64 0, .string ⟨#[]⟩, .float .f64 0, .int .i64 0, .int .i64 0, .float .f64 0, .string ⟨#[]⟩, .slice none 0 0, .slice none 0 0, .slice none 0 0, .slice none 0 0] 35 (0, 0)) by rw [hw]; exact (blk_set kc 3 (.int .i64 (l0 : Int))).trans (by simp only [List.setIfInBounds_toArray, List.set_cons_succ, List.set_cons_zero]))
  have Q10 := Lib.hid (show Keep (fun k => k = p ∨ k = q) w4 w10 by rw [hw]; exact Keep.set (Q8.out.trans (keep_mono14 (Y := fun k => k = p ∨ k = q) ho (fun k h => .inl h)) (fun _ _ h => h)) (.inr (.inr rfl)) 3 (.int .i64 (l0 : Int)))
  have R10 := Lib.hid (show RRd w10 p s4 by rw [hw]; exact rrd_put hr 3 (.int .i64 (l0 : Int)) (by omega))
  clear hr ho kc C8 R8 Q8 KC8 T8
  go_upto_region 8 with (fail)
  rw [← hw]
  clear hw e1 e2
  have C10 := Lib.hid (rgetask_any p s4 w10 R10.out)
  go_wp2_with fail
  refine C10.out.mono ?_
  rintro e w11 ⟨ho, ⟨qc, qs, qk, qt, qb, qi⟩, s5, cs, rfl, hpr, hr, hE⟩
  obtain ⟨rfl, hqok⟩ := req_open hE.self
  have HQOK := Lib.hid hqok
  have T12 := Lib.hid (T10.out.step hpr)
  have kc := (ho.block _ (blk_lt KC10.out) (by omega)).trans KC10.out
  obtain ⟨w12, hw⟩ : ∃ u, u = ((((((w11.setCell ⟨q, 4, none⟩ (.int .i64 qc)).setCell ⟨q, 5, none⟩ (.int .i64 qs)).setCell ⟨q, 6, none⟩ (.int .i64 qk)).setCell ⟨q, 7, none⟩ (.string qt)).setCell ⟨q, 8, none⟩ (.float .f64 qb)).setCell ⟨q, 9, none⟩ (.int .i64 qi)) := ⟨_, rfl⟩
  have e4 : w11.cell? ⟨q, 4, none⟩ = some (.int .i64 0) := by rw [blk_cell kc]; rfl
  have f4 : w11.frozen? ⟨q, 4, none⟩ = false := blk_frozen kc 4
  have e5 : w11.cell? ⟨q, 5, none⟩ = some (.int .i64 0) := by rw [blk_cell kc]; rfl
  have f5 : w11.frozen? ⟨q, 5, none⟩ = false := blk_frozen kc 5
  have e6 : w11.cell? ⟨q, 6, none⟩ = some (.int .i64 0) := by rw [blk_cell kc]; rfl
  have f6 : w11.frozen? ⟨q, 6, none⟩ = false := blk_frozen kc 6
  have e7 : w11.cell? ⟨q, 7, none⟩ = some (.string ⟨#[]⟩) := by rw [blk_cell kc]; rfl
  have f7 : w11.frozen? ⟨q, 7, none⟩ = false := blk_frozen kc 7
  have e8 : w11.cell? ⟨q, 8, none⟩ = some (.float .f64 0) := by rw [blk_cell kc]; rfl
  have f8 : w11.frozen? ⟨q, 8, none⟩ = false := blk_frozen kc 8
  have e9 : w11.cell? ⟨q, 9, none⟩ = some (.int .i64 0) := by rw [blk_cell kc]; rfl
  have f9 : w11.frozen? ⟨q, 9, none⟩ = false := blk_frozen kc 9
  have KC12 := Lib.hid (show w12.heap[q]? = some (.cells #[.int .i64 (k0 : Int), .int .i64 (e0 : Int), .int .i64 (v0 : Int), .int .i64 (l0 : Int), .int .i64 qc, .int .i64 qs, .int .i64 qk, .string qt, .float .f64 qb, .int .i64 qi, .int .i64 0, .float .f64 0, .string ⟨#[]⟩, .slice none 0 0, .slice none 0 0, .slice none 0 0, .slice none 0 0] 35 (0, 0)) by rw [hw]; exact (blk_set (blk_set (blk_set (blk_set (blk_set (blk_set kc 4 (.int .i64 qc)) 5 (.int .i64 qs)) 6 (.int .i64 qk)) 7 (.string qt)) 8 (.float .f64 qb)) 9 (.int .i64 qi)).trans (by simp only [List.setIfInBounds_toArray, List.set_cons_succ, List.set_cons_zero]))
  have Q12 := Lib.hid (show Keep (fun k => k = p ∨ k = q) w4 w12 by rw [hw]; exact (Keep.set (Keep.set (Keep.set (Keep.set (Keep.set (Keep.set (Q10.out.trans (keep_mono14 (Y := fun k => k = p ∨ k = q) ho (fun k h => .inl h)) (fun _ _ h => h)) (.inr (.inr rfl)) 4 (.int .i64 qc)) (.inr (.inr rfl)) 5 (.int .i64 qs)) (.inr (.inr rfl)) 6 (.int .i64 qk)) (.inr (.inr rfl)) 7 (.string qt)) (.inr (.inr rfl)) 8 (.float .f64 qb)) (.inr (.inr rfl)) 9 (.int .i64 qi)))
  have R12 := Lib.hid (show RRd w12 p s5 by rw [hw]; exact (rrd_put (rrd_put (rrd_put (rrd_put (rrd_put (rrd_put hr 4 (.int .i64 qc) (by omega)) 5 (.int .i64 qs) (by omega)) 6 (.int .i64 qk) (by omega)) 7 (.string qt) (by omega)) 8 (.float .f64 qb) (by omega)) 9 (.int .i64 qi) (by omega)))
  clear hr ho kc C10 R10 Q10 KC10 T10 hE hqok hpr
  simp only [Rq.cs, aggF]
  go_upto_region 9 with (fail)
  rw [← hw]
  clear hw e4 f4 e5 f5 e6 f6 e7 f7 e8 f8 e9 f9
  have C12 := Lib.hid (rrtext_got p s5 w12 R12.out)
  have T14 := Lib.hid (fun hm => T12.out.on (x := (⟨(tVal s5).toArray⟩ : ByteArray)) (pr_text s5) hm)
  have N14 := Lib.hid (fun hm => no_msgF (T12.out.off (x := (⟨(tVal s5).toArray⟩ : ByteArray)) (pr_text s5) hm))
  have CR0 : ∀ w, Calls Tryz.prog 32 #[.string ⟨(tVal s5).toArray⟩] w fun e w' => e = .returned (.tuple #[.agg #[.int .i64 (rsC (tVal s5)), .float .f64 (rsB (tVal s5))], .int .i64 (rsE (tVal s5))]) ∧ Below w.heap.size w w' :=
    fun w => rreadres_any ⟨(tVal s5).toArray⟩ w (by have := tValLen s5; simp only [ByteArray.size, List.size_toArray]; omega)
  have CR := Lib.hid CR0
  have HRC := Lib.hid (rsC_i64 (tVal s5)); have HRB := Lib.hid (rsB_lt (tVal s5))
  dsimp only [List.toList_toArray] at T14 N14
  unfold pTail at T14
  clear CR0
  generalize rsC (tVal s5) = c0 at *
  generalize rsB (tVal s5) = b0 at *
  generalize rsE (tVal s5) = E at *
  generalize (⟨(tVal s5).toArray⟩ : ByteArray) = RT at *
  generalize tNext s5 = s6 at *
  have T16 := Lib.hid (fun (h : E = 0) => T14.out (by simpa using h))
  have NE := Lib.hid (fun (h : ¬ E = 0) => N14.out (by simpa using h))
  clear T14 N14
  go_wp2_with fail
  refine C12.out.mono ?_
  rintro e w13 ⟨rfl, hr, ho⟩
  have KC13 := Lib.hid ((ho.block _ (blk_lt KC12.out) (by omega)).trans KC12.out)
  have Q13 := Lib.hid (Q12.out.trans (keep_mono14 (Y := fun k => k = p ∨ k = q) ho (fun k h => .inl h)) (fun _ _ h => h))
  have R13 := Lib.hid hr
  clear hr ho C12 R12 Q12 KC12 T12
  go_wp2_with fail
  refine (CR.out w13).mono ?_
  rintro e w14 ⟨rfl, b14⟩
  obtain ⟨w15, hw⟩ : ∃ u, u = w14.alloc (.cells #[.int .i64 c0, .float .f64 b0] 29 (0, 0)) := ⟨_, rfl⟩
  have b15 : Below w14.heap.size w14 w15 := by rw [hw]; exact below_alloc _ _
  have KX := Lib.hid (show w15.heap[w14.heap.size]? = some (.cells #[.int .i64 c0, .float .f64 b0] 29 (0, 0)) by rw [hw]; exact blk_alloc _ _)
  have B15 := Lib.hid (bthen b14 b15)
  have hz14 := b14.size
  have hq13 := blk_lt KC13.out
  have Q16 := Lib.hid (Q13.out.trans (Keep.of_below (X := fun k => k = p ∨ k = q) B15.out) (fun _ _ h => h))
  have KC16 := Lib.hid (blk_below KC13.out B15.out)
  have R16 := Lib.hid (rrd_old R13.out B15.out)
  clear b14 b15 CR R13 Q13 KC13 B15
  go_upto_region 10 with (fail)
  rw [← hw]
  clear hw
  generalize w14.heap.size = xb at *
  have x0 : w15.cell? ⟨xb, 0, none⟩ = some (.int .i64 c0) := by rw [blk_cell KX.out]; rfl
  have x1 : w15.cell? ⟨xb, 1, none⟩ = some (.float .f64 b0) := by rw [blk_cell KX.out]; rfl
  have e1 : w15.cell? ⟨q, 10, none⟩ = some (.int .i64 0) := by rw [blk_cell KC16.out]; rfl
  have e2 : w15.cell? ⟨q, 11, none⟩ = some (.float .f64 0) := by rw [blk_cell KC16.out]; rfl
  have f1 : w15.frozen? ⟨q, 10, none⟩ = false := blk_frozen KC16.out 10
  have f2 : w15.frozen? ⟨q, 11, none⟩ = false := blk_frozen KC16.out 11
  obtain ⟨w17, hw⟩ : ∃ u, u = (w15.setCell ⟨q, 10, none⟩ (.int .i64 c0)).setCell ⟨q, 11, none⟩ (.float .f64 b0) := ⟨_, rfl⟩
  have KC17 := Lib.hid (show w17.heap[q]? = some (.cells #[.int .i64 (k0 : Int), .int .i64 (e0 : Int), .int .i64 (v0 : Int), .int .i64 (l0 : Int), .int .i64 qc, .int .i64 qs, .int .i64 qk, .string qt, .float .f64 qb, .int .i64 qi, .int .i64 c0, .float .f64 b0, .string ⟨#[]⟩, .slice none 0 0, .slice none 0 0, .slice none 0 0, .slice none 0 0] 35 (0, 0)) by rw [hw]; exact (blk_set (blk_set KC16.out 10 (.int .i64 c0)) 11 (.float .f64 b0)).trans (by simp only [List.setIfInBounds_toArray, List.set_cons_succ, List.set_cons_zero]))
  have Q17 := Lib.hid (show Keep (fun k => k = p ∨ k = q) w4 w17 by rw [hw]; exact Keep.set (Keep.set Q16.out (.inr (.inr rfl)) 10 (.int .i64 c0)) (.inr (.inr rfl)) 11 (.float .f64 b0))
  have R17 := Lib.hid (show RRd w17 p s6 by rw [hw]; exact rrd_put (rrd_put R16.out 10 (.int .i64 c0) (by omega)) 11 (.float .f64 b0) (by omega))
  clear R16 Q16 KC16 KX
  go_upto_region 11 with (fail)
  rw [← hw]
  clear hw x0 x1 e1 e2 f1 f2
  have C17 := Lib.hid (rrtext_got p s6 w17 R17.out)
  have T19 := Lib.hid (fun (h : E = 0) => (T16.out h).step (pr_text s6))
  have HTL := Lib.hid (tValLen s6)
  have HTS := Lib.hid (show (⟨(tVal s6).toArray⟩ : ByteArray).size ≤ 65535 by have := HTL.out; simp only [ByteArray.size, List.size_toArray]; omega)
  generalize (⟨(tVal s6).toArray⟩ : ByteArray) = tx at *
  generalize tNext s6 = s7 at *
  clear HTL T16
  go_wp2_with fail
  refine C17.out.mono ?_
  rintro e w18 ⟨rfl, hr, ho⟩
  have kc := (ho.block _ (blk_lt KC17.out) (by omega)).trans KC17.out
  obtain ⟨w19, hw⟩ : ∃ u, u = w18.setCell ⟨q, 12, none⟩ (.string tx) := ⟨_, rfl⟩
  have e1 : w18.cell? ⟨q, 12, none⟩ = some (.string ⟨#[]⟩) := by rw [blk_cell kc]; rfl
  have e2 : w18.frozen? ⟨q, 12, none⟩ = false := blk_frozen kc 12
  have KC19 := Lib.hid (show w19.heap[q]? = some (.cells #[.int .i64 (k0 : Int), .int .i64 (e0 : Int), .int .i64 (v0 : Int), .int .i64 (l0 : Int), .int .i64 qc, .int .i64 qs, .int .i64 qk, .string qt, .float .f64 qb, .int .i64 qi, .int .i64 c0, .float .f64 b0, .string tx, .slice none 0 0, .slice none 0 0, .slice none 0 0, .slice none 0 0] 35 (0, 0)) by rw [hw]; exact (blk_set kc 12 (.string tx)).trans (by simp only [List.setIfInBounds_toArray, List.set_cons_succ, List.set_cons_zero]))
  have Q19 := Lib.hid (show Keep (fun k => k = p ∨ k = q) w4 w19 by rw [hw]; exact Keep.set (Q17.out.trans (keep_mono14 (Y := fun k => k = p ∨ k = q) ho (fun k h => .inl h)) (fun _ _ h => h)) (.inr (.inr rfl)) 12 (.string tx))
  have R19 := Lib.hid (show RRd w19 p s7 by rw [hw]; exact rrd_put hr 12 (.string tx) (by omega))
  clear hr ho kc C17 R17 Q17 KC17
  go_upto_region 12 with (fail)
  rw [← hw]
  clear hw e1 e2
  have hlt19 := rVal_lt s7 1
  have C19 := Lib.hid (rrnum_got p s7 1 w19 R19.out (by decide))
  have T20 := Lib.hid (fun (h : E = 0) => (T19.out h).on (x := ((rVal s7 1 : Nat) : Int)) (pr_num s7 1) rfl)
  generalize rNext s7 1 = s8 at *
  generalize rVal s7 1 = n1 at *
  have hN20 : n1 ≤ 255 := by omega
  go_wp2_with fail
  refine C19.out.mono ?_
  rintro e w20 ⟨rfl, hr, ho⟩
  have KC20 := Lib.hid ((ho.block _ (blk_lt KC19.out) (by omega)).trans KC19.out)
  have Q20 := Lib.hid (Q19.out.trans (keep_mono14 (Y := fun k => k = p ∨ k = q) ho (fun k h => .inl h)) (fun _ _ h => h))
  have R20 := Lib.hid hr
  have QC20 := Lib.hid (keep_mono14 (Y := fun k => k = p ∨ k = q) ho (fun k h => .inl h))
  have hsz20 := ho.size
  clear hr ho C19 R19 Q19 KC19 T19 hlt19
  obtain ⟨ii, hi, hz0', hz1', hz2'⟩ := info_parts info_int
  go_upto_block 0 with fail
  go_cut [8] (fun _ wc => Hid (∃ (acc : List Int) (s' : R) (v : Value), acc.length ≤ 255 ∧ Pr (pRep (pNum 1) n1) s8 acc s' ∧ RRd wc p s' ∧ wc.ownsRow (q + 1) 3 1 v acc.length (intsV acc) ∧ (∀ x ∈ acc, i64 x) ∧ wc.heap[q]? = some (.cells #[.int .i64 (k0 : Int), .int .i64 (e0 : Int), .int .i64 (v0 : Int), .int .i64 (l0 : Int), .int .i64 qc, .int .i64 qs, .int .i64 qk, .string qt, .float .f64 qb, .int .i64 qi, .int .i64 c0, .float .f64 b0, .string tx, v, .slice none 0 0, .slice none 0 0, .slice none 0 0] 35 (0, 0)) ∧ Keep (fun k => k = p ∨ k = q) w4 wc))
  case first =>
    go_wp2_with fail
    go_loopw [8] (fun i wr => ∃ k : Nat, ∃ acc : List Int, ∃ s' : R, ∃ v : Value, k ≤ n1 ∧ i = .int .i64 ((n1 : Int) - k) ∧ acc.length = k ∧ Hid (Pr (pRep (pNum 1) k) s8 acc s') ∧ Hid (RRd wr p s') ∧ Hid (wr.ownsRow (q + 1) 3 1 v k (intsV acc)) ∧ Hid (∀ x ∈ acc, i64 x) ∧ Hid (wr.heap[q]? = some (.cells #[.int .i64 (k0 : Int), .int .i64 (e0 : Int), .int .i64 (v0 : Int), .int .i64 (l0 : Int), .int .i64 qc, .int .i64 qs, .int .i64 qk, .string qt, .float .f64 qb, .int .i64 qi, .int .i64 c0, .float .f64 b0, .string tx, v, .slice none 0 0, .slice none 0 0, .slice none 0 0] 35 (0, 0))) ∧ Hid (Keep (fun k => k = p ∨ k = q) w4 wr)) (fun i _ => (intOf i).toNat)
    case atStart => exact ⟨0, [], s8, _, by omega, by simp, rfl, Lib.hid (Pr.ret _ _), R20, Lib.hid (World.ownsRow_nil _ _ _ _), Lib.hid (fun _ h => by cases h), KC20, Q20⟩
    case round =>
      clear R20 Q20 KC20 hsz20
      obtain ⟨k, acc, s', v, hk, rfl, hacc, HP, HR, HO, HI, HC, HK⟩ := hrel
      have hsz := HK.out.size
      by_cases hlk : k < n1
      · have hd : decide ((0 : Int) < (n1 : Int) - (k : Int)) = true := by simp; omega
        have y0 := rrd_flag HR.out
        cases hb : s'.bad with
        | true =>
          rw [hb] at y0
          have FR1 := Lib.hid (show ∃ (acc : List Int) (s' : R) (v : Value), acc.length ≤ 255 ∧ Pr (pRep (pNum 1) n1) s8 acc s' ∧ RRd wr p s' ∧ wr.ownsRow (q + 1) 3 1 v acc.length (intsV acc) ∧ (∀ x ∈ acc, i64 x) ∧ wr.heap[q]? = some (.cells #[.int .i64 (k0 : Int), .int .i64 (e0 : Int), .int .i64 (v0 : Int), .int .i64 (l0 : Int), .int .i64 qc, .int .i64 qs, .int .i64 qk, .string qt, .float .f64 qb, .int .i64 qi, .int .i64 c0, .float .f64 b0, .string tx, v, .slice none 0 0, .slice none 0 0, .slice none 0 0] 35 (0, 0)) ∧ Keep (fun k => k = p ∨ k = q) w4 wr from ⟨acc, s', v, by omega, Pr.dead (No.rep HP.out (No.bad hb) hlk) hb, HR.out, by rw [hacc]; exact HO.out, HI.out, HC.out, HK.out⟩)
          go_wp2_with fail
          go_meet
          case rel => exact FR1
        | false =>
          rw [hb] at y0
          have y1 : wr.cell? ⟨q, 13, none⟩ = some v := by rw [blk_cell HC.out]; rfl
          have hqr := blk_lt HC.out
          have HP' := Lib.hid (HP.out.snoc (pr_num s' 1))
          have HI' := Lib.hid (show ∀ x ∈ acc ++ [((rVal s' 1 : Nat) : Int)], i64 x from fun x hx => by
            rcases List.mem_append.1 hx with hx | hx
            · exact HI.out x hx
            · rw [List.mem_singleton] at hx; subst hx; exact rVal_i64 s' 1 (by decide))
          have CB := Lib.hid (fun (u : World) (hu : u.heap = wr.heap) => rrnum_got p s' 1 u (rrd_same HR.out (by rw [hu])) (by decide))
          have HKQ := Lib.hid (fun (u w6 : World) (hu : u.heap = wr.heap) (ho : Keep (fun k => k = p) u w6) => ((ho.block q (by rw [hu]; exact hqr) (by omega)).trans ((congrArg (fun h => h[q]?) hu).trans HC.out)))
          have HOW := Lib.hid (fun (u w6 : World) (hu : u.heap = wr.heap) (ho : Keep (fun k => k = p) u w6) => (owns_keep (owns_heap HO.out hu) ho (fun k hk hc => by have := (HO.out.lt k hk).1; omega) : w6.ownsRow (q + 1) 3 1 v k (intsV acc)))
          have HOL := Lib.hid (fun k hk => (HO.out.lt k hk))
          have HSZ := Lib.hid (show q + 1 ≤ wr.heap.size by omega)
          have hsub : IntKind.i64.wrap ((n1 : Int) - (k : Int) - 1) = (n1 : Int) - ((k + 1 : Nat) : Int) := by rw [IntWalk.i64_in _ (by omega)]; omega
          generalize rVal s' 1 = x at *
          generalize rNext s' 1 = s2 at *
          go_upto_region 15 with (fail)
          go_region_law (first | (refine step_calls rfl 30 #[.pointer (some ⟨p, 0, none⟩), .int .i64 1] (by go_simp) (CB.out _ rfl) ?_; rintro e' w6 ⟨rfl, hr6, ho6⟩; refine ⟨_, rfl, ?_⟩; have k6 := Lib.hid (HKQ.out wr.drew w6 rfl ho6); have y6 : w6.cell? ⟨q, 13, none⟩ = some v := (by rw [blk_cell k6.out]; rfl); have y7 : ∀ o, (w6.alloc o).cell? ⟨q, 13, none⟩ = some v := fun o => (by rw [blk_cell (blk_below k6.out (below_alloc w6 o))]; rfl); have own6 := Lib.hid (HOW.out wr.drew w6 rfl ho6); have l6 := Lib.hid ho6.size; have O6 := Lib.hid ho6; have R6 := Lib.hid hr6; clear ho6 hr6) | (refine step_append_lies _ rfl (.tmp 60) (.tmp 63) 30 rfl (q + 1) 3 ii (.int .i64 0) 1 8 Tryz.underlying30 hi hz0' hz1' hz2' rfl (by decide) v k (intsV acc) (by rfl) (by exact owns_below own6.out (below_alloc _ _)) ⟨w6.heap.size, 0, none⟩ 1 1 [.int .i64 x] (by rfl) rfl (by exact cell_one_new _ _ _) (by simp [Value.oneCell']) (by decide) (by simp only [maxLen]; omega) (by omega) (by have := l6.out; have := HSZ.out; simp at *; omega) _ rfl ?_; intro g cap w8 hown8 hg8 hor8 hlt8; have kc8 := Lib.hid ((hg8.block q (by have := l6.out; have := HSZ.out; simp at *; omega) (fun hc => by have := (HOL.out q hc.symm).1; omega)).trans (blk_below k6.out (below_alloc w6 _))); have m8 : w8.cell? ⟨q, 13, none⟩ = some v := (by rw [blk_cell kc8.out]; rfl); have m9 : w8.frozen? ⟨q, 13, none⟩ = false := blk_frozen kc8.out 13))
          all_goals
            have K6 := HK.out.trans (keep_mono14 (Y := fun k => k = p ∨ k = q) (keep_then (Keep.of_below (below_drewN (Below.refl _ _) 1)) O6.out) (fun k h => .inl h)) (fun _ _ h => h)
            have hqo : ∀ g0, v.ownBlock = some g0 → q + 1 ≤ g0 ∧ g0 < wr.heap.size := HOL.out
            have hs6 := l6.out
            have hs7 : wr.heap.size ≤ w6.heap.size := hs6
            have FC := Lib.hid (show (w8.setCell ⟨q, 13, none⟩ (.slice (some ⟨g, 0, none⟩) (k + 1) cap)).heap[q]? = some (.cells #[.int .i64 (k0 : Int), .int .i64 (e0 : Int), .int .i64 (v0 : Int), .int .i64 (l0 : Int), .int .i64 qc, .int .i64 qs, .int .i64 qk, .string qt, .float .f64 qb, .int .i64 qi, .int .i64 c0, .float .f64 b0, .string tx, .slice (some ⟨g, 0, none⟩) (k + 1) cap, .slice none 0 0, .slice none 0 0, .slice none 0 0] 35 (0, 0)) from (blk_set kc8.out 13 (.slice (some ⟨g, 0, none⟩) (k + 1) cap)).trans (by simp only [List.setIfInBounds_toArray, List.set_cons_succ, List.set_cons_zero]))
            have FK := Lib.hid (Keep.set (Keep.grown (K6.alloc (.cells #[.int .i64 (x : Int)] 3)) hg8 (fun g0 hg => .inl (by have := hqo g0 hg; omega))) (.inr (.inr rfl)) 13 (.slice (some ⟨g, 0, none⟩) (k + 1) cap))
            have FR := Lib.hid (rrd_put (rrd_same (rrd_old R6.out (below_alloc w6 (.cells #[.int .i64 (x : Int)] 3))) (hg8.block p (by simp; omega) (fun hc => by have := hqo p hc.symm; omega))) 13 (.slice (some ⟨g, 0, none⟩) (k + 1) cap) (show ¬ q = p by omega))
            have FO := Lib.hid (show (w8.setCell ⟨q, 13, none⟩ (.slice (some ⟨g, 0, none⟩) (k + 1) cap)).ownsRow (q + 1) 3 1 (.slice (some ⟨g, 0, none⟩) (k + 1) cap) (k + 1) (intsV (acc ++ [(x : Int)])) from by rw [show intsV (acc ++ [(x : Int)]) = intsV acc ++ [.int .i64 (x : Int)] by simp [intsV]]; exact owns_setlow hown8 (by omega) 13 _)
            clear K6 kc8 m8 m9 hown8 hg8 hor8 own6 k6 y6 y7
            go_wp2_with fail
            go_roundw
            case rel => exact ⟨k + 1, acc ++ [(x : Int)], s2, _, by omega, by first | rfl | go_num | omega, by simp [hacc], HP', FR, FO, HI', FC, FK⟩
            case measure => simp [intOf]; omega
      · have hd : decide ((0 : Int) < (n1 : Int) - (k : Int)) = false := by simp; omega
        obtain rfl : k = n1 := by omega
        have FR1 := Lib.hid (show ∃ (acc : List Int) (s' : R) (v : Value), acc.length ≤ 255 ∧ Pr (pRep (pNum 1) k) s8 acc s' ∧ RRd wr p s' ∧ wr.ownsRow (q + 1) 3 1 v acc.length (intsV acc) ∧ (∀ x ∈ acc, i64 x) ∧ wr.heap[q]? = some (.cells #[.int .i64 (k0 : Int), .int .i64 (e0 : Int), .int .i64 (v0 : Int), .int .i64 (l0 : Int), .int .i64 qc, .int .i64 qs, .int .i64 qk, .string qt, .float .f64 qb, .int .i64 qi, .int .i64 c0, .float .f64 b0, .string tx, v, .slice none 0 0, .slice none 0 0, .slice none 0 0] 35 (0, 0)) ∧ Keep (fun k => k = p ∨ k = q) w4 wr from ⟨acc, s', v, by omega, HP.out, HR.out, by rw [hacc]; exact HO.out, HI.out, HC.out, HK.out⟩)
        go_wp2_with fail
        go_meet
        case rel => exact FR1
  case rest =>
    obtain ⟨nx, s9, v, hnl, hp9, hr9, ho9, hi9, hc9, hk9⟩ := hcut.out
    clear hcut R20 Q20 KC20
    obtain ⟨w22, hw22⟩ : ∃ u : World, u = wc := ⟨_, rfl⟩
    subst hw22
    obtain ⟨nxa, nxc, rfl⟩ := owns_form ho9
    have PN := Lib.hid (show Rob (fun k => k < q + 1 ∨ w22.heap.size ≤ k) (fun u => SlAt Sh.int u nxa nx.length nxc nx) w22 from fun u hu => ints_row (owns_keep ho9 hu (fun g hg hc => by have := ho9.lt g hg; omega)) rfl hi9 (by omega))
    have T22 := Lib.hid (fun (h : E = 0) => (T20.out h).step hp9)
    have R22 := Lib.hid hr9; have Q22 := Lib.hid hk9; have KC22 := Lib.hid hc9
    clear hp9 hr9 ho9 hi9 hc9 hk9 T20
    generalize hN1 : nx.length = N1 at *
    have C22 := Lib.hid (rgetsigs_any p s9 w22 R22.out)
    have hsz22 := Q22.out.size
    go_wp2_with fail
    refine C22.out.mono ?_
    rintro e w23 ⟨ho, sg, s10, cs, rfl, hpr, hr, hE⟩
    obtain ⟨sga, sgn, sgc, rfl, hS⟩ := rob_slice hE
    have T24 := Lib.hid (fun (h : E = 0) => (T22.out h).step hpr)
    have hz23 := ho.size
    have kc := (ho.block _ (blk_lt KC22.out) (by omega)).trans KC22.out
    obtain ⟨w24, hw⟩ : ∃ u, u = w23.setCell ⟨q, 14, none⟩ (.slice sga sgn sgc) := ⟨_, rfl⟩
    have e1 : w23.cell? ⟨q, 14, none⟩ = some (.slice none 0 0) := by rw [blk_cell kc]; rfl
    have e2 : w23.frozen? ⟨q, 14, none⟩ = false := blk_frozen kc 14
    have KC24 := Lib.hid (show w24.heap[q]? = some (.cells #[.int .i64 (k0 : Int), .int .i64 (e0 : Int), .int .i64 (v0 : Int), .int .i64 (l0 : Int), .int .i64 qc, .int .i64 qs, .int .i64 qk, .string qt, .float .f64 qb, .int .i64 qi, .int .i64 c0, .float .f64 b0, .string tx, .slice nxa N1 nxc, .slice sga sgn sgc, .slice none 0 0, .slice none 0 0] 35 (0, 0)) by rw [hw]; exact (blk_set kc 14 (.slice sga sgn sgc)).trans (by simp only [List.setIfInBounds_toArray, List.set_cons_succ, List.set_cons_zero]))
    have KK24 := Lib.hid (show Keep (fun k => k = p ∨ k = q) w22 w24 by rw [hw]; exact Keep.set (keep_mono14 (Y := fun k => k = p ∨ k = q) ho (fun k h => .inl h)) (.inr (.inr rfl)) 14 (.slice sga sgn sgc))
    have Q24 := Lib.hid (Q22.out.trans KK24.out (fun _ _ h => h))
    have R24 := Lib.hid (show RRd w24 p s10 by rw [hw]; exact rrd_put hr 14 (.slice sga sgn sgc) (by omega))
    have PN24 := Lib.hid (PN.out.step (X' := fun k => k < q + 1 ∨ w22.heap.size ≤ k) KK24.out (fun k _ hk => .inl (by omega)) (fun _ _ h => h))
    have hS24 : Rob (fun k => k < w22.heap.size ∨ w23.heap.size ≤ k) (fun u => SlAt shSig u sga sgn sgc sg) w24 := by rw [hw]; exact hS.step (Keep.set (Keep.refl (fun k => k = q) w23) (.inr rfl) 14 (.slice sga sgn sgc)) (fun k _ hk => by show k < w22.heap.size; omega) (fun k _ hk => by show k < w22.heap.size; omega)
    have PS24 := Lib.hid hS24
    have hsz23 : w24.heap.size = w23.heap.size := by rw [hw]; simp [World.setCell]
    have HB24 := Lib.hid (show q + 1 ≤ w22.heap.size ∧ w23.heap.size ≤ w24.heap.size from ⟨by omega, by omega⟩)
    clear hr ho kc C22 R22 Q22 KC22 T22 hE hS hS24 hpr PN KK24
    simp only [oneF, List.headD_cons]
    go_upto_region 17 with (fail)
    rw [← hw]
    clear hw e1 e2
    have hlt24 := rVal_lt s10 1
    have C24 := Lib.hid (rrnum_got p s10 1 w24 R24.out (by decide))
    have T25 := Lib.hid (fun (h : E = 0) => (T24.out h).on (x := ((rVal s10 1 : Nat) : Int)) (pr_num s10 1) rfl)
    generalize rNext s10 1 = s11 at *
    generalize rVal s10 1 = n2 at *
    have hN25 : n2 ≤ 255 := by omega
    go_wp2_with fail
    refine C24.out.mono ?_
    rintro e w25 ⟨rfl, hr, ho⟩
    have KC25 := Lib.hid ((ho.block _ (blk_lt KC24.out) (by omega)).trans KC24.out)
    have Q25 := Lib.hid (Q24.out.trans (keep_mono14 (Y := fun k => k = p ∨ k = q) ho (fun k h => .inl h)) (fun _ _ h => h))
    have R25 := Lib.hid hr
    have QC25 := Lib.hid (keep_mono14 (Y := fun k => k = p ∨ k = q) ho (fun k h => .inl h))
    have hsz25 := ho.size
    clear hr ho C24 R24 Q24 KC24 T24 hlt24
    obtain ⟨ii25, hi25, hx25, hy25, hv25⟩ := info_parts info_change
    have HB25 := Lib.hid (show q + 1 ≤ w25.heap.size by have := Q25.out.size; omega)
    go_upto_block 2 with fail
    go_cut [9] (fun _ wc => Hid (∃ (acc : List Ch) (s' : R) (v : Value), acc.length ≤ 255 ∧ (Pr (pRep (pChange false) n2) s11 acc s') ∧ RRd wc p s' ∧ RowIn shChange 86 w25.heap.size wc v acc ∧ wc.heap[q]? = some (.cells #[.int .i64 (k0 : Int), .int .i64 (e0 : Int), .int .i64 (v0 : Int), .int .i64 (l0 : Int), .int .i64 qc, .int .i64 qs, .int .i64 qk, .string qt, .float .f64 qb, .int .i64 qi, .int .i64 c0, .float .f64 b0, .string tx, .slice nxa N1 nxc, .slice sga sgn sgc, v, .slice none 0 0] 35 (0, 0)) ∧ Keep (fun k => k = p ∨ k = q) w25 wc))
    case first =>
      go_wp2_with fail
      go_loopw [9] (fun i wr => ∃ k : Nat, ∃ acc : List Ch, ∃ s' : R, ∃ v : Value, k ≤ n2 ∧ i = .int .i64 ((n2 : Int) - k) ∧ acc.length = k ∧ Hid (Pr (pRep (pChange false) k) s11 acc s') ∧ Hid (RRd wr p s') ∧ Hid (RowIn shChange 86 w25.heap.size wr v acc) ∧ Hid (wr.heap[q]? = some (.cells #[.int .i64 (k0 : Int), .int .i64 (e0 : Int), .int .i64 (v0 : Int), .int .i64 (l0 : Int), .int .i64 qc, .int .i64 qs, .int .i64 qk, .string qt, .float .f64 qb, .int .i64 qi, .int .i64 c0, .float .f64 b0, .string tx, .slice nxa N1 nxc, .slice sga sgn sgc, v, .slice none 0 0] 35 (0, 0))) ∧ Hid (Keep (fun k => k = p ∨ k = q) w25 wr)) (fun i _ => (intOf i).toNat)
      case atStart => exact ⟨0, [], s11, _, by omega, by simp, rfl, Lib.hid (Pr.ret _ _), R25, Lib.hid RowIn.nil, KC25, Lib.hid (Keep.refl _ _)⟩
      case round =>
        clear R25 KC25
        obtain ⟨k, acc, s', v, hk, rfl, hacc, HP, HR, HO, HC, HK⟩ := hrel
        have hsz := HK.out.size
        have hB := HB25.out
        by_cases hlk : k < n2
        · have hd : decide ((0 : Int) < (n2 : Int) - (k : Int)) = true := by simp; omega
          have y0 := rrd_flag HR.out
          cases hb : s'.bad with
          | true =>
            rw [hb] at y0
            have FR1 := Lib.hid (show ∃ (acc : List Ch) (s' : R) (v : Value), acc.length ≤ 255 ∧ (Pr (pRep (pChange false) n2) s11 acc s') ∧ RRd wr p s' ∧ RowIn shChange 86 w25.heap.size wr v acc ∧ wr.heap[q]? = some (.cells #[.int .i64 (k0 : Int), .int .i64 (e0 : Int), .int .i64 (v0 : Int), .int .i64 (l0 : Int), .int .i64 qc, .int .i64 qs, .int .i64 qk, .string qt, .float .f64 qb, .int .i64 qi, .int .i64 c0, .float .f64 b0, .string tx, .slice nxa N1 nxc, .slice sga sgn sgc, v, .slice none 0 0] 35 (0, 0)) ∧ Keep (fun k => k = p ∨ k = q) w25 wr from ⟨acc, s', v, by omega, Pr.dead (No.rep HP.out (No.bad hb) hlk) hb, HR.out, HO.out, HC.out, HK.out⟩)
            go_wp2_with fail
            go_meet
            case rel => exact FR1
          | false =>
            rw [hb] at y0
            obtain ⟨xs, M, o1, o2, o3, o4⟩ := HO.out
            rw [hacc] at o1
            have y1 : wr.cell? ⟨q, 15, none⟩ = some v := by rw [blk_cell HC.out]; rfl
            have hqr := blk_lt HC.out
            have HL := Lib.hid hacc
            have CS := Lib.hid (fun (u : World) (hu : u.heap = wr.heap) => rgetchange_any p s' u (rrd_same HR.out (by rw [hu])))
            have HKQ := Lib.hid (fun (u w6 : World) (hu : u.heap = wr.heap) (ho : Keep (fun k => k = p) u w6) => ((ho.block q (by rw [hu]; exact hqr) (by omega)).trans ((congrArg (fun h => h[q]?) hu).trans HC.out)))
            have HOW := Lib.hid (fun (u w6 : World) (hu : u.heap = wr.heap) (ho : Keep (fun k => k = p) u w6) => (owns_keep (owns_heap o1 hu) ho (fun k hk hc => by have := (o1.lt k hk).1; omega) : w6.ownsRow w25.heap.size 86 5 v k xs))
            have HOL := Lib.hid (fun k hk => (o1.lt k hk))
            have HO2 := Lib.hid (fun (w9 : World) (ho : Keep (fun k => k = p) wr w9) => (o2.step (X' := fun k => ¬ M k) ho (fun k _ hc hm => by have := (o3 k hm).1; omega) (fun _ _ h => h)))
            have HO3 := Lib.hid o3; have HO4 := Lib.hid o4
            have hsub : IntKind.i64.wrap ((n2 : Int) - (k : Int) - 1) = (n2 : Int) - ((k + 1 : Nat) : Int) := by rw [IntWalk.i64_in _ (by omega)]; omega
            have HPP := Lib.hid (fun y s2 h => HP.out.snoc (x := y) (s2 := s2) h)
            clear HO HP
            clear o1 o2 o3 o4 hacc
            go_upto_region 20 with (fail)
            go_region_law (first | (refine step_calls rfl 35 #[.pointer (some ⟨p, 0, none⟩)] (by go_simp) (CS.out _ rfl) ?_; rintro e w6 ⟨ho6, y, s2, cs, he, hps, hr6, hE6⟩; obtain ⟨sa, sn, sc, rfl, -⟩ := change_open hE6.self; refine ⟨.agg #[.int .i64 y.fr, .int .i64 y.v, .slice sa sn sc, .int .i64 y.sg.1, .string y.sg.2], he, ?_⟩; clear he; have k6 := Lib.hid (HKQ.out wr.drew w6 rfl ho6); have y6 : w6.cell? ⟨q, 15, none⟩ = some v := (by rw [blk_cell k6.out]; rfl); have y7 : ∀ o, (w6.alloc o).cell? ⟨q, 15, none⟩ = some v := fun o => (by rw [blk_cell (blk_below k6.out (below_alloc w6 o))]; rfl); have own6 := Lib.hid (HOW.out wr.drew w6 rfl ho6); have l6 := Lib.hid ho6.size; have O6 := Lib.hid ho6; have R6 := Lib.hid hr6; have E6 := Lib.hid hE6; have P6 := Lib.hid hps; clear ho6 hr6 hE6 hps) | (refine step_append_lies _ rfl (.tmp 83) (.tmp 86) 32 rfl w25.heap.size 86 ii25 (.agg #[.int .i64 0, .int .i64 0, .slice none 0 0, .int .i64 0, .string ⟨#[]⟩]) 5 64 Tryz.underlying32 hi25 hx25 hy25 hv25 rfl (by decide) v k xs (by rfl) (by exact owns_old own6.out (below_alloc _ _)) ⟨w6.heap.size, 0, none⟩ 1 1 [.int .i64 y.fr, .int .i64 y.v, .slice sa sn sc, .int .i64 y.sg.1, .string y.sg.2] (by rfl) rfl (by exact World.news_of_block (blk_alloc _ _)) (by simp [Value.oneCell']) (by decide) (by simp only [maxLen]; omega) (by omega) (by have := l6.out; simp at *; omega) _ rfl ?_; intro g cap w8 hown8 hg8 hor8 hlt8; have kc8 := Lib.hid ((hg8.block q (by have := l6.out; simp at *; omega) (fun hc => by have := (HOL.out q hc.symm).1; omega)).trans (blk_below k6.out (below_alloc w6 _))); have m8 : w8.cell? ⟨q, 15, none⟩ = some v := (by rw [blk_cell kc8.out]; rfl); have m9 : w8.frozen? ⟨q, 15, none⟩ = false := blk_frozen kc8.out 15))
            all_goals
              have O7 := keep_then (Keep.of_below (below_drewN (Below.refl wr.heap.size wr) 1)) O6.out
              have K6 := HK.out.trans (keep_mono14 (Y := fun k => k = p ∨ k = q) O7 (fun k h => .inl h)) (fun _ _ h => h)
              have hqo : ∀ g0, v.ownBlock = some g0 → w25.heap.size ≤ g0 ∧ g0 < wr.heap.size := HOL.out
              have hs7 : wr.heap.size ≤ w6.heap.size := l6.out
              have hs8 : (w6.alloc (.cells #[.int .i64 y.fr, .int .i64 y.v, .slice sa sn sc, .int .i64 y.sg.1, .string y.sg.2] 86)).heap.size = w6.heap.size + 1 := by simp
              have FC := Lib.hid (show (w8.setCell ⟨q, 15, none⟩ (.slice (some ⟨g, 0, none⟩) (k + 1) cap)).heap[q]? = some (.cells #[.int .i64 (k0 : Int), .int .i64 (e0 : Int), .int .i64 (v0 : Int), .int .i64 (l0 : Int), .int .i64 qc, .int .i64 qs, .int .i64 qk, .string qt, .float .f64 qb, .int .i64 qi, .int .i64 c0, .float .f64 b0, .string tx, .slice nxa N1 nxc, .slice sga sgn sgc, .slice (some ⟨g, 0, none⟩) (k + 1) cap, .slice none 0 0] 35 (0, 0)) from (blk_set kc8.out 15 (.slice (some ⟨g, 0, none⟩) (k + 1) cap)).trans (by simp only [List.setIfInBounds_toArray, List.set_cons_succ, List.set_cons_zero]))
              have FK := Lib.hid (Keep.set (Keep.grown (K6.alloc (.cells #[.int .i64 y.fr, .int .i64 y.v, .slice sa sn sc, .int .i64 y.sg.1, .string y.sg.2] 86)) hg8 (fun g0 hg => .inl (hqo g0 hg).1)) (.inr (.inr rfl)) 15 (.slice (some ⟨g, 0, none⟩) (k + 1) cap))
              have FR := Lib.hid (rrd_put (rrd_same (rrd_old R6.out (below_alloc w6 (.cells #[.int .i64 y.fr, .int .i64 y.v, .slice sa sn sc, .int .i64 y.sg.1, .string y.sg.2] 86))) (hg8.block p (by simp; omega) (fun hc => by have := hqo p hc.symm; omega))) 15 (.slice (some ⟨g, 0, none⟩) (k + 1) cap) (show ¬ q = p by omega))
              have RI := RowIn.snoc (S := shChange) (T := 86) (B := w25.heap.size) (w5 := w6.alloc (.cells #[.int .i64 y.fr, .int .i64 y.v, .slice sa sn sc, .int .i64 y.sg.1, .string y.sg.2] 86)) (w8 := w8) (v := v) (v' := .slice (some ⟨g, 0, none⟩) (k + 1) cap) (l := acc) (y := y) (xs := xs) (cs := [.int .i64 y.fr, .int .i64 y.v, .slice sa sn sc, .int .i64 y.sg.1, .string y.sg.2]) (M := M) (E0 := wr.heap.size) (E1 := w6.heap.size) (by rw [HL.out]; exact owns_old own6.out (below_alloc _ _)) ((HO2.out w6 O7).step (X' := fun k => ¬ M k) (Keep.of_below (X := fun _ => False) (below_alloc _ _)) (fun _ _ h => h.elim) (fun _ _ h => h)) (fun g0 hg => ⟨(HO3.out g0 hg).1, by have := (HO3.out g0 hg).2; omega⟩) (fun g0 hg => ⟨HO4.out g0 hg, by have := (hqo g0 hg).2; omega⟩) rfl (E6.out.step (X' := fun k => k < wr.heap.size ∨ w6.heap.size ≤ k) (Keep.of_below (X := fun _ => False) (below_alloc _ _)) (fun _ _ h => h.elim) (fun g0 hg hx => by show g0 < wr.heap.size; omega)) (by have := hB; omega) (by omega) (by rw [HL.out]; exact hown8) hg8 (hor8.elim (fun h => .inl (show some g = v.ownBlock from h.symm)) (fun h => .inr (congrArg some h)))
              have FI := Lib.hid (RI.keep (Keep.set (Keep.refl (fun k => k = q) w8) (.inr rfl) 15 (.slice (some ⟨g, 0, none⟩) (k + 1) cap)) (fun k hk => by omega))
              have FP := Lib.hid (HPP.out _ _ P6.out)
              have FL := HL.out
              clear O7 K6 RI kc8 m8 m9 hown8 hg8 hor8 own6 k6 y6 y7 hs8 E6 O6 R6 P6 
              go_wp2_with fail
              go_roundw
              case rel => exact ⟨k + 1, _, s2, _, by omega, by first | rfl | go_num | omega, by simp [FL], FP, FR, FI, FC, FK⟩
              case measure => simp [intOf]; omega
        · have hd : decide ((0 : Int) < (n2 : Int) - (k : Int)) = false := by simp; omega
          obtain rfl : k = n2 := by omega
          have FR1 := Lib.hid (show ∃ (acc : List Ch) (s' : R) (v : Value), acc.length ≤ 255 ∧ (Pr (pRep (pChange false) k) s11 acc s') ∧ RRd wr p s' ∧ RowIn shChange 86 w25.heap.size wr v acc ∧ wr.heap[q]? = some (.cells #[.int .i64 (k0 : Int), .int .i64 (e0 : Int), .int .i64 (v0 : Int), .int .i64 (l0 : Int), .int .i64 qc, .int .i64 qs, .int .i64 qk, .string qt, .float .f64 qb, .int .i64 qi, .int .i64 c0, .float .f64 b0, .string tx, .slice nxa N1 nxc, .slice sga sgn sgc, v, .slice none 0 0] 35 (0, 0)) ∧ Keep (fun k => k = p ∨ k = q) w25 wr from ⟨acc, s', v, by omega, HP.out, HR.out, HO.out, HC.out, HK.out⟩)
          go_wp2_with fail
          go_meet
          case rel => exact FR1
    case rest =>
      skip
      obtain ⟨chs, s12, v, hnl, hp9, hr9, ho9, hc9, hk9⟩ := hcut.out
      clear hcut R25 KC25
      obtain ⟨w26, hww⟩ : ∃ u : World, u = wc := ⟨_, rfl⟩
      subst hww
      obtain ⟨cha, N2, chc, rfl, hvn⟩ := ho9.form
      have PCH := Lib.hid (ho9.rob hvn.symm (show N2 * 64 ≤ 140737488355328 by omega))
      have Q26 := Lib.hid (Q25.out.trans hk9 (fun _ _ h => h))
      have QK26 := Lib.hid hk9
      have R26 := Lib.hid hr9; have KC26 := Lib.hid hc9
      have T26 := Lib.hid (fun (h : E = 0) => (T25.out h).step hp9)
      clear hp9 hr9 ho9 hc9 hk9 T25
      have hlt26 := rVal_lt s12 1
      have C26 := Lib.hid (rrnum_got p s12 1 w26 R26.out (by decide))
      have T27 := Lib.hid (fun (h : E = 0) => (T26.out h).on (x := ((rVal s12 1 : Nat) : Int)) (pr_num s12 1) rfl)
      generalize rNext s12 1 = s13 at *
      generalize rVal s12 1 = n3 at *
      have hN27 : n3 ≤ 255 := by omega
      go_wp2_with fail
      refine C26.out.mono ?_
      rintro e w27 ⟨rfl, hr, ho⟩
      have KC27 := Lib.hid ((ho.block _ (blk_lt KC26.out) (by omega)).trans KC26.out)
      have Q27 := Lib.hid (Q26.out.trans (keep_mono14 (Y := fun k => k = p ∨ k = q) ho (fun k h => .inl h)) (fun _ _ h => h))
      have R27 := Lib.hid hr
      have QC27 := Lib.hid (keep_mono14 (Y := fun k => k = p ∨ k = q) ho (fun k h => .inl h))
      have hsz27 := ho.size
      clear hr ho C26 R26 Q26 KC26 T26 hlt26
      obtain ⟨ii27, hi27, hx27, hy27, hv27⟩ := info_parts info_link13
      have HB27 := Lib.hid (show q + 1 ≤ w27.heap.size by have := Q27.out.size; omega)
      go_upto_block 4 with fail
      go_cut [7, 10] (fun e7 _ wc => ∃ ev : Int, e7 = .int .i64 ev ∧ Hid (∃ (acc : List Lk) (s' : R) (v : Value), acc.length ≤ 255 ∧ ((ev = 0 → E = 0 ∧ Pr (pRep (pLink false) n3) s13 acc s') ∧ (¬ ev = 0 → readMg t = none)) ∧ RRd wc p s' ∧ RowIn shLink 93 w27.heap.size wc v acc ∧ wc.heap[q]? = some (.cells #[.int .i64 (k0 : Int), .int .i64 (e0 : Int), .int .i64 (v0 : Int), .int .i64 (l0 : Int), .int .i64 qc, .int .i64 qs, .int .i64 qk, .string qt, .float .f64 qb, .int .i64 qi, .int .i64 c0, .float .f64 b0, .string tx, .slice nxa N1 nxc, .slice sga sgn sgc, .slice cha N2 chc, v] 35 (0, 0)) ∧ Keep (fun k => k = p ∨ k = q) w27 wc))
      case first =>
        go_wp2_with fail
        go_loopw [7, 10] (fun e7 i wr => ∃ ev : Int, e7 = .int .i64 ev ∧ ∃ k : Nat, ∃ acc : List Lk, ∃ s' : R, ∃ v : Value, k ≤ n3 ∧ i = .int .i64 ((n3 : Int) - k) ∧ acc.length = k ∧ Hid ((ev = 0 → E = 0 ∧ Pr (pRep (pLink false) k) s13 acc s') ∧ (¬ ev = 0 → readMg t = none)) ∧ Hid (RRd wr p s') ∧ Hid (RowIn shLink 93 w27.heap.size wr v acc) ∧ Hid (wr.heap[q]? = some (.cells #[.int .i64 (k0 : Int), .int .i64 (e0 : Int), .int .i64 (v0 : Int), .int .i64 (l0 : Int), .int .i64 qc, .int .i64 qs, .int .i64 qk, .string qt, .float .f64 qb, .int .i64 qi, .int .i64 c0, .float .f64 b0, .string tx, .slice nxa N1 nxc, .slice sga sgn sgc, .slice cha N2 chc, v] 35 (0, 0))) ∧ Hid (Keep (fun k => k = p ∨ k = q) w27 wr)) (fun _ i _ => (intOf i).toNat)
        case atStart => exact ⟨E, rfl, 0, [], s13, _, by omega, by simp, rfl, Lib.hid ⟨fun h => ⟨h, Pr.ret _ _⟩, NE.out⟩, R27, Lib.hid RowIn.nil, KC27, Lib.hid (Keep.refl _ _)⟩
        case round =>
          clear R27 KC27
          obtain ⟨ev, rfl, k, acc, s', v, hk, rfl, hacc, HP, HR, HO, HC, HK⟩ := hrel
          have hsz := HK.out.size
          have hB := HB27.out
          by_cases hlk : k < n3
          · have hd : decide ((0 : Int) < (n3 : Int) - (k : Int)) = true := by simp; omega
            have y0 := rrd_flag HR.out
            cases hb : s'.bad with
            | true =>
              rw [hb] at y0
              have FR1 := Lib.hid (show ∃ (acc : List Lk) (s' : R) (v : Value), acc.length ≤ 255 ∧ ((ev = 0 → E = 0 ∧ Pr (pRep (pLink false) n3) s13 acc s') ∧ (¬ ev = 0 → readMg t = none)) ∧ RRd wr p s' ∧ RowIn shLink 93 w27.heap.size wr v acc ∧ wr.heap[q]? = some (.cells #[.int .i64 (k0 : Int), .int .i64 (e0 : Int), .int .i64 (v0 : Int), .int .i64 (l0 : Int), .int .i64 qc, .int .i64 qs, .int .i64 qk, .string qt, .float .f64 qb, .int .i64 qi, .int .i64 c0, .float .f64 b0, .string tx, .slice nxa N1 nxc, .slice sga sgn sgc, .slice cha N2 chc, v] 35 (0, 0)) ∧ Keep (fun k => k = p ∨ k = q) w27 wr from ⟨acc, s', v, by omega, ⟨fun h => ⟨(HP.out.1 h).1, Pr.dead (No.rep (HP.out.1 h).2 (No.bad hb) hlk) hb⟩, HP.out.2⟩, HR.out, HO.out, HC.out, HK.out⟩)
              go_wp2_with fail
              go_meet
              case rel => exact ⟨ev, rfl, FR1⟩
            | false =>
              rw [hb] at y0
              have CT := Lib.hid (rrtext_got p s' wr HR.out)
              have CQ0 : ∀ u, Calls Tryz.prog 36 #[.string ⟨(tVal s').toArray⟩] u (fun e w' => ∃ a n c, e = .returned (.tuple #[.agg #[.int .i64 (readE (tVal s')), .slice a n c], .int .i64 (readC (tVal s'))]) ∧ IntsAt w' a n (readL (tVal s')) ∧ Below u.heap.size u w' ∧ w'.ownsRow u.heap.size 3 1 (.slice a n c) n (intsV (readL (tVal s')))) :=
                fun u => rread_own ⟨(tVal s').toArray⟩ u (by have := tValLen s'; simp only [ByteArray.size, List.size_toArray]; omega)
              have CQ := Lib.hid CQ0
              have HIE := Lib.hid (readE_i64 (tVal s'))
              have HLL := Lib.hid (readL_small (tVal s'))
              have LP := Lib.hid (fun sg s2 hc hs => pr_linkR (s := s') (s1 := s2) (sg := sg) hc hs)
              have LN := Lib.hid (fun hc => no_linkR (s := s') hc)
              clear CQ0
              generalize readE (tVal s') = ce at *
              generalize readL (tVal s') = L at *
              generalize readC (tVal s') = cf at *
              generalize (⟨(tVal s').toArray⟩ : ByteArray) = LT at *
              generalize tNext s' = s1' at *
              go_wp2_with fail
              refine CT.out.mono ?_
              rintro e u3 ⟨rfl, hr3, ho3⟩
              have R3 := Lib.hid hr3
              have O3 := Lib.hid ho3
              clear hr3 ho3 CT y0
              go_wp2_with fail
              refine (CQ.out u3).mono ?_
              rintro e u4 ⟨ra, rn, rc, rfl, hint, b4, hown⟩
              obtain ⟨u5, hw5⟩ : ∃ u, u = u4.alloc (.cells #[.int .i64 ce, .slice ra rn rc] 89 (0, 0)) := ⟨_, rfl⟩
              have b5 : Below u4.heap.size u4 u5 := by rw [hw5]; exact below_alloc _ _
              have hu5 : u5.heap.size = u4.heap.size + 1 := by rw [hw5]; simp
              have KX := Lib.hid (show u5.heap[u4.heap.size]? = some (.cells #[.int .i64 ce, .slice ra rn rc] 89 (0, 0)) by rw [hw5]; exact blk_alloc _ _)
              have R5 := Lib.hid (rrd_old (rrd_old R3.out b4) b5)
              have O5 := Lib.hid (keep_then O3.out (Keep.of_below (bthen b4 b5)))
              have HK5 := Lib.hid (HK.out.trans (keep_mono14 (Y := fun k => k = p ∨ k = q) O5.out (fun k h => .inl h)) (fun _ _ h => h))
              have HC5 := Lib.hid ((O5.out.block _ (blk_lt HC.out) (by omega)).trans HC.out)
              have HOWN := Lib.hid (owns_old hown b5)
              have HINT := Lib.hid (show (∀ x ∈ L, i64 x) ∧ L.length = rn from ⟨hint.fit, hint.len⟩)
              have HIN := Lib.hid (show rn ≤ 100 from by rw [← hint.len]; exact HLL.out)
              have HU5 := Lib.hid (show wr.heap.size ≤ u3.heap.size ∧ u3.heap.size ≤ u4.heap.size ∧ u5.heap.size = u4.heap.size + 1 ∧ p < wr.heap.size from ⟨O3.out.size, b4.size, hu5, rrd_in HR.out⟩)
              have hcb : wr.heap.size ≤ u4.heap.size := by have := HU5.out; omega
              have hpw := rrd_in HR.out
              clear hint b4 b5 hown R3 O3 CQ
              obtain ⟨xs, M, o1w, o2w, o3w, o4w⟩ := HO.out
              rw [hacc] at o1w
              have HOLW := Lib.hid (fun k hk => (o1w.lt k hk))
              have o1 := owns_keep o1w O5.out (fun k hk hc => by have := (o1w.lt k hk).1; omega)
              have o2 := o2w.step (X' := fun k => ¬ M k) O5.out (fun k _ hc hm => by have := (o3w k hm).1; omega) (fun _ _ h => h)
              have o3 : ∀ k, M k → w27.heap.size ≤ k ∧ k < u5.heap.size := fun k hm => ⟨(o3w k hm).1, Nat.lt_of_lt_of_le (o3w k hm).2 O5.out.size⟩
              have o4 := o4w
              clear o1w o2w o3w o4w
              go_upto_region 25 with (fail)
              rw [← hw5]
              clear hw5
              generalize u4.heap.size = cb at *
              by_cases hcf : cf = 0
              · subst hcf
                have y1 : u5.cell? ⟨q, 16, none⟩ = some v := by rw [blk_cell HC5.out]; rfl
                have hqr := blk_lt HC5.out
                have HL := Lib.hid hacc
                have CS := Lib.hid (fun (u : World) (hu : u.heap = u5.heap) => rgetsigs_any p s1' u (rrd_same R5.out (by rw [hu])))
                have HKQ := Lib.hid (fun (u w6 : World) (hu : u.heap = u5.heap) (ho : Keep (fun k => k = p) u w6) => ((ho.block q (by rw [hu]; exact hqr) (by omega)).trans ((congrArg (fun h => h[q]?) hu).trans HC5.out)))
                have HOW := Lib.hid (fun (u w6 : World) (hu : u.heap = u5.heap) (ho : Keep (fun k => k = p) u w6) => (owns_keep (owns_heap o1 hu) ho (fun k hk hc => by have := (o1.lt k hk).1; omega) : w6.ownsRow w27.heap.size 93 3 v k xs))
                have HOL := Lib.hid (fun k hk => (o1.lt k hk))
                have HO2 := Lib.hid (fun (w9 : World) (ho : Keep (fun k => k = p) u5 w9) => (o2.step (X' := fun k => ¬ M k) ho (fun k _ hc hm => by have := (o3 k hm).1; omega) (fun _ _ h => h)))
                have HO3 := Lib.hid o3; have HO4 := Lib.hid o4
                have hsub : IntKind.i64.wrap ((n3 : Int) - (k : Int) - 1) = (n3 : Int) - ((k + 1 : Nat) : Int) := by rw [IntWalk.i64_in _ (by omega)]; omega
                have HPP := Lib.hid (fun y s2 (h : Pr (pSigs false) s1' y s2) => (⟨fun h0 => ⟨(HP.out.1 h0).1, (HP.out.1 h0).2.snoc (LP.out _ _ rfl h)⟩, HP.out.2⟩ : ((ev = 0 → E = 0 ∧ Pr (pRep (pLink false) (k + 1)) s13 (acc ++ [((ce, L), y)]) s2) ∧ (¬ ev = 0 → readMg t = none))))
                have x1 : u5.cell? ⟨cb, 0, none⟩ = some (.int .i64 ce) := by rw [blk_cell KX.out]; rfl
                have x2 : u5.cell? ⟨cb, 1, none⟩ = some (.slice ra rn rc) := by rw [blk_cell KX.out]; rfl
                have hcbl := blk_lt KX.out
                have HKX := Lib.hid (fun (u w6 : World) (hu : u.heap = u5.heap) (ho : Keep (fun k => k = p) u w6) => ((ho.block cb (by rw [hu]; exact hcbl) (by omega)).trans ((congrArg (fun h => h[cb]?) hu).trans KX.out)))
                clear HO HP HC HR HC5 LP LN
                clear o1 o2 o3 o4 hacc
                go_upto_region 27 with (fail)
                go_region_law (first | (refine step_calls rfl 34 #[.pointer (some ⟨p, 0, none⟩)] (by go_simp) (CS.out _ rfl) ?_; rintro e w6 ⟨ho6, y, s2, cs, he, hps, hr6, hE6⟩; obtain ⟨sa, sn, sc, rfl, hS6⟩ := rob_slice hE6; refine ⟨.slice sa sn sc, he, ?_⟩; clear he; have k6 := Lib.hid (HKQ.out u5.drew w6 rfl ho6); have y6 : w6.cell? ⟨q, 16, none⟩ = some v := (by rw [blk_cell k6.out]; rfl); have y7 : ∀ o, (w6.alloc o).cell? ⟨q, 16, none⟩ = some v := fun o => (by rw [blk_cell (blk_below k6.out (below_alloc w6 o))]; rfl); have S6 := Lib.hid hS6; clear hS6; have kx6 := Lib.hid (HKX.out u5.drew w6 rfl ho6); have z1 : w6.cell? ⟨cb, 0, none⟩ = some (.int .i64 ce) := (by rw [blk_cell kx6.out]; rfl); have z2 : w6.cell? ⟨cb, 1, none⟩ = some (.slice ra rn rc) := (by rw [blk_cell kx6.out]; rfl); have z3 : ∀ o, (w6.alloc o).cell? ⟨cb, 0, none⟩ = some (.int .i64 ce) := fun o => (by rw [blk_cell (blk_below kx6.out (below_alloc w6 o))]; rfl); have z4 : ∀ o, (w6.alloc o).cell? ⟨cb, 1, none⟩ = some (.slice ra rn rc) := fun o => (by rw [blk_cell (blk_below kx6.out (below_alloc w6 o))]; rfl); have own6 := Lib.hid (HOW.out u5.drew w6 rfl ho6); have l6 := Lib.hid ho6.size; have O6 := Lib.hid ho6; have R6 := Lib.hid hr6; have E6 := Lib.hid hE6; have P6 := Lib.hid hps; clear ho6 hr6 hE6 hps) | (refine step_append_lies _ rfl (.tmp 112) (.tmp 117) 33 rfl w27.heap.size 93 ii27 (.agg #[.int .i64 0, .slice none 0 0, .slice none 0 0]) 3 56 Tryz.underlying33 hi27 hx27 hy27 hv27 rfl (by decide) v k xs (by rfl) (by exact owns_old own6.out (below_alloc _ _)) ⟨w6.heap.size, 0, none⟩ 1 1 [.int .i64 ce, .slice ra rn rc, .slice sa sn sc] (by rfl) rfl (by exact World.news_of_block (blk_alloc _ _)) (by simp [Value.oneCell']) (by decide) (by simp only [maxLen]; omega) (by omega) (by have := l6.out; simp at *; omega) _ rfl ?_; intro g cap w8 hown8 hg8 hor8 hlt8; have kc8 := Lib.hid ((hg8.block q (by have := l6.out; simp at *; omega) (fun hc => by have := (HOL.out q hc.symm).1; omega)).trans (blk_below k6.out (below_alloc w6 _))); have m8 : w8.cell? ⟨q, 16, none⟩ = some v := (by rw [blk_cell kc8.out]; rfl); have m9 : w8.frozen? ⟨q, 16, none⟩ = false := blk_frozen kc8.out 16))
                all_goals
                  have O7 := keep_then (Keep.of_below (below_drewN (Below.refl u5.heap.size u5) 1)) O6.out
                  have K6 := HK5.out.trans (keep_mono14 (Y := fun k => k = p ∨ k = q) O7 (fun k h => .inl h)) (fun _ _ h => h)
                  have hqo : ∀ g0, v.ownBlock = some g0 → w27.heap.size ≤ g0 ∧ g0 < u5.heap.size := HOL.out
                  have hs7 : u5.heap.size ≤ w6.heap.size := l6.out
                  have hs8 : (w6.alloc (.cells #[.int .i64 ce, .slice ra rn rc, .slice sa sn sc] 93)).heap.size = w6.heap.size + 1 := by simp
                  have FC := Lib.hid (show (w8.setCell ⟨q, 16, none⟩ (.slice (some ⟨g, 0, none⟩) (k + 1) cap)).heap[q]? = some (.cells #[.int .i64 (k0 : Int), .int .i64 (e0 : Int), .int .i64 (v0 : Int), .int .i64 (l0 : Int), .int .i64 qc, .int .i64 qs, .int .i64 qk, .string qt, .float .f64 qb, .int .i64 qi, .int .i64 c0, .float .f64 b0, .string tx, .slice nxa N1 nxc, .slice sga sgn sgc, .slice cha N2 chc, .slice (some ⟨g, 0, none⟩) (k + 1) cap] 35 (0, 0)) from (blk_set kc8.out 16 (.slice (some ⟨g, 0, none⟩) (k + 1) cap)).trans (by simp only [List.setIfInBounds_toArray, List.set_cons_succ, List.set_cons_zero]))
                  have FK := Lib.hid (Keep.set (Keep.grown (K6.alloc (.cells #[.int .i64 ce, .slice ra rn rc, .slice sa sn sc] 93)) hg8 (fun g0 hg => .inl (hqo g0 hg).1)) (.inr (.inr rfl)) 16 (.slice (some ⟨g, 0, none⟩) (k + 1) cap))
                  have FR := Lib.hid (rrd_put (rrd_same (rrd_old R6.out (below_alloc w6 (.cells #[.int .i64 ce, .slice ra rn rc, .slice sa sn sc] 93))) (hg8.block p (by simp; omega) (fun hc => by have := hqo p hc.symm; omega))) 16 (.slice (some ⟨g, 0, none⟩) (k + 1) cap) (show ¬ q = p by omega))
                  have RI := RowIn.snoc (S := shLink) (T := 93) (B := w27.heap.size) (w5 := w6.alloc (.cells #[.int .i64 ce, .slice ra rn rc, .slice sa sn sc] 93)) (w8 := w8) (v := v) (v' := .slice (some ⟨g, 0, none⟩) (k + 1) cap) (l := acc) (y := ((ce, L), y)) (xs := xs) (cs := [.int .i64 ce, .slice ra rn rc, .slice sa sn sc]) (M := M) (E0 := wr.heap.size) (E1 := w6.heap.size) (by rw [HL.out]; exact owns_old own6.out (below_alloc _ _)) ((HO2.out w6 O7).step (X' := fun k => ¬ M k) (Keep.of_below (X := fun _ => False) (below_alloc _ _)) (fun _ _ h => h.elim) (fun _ _ h => h)) (fun g0 hg => ⟨(HO3.out g0 hg).1, by have := (HO3.out g0 hg).2; omega⟩) (fun g0 hg => ⟨HO4.out g0 hg, by have := (hqo g0 hg).2; have := (HOLW.out g0 hg).2; omega⟩) rfl (fun u hu => link_make HIE.out (ints_row (owns_keep (owns_old (owns_keep HOWN.out O7 (fun g0 hg hx => by have := (HOWN.out.lt g0 hg).1; have := HU5.out; omega)) (below_alloc _ _)) hu (fun g0 hg hx => by have h1 := (HOWN.out.lt g0 hg); have h2 := HU5.out; omega)) HINT.out.2 HINT.out.1 (by have := HIN.out; omega)) ((S6.out.step (X' := fun k => k < wr.heap.size ∨ w6.heap.size ≤ k) (Keep.of_below (X := fun _ => False) (below_alloc _ _)) (fun _ _ h => h.elim) (fun g0 hg hx => by show g0 < u5.heap.size; have := HU5.out; omega)) u hu)) (by have := hB; omega) (by omega) (by rw [HL.out]; exact hown8) hg8 (hor8.elim (fun h => .inl (show some g = v.ownBlock from h.symm)) (fun h => .inr (congrArg some h)))
                  have FI := Lib.hid (RI.keep (Keep.set (Keep.refl (fun k => k = q) w8) (.inr rfl) 16 (.slice (some ⟨g, 0, none⟩) (k + 1) cap)) (fun k hk => by omega))
                  have FP := Lib.hid (HPP.out _ _ P6.out)
                  have FL := HL.out
                  clear O7 K6 RI kc8 m8 m9 hown8 hg8 hor8 own6 k6 y6 y7 hs8 E6 O6 R6 P6 kx6 z1 z2 z3 z4 S6
                  go_wp2_with fail
                  go_roundw
                  case rel => exact ⟨ev, rfl, k + 1, _, s2, _, by omega, by first | rfl | go_num | omega, by simp [FL], FP, FR, FI, FC, FK⟩
                  case measure => simp [intOf]; omega
              · have hcc : (cf != 0) = true := by simpa using hcf
                have HNM := Lib.hid (show readMg t = none from by
                  by_cases h0 : ev = 0
                  · exact no_msgF ((T27.out (HP.out.1 h0).1).no (No.rep (HP.out.1 h0).2 (LN.out hcf) hlk))
                  · exact HP.out.2 h0)
                have y1 : u5.cell? ⟨q, 16, none⟩ = some v := by rw [blk_cell HC5.out]; rfl
                have hqr := blk_lt HC5.out
                have HL := Lib.hid hacc
                have CS := Lib.hid (fun (u : World) (hu : u.heap = u5.heap) => rgetsigs_any p s1' u (rrd_same R5.out (by rw [hu])))
                have HKQ := Lib.hid (fun (u w6 : World) (hu : u.heap = u5.heap) (ho : Keep (fun k => k = p) u w6) => ((ho.block q (by rw [hu]; exact hqr) (by omega)).trans ((congrArg (fun h => h[q]?) hu).trans HC5.out)))
                have HOW := Lib.hid (fun (u w6 : World) (hu : u.heap = u5.heap) (ho : Keep (fun k => k = p) u w6) => (owns_keep (owns_heap o1 hu) ho (fun k hk hc => by have := (o1.lt k hk).1; omega) : w6.ownsRow w27.heap.size 93 3 v k xs))
                have HOL := Lib.hid (fun k hk => (o1.lt k hk))
                have HO2 := Lib.hid (fun (w9 : World) (ho : Keep (fun k => k = p) u5 w9) => (o2.step (X' := fun k => ¬ M k) ho (fun k _ hc hm => by have := (o3 k hm).1; omega) (fun _ _ h => h)))
                have HO3 := Lib.hid o3; have HO4 := Lib.hid o4
                have hsub : IntKind.i64.wrap ((n3 : Int) - (k : Int) - 1) = (n3 : Int) - ((k + 1 : Nat) : Int) := by rw [IntWalk.i64_in _ (by omega)]; omega
                have HPP := Lib.hid (fun y s2 (h : Pr (pSigs false) s1' y s2) => (⟨fun h0 => absurd h0 hcf, fun _ => HNM.out⟩ : ((cf = 0 → E = 0 ∧ Pr (pRep (pLink false) (k + 1)) s13 (acc ++ [((ce, L), y)]) s2) ∧ (¬ cf = 0 → readMg t = none))))
                have x1 : u5.cell? ⟨cb, 0, none⟩ = some (.int .i64 ce) := by rw [blk_cell KX.out]; rfl
                have x2 : u5.cell? ⟨cb, 1, none⟩ = some (.slice ra rn rc) := by rw [blk_cell KX.out]; rfl
                have hcbl := blk_lt KX.out
                have HKX := Lib.hid (fun (u w6 : World) (hu : u.heap = u5.heap) (ho : Keep (fun k => k = p) u w6) => ((ho.block cb (by rw [hu]; exact hcbl) (by omega)).trans ((congrArg (fun h => h[cb]?) hu).trans KX.out)))
                clear HO HP HC HR HC5 LP LN
                clear o1 o2 o3 o4 hacc
                go_upto_region 27 with (fail)
                go_region_law (first | (refine step_calls rfl 34 #[.pointer (some ⟨p, 0, none⟩)] (by go_simp) (CS.out _ rfl) ?_; rintro e w6 ⟨ho6, y, s2, cs, he, hps, hr6, hE6⟩; obtain ⟨sa, sn, sc, rfl, hS6⟩ := rob_slice hE6; refine ⟨.slice sa sn sc, he, ?_⟩; clear he; have k6 := Lib.hid (HKQ.out u5.drew w6 rfl ho6); have y6 : w6.cell? ⟨q, 16, none⟩ = some v := (by rw [blk_cell k6.out]; rfl); have y7 : ∀ o, (w6.alloc o).cell? ⟨q, 16, none⟩ = some v := fun o => (by rw [blk_cell (blk_below k6.out (below_alloc w6 o))]; rfl); have S6 := Lib.hid hS6; clear hS6; have kx6 := Lib.hid (HKX.out u5.drew w6 rfl ho6); have z1 : w6.cell? ⟨cb, 0, none⟩ = some (.int .i64 ce) := (by rw [blk_cell kx6.out]; rfl); have z2 : w6.cell? ⟨cb, 1, none⟩ = some (.slice ra rn rc) := (by rw [blk_cell kx6.out]; rfl); have z3 : ∀ o, (w6.alloc o).cell? ⟨cb, 0, none⟩ = some (.int .i64 ce) := fun o => (by rw [blk_cell (blk_below kx6.out (below_alloc w6 o))]; rfl); have z4 : ∀ o, (w6.alloc o).cell? ⟨cb, 1, none⟩ = some (.slice ra rn rc) := fun o => (by rw [blk_cell (blk_below kx6.out (below_alloc w6 o))]; rfl); have own6 := Lib.hid (HOW.out u5.drew w6 rfl ho6); have l6 := Lib.hid ho6.size; have O6 := Lib.hid ho6; have R6 := Lib.hid hr6; have E6 := Lib.hid hE6; have P6 := Lib.hid hps; clear ho6 hr6 hE6 hps) | (refine step_append_lies _ rfl (.tmp 112) (.tmp 117) 33 rfl w27.heap.size 93 ii27 (.agg #[.int .i64 0, .slice none 0 0, .slice none 0 0]) 3 56 Tryz.underlying33 hi27 hx27 hy27 hv27 rfl (by decide) v k xs (by rfl) (by exact owns_old own6.out (below_alloc _ _)) ⟨w6.heap.size, 0, none⟩ 1 1 [.int .i64 ce, .slice ra rn rc, .slice sa sn sc] (by rfl) rfl (by exact World.news_of_block (blk_alloc _ _)) (by simp [Value.oneCell']) (by decide) (by simp only [maxLen]; omega) (by omega) (by have := l6.out; simp at *; omega) _ rfl ?_; intro g cap w8 hown8 hg8 hor8 hlt8; have kc8 := Lib.hid ((hg8.block q (by have := l6.out; simp at *; omega) (fun hc => by have := (HOL.out q hc.symm).1; omega)).trans (blk_below k6.out (below_alloc w6 _))); have m8 : w8.cell? ⟨q, 16, none⟩ = some v := (by rw [blk_cell kc8.out]; rfl); have m9 : w8.frozen? ⟨q, 16, none⟩ = false := blk_frozen kc8.out 16))
                all_goals
                  have O7 := keep_then (Keep.of_below (below_drewN (Below.refl u5.heap.size u5) 1)) O6.out
                  have K6 := HK5.out.trans (keep_mono14 (Y := fun k => k = p ∨ k = q) O7 (fun k h => .inl h)) (fun _ _ h => h)
                  have hqo : ∀ g0, v.ownBlock = some g0 → w27.heap.size ≤ g0 ∧ g0 < u5.heap.size := HOL.out
                  have hs7 : u5.heap.size ≤ w6.heap.size := l6.out
                  have hs8 : (w6.alloc (.cells #[.int .i64 ce, .slice ra rn rc, .slice sa sn sc] 93)).heap.size = w6.heap.size + 1 := by simp
                  have FC := Lib.hid (show (w8.setCell ⟨q, 16, none⟩ (.slice (some ⟨g, 0, none⟩) (k + 1) cap)).heap[q]? = some (.cells #[.int .i64 (k0 : Int), .int .i64 (e0 : Int), .int .i64 (v0 : Int), .int .i64 (l0 : Int), .int .i64 qc, .int .i64 qs, .int .i64 qk, .string qt, .float .f64 qb, .int .i64 qi, .int .i64 c0, .float .f64 b0, .string tx, .slice nxa N1 nxc, .slice sga sgn sgc, .slice cha N2 chc, .slice (some ⟨g, 0, none⟩) (k + 1) cap] 35 (0, 0)) from (blk_set kc8.out 16 (.slice (some ⟨g, 0, none⟩) (k + 1) cap)).trans (by simp only [List.setIfInBounds_toArray, List.set_cons_succ, List.set_cons_zero]))
                  have FK := Lib.hid (Keep.set (Keep.grown (K6.alloc (.cells #[.int .i64 ce, .slice ra rn rc, .slice sa sn sc] 93)) hg8 (fun g0 hg => .inl (hqo g0 hg).1)) (.inr (.inr rfl)) 16 (.slice (some ⟨g, 0, none⟩) (k + 1) cap))
                  have FR := Lib.hid (rrd_put (rrd_same (rrd_old R6.out (below_alloc w6 (.cells #[.int .i64 ce, .slice ra rn rc, .slice sa sn sc] 93))) (hg8.block p (by simp; omega) (fun hc => by have := hqo p hc.symm; omega))) 16 (.slice (some ⟨g, 0, none⟩) (k + 1) cap) (show ¬ q = p by omega))
                  have RI := RowIn.snoc (S := shLink) (T := 93) (B := w27.heap.size) (w5 := w6.alloc (.cells #[.int .i64 ce, .slice ra rn rc, .slice sa sn sc] 93)) (w8 := w8) (v := v) (v' := .slice (some ⟨g, 0, none⟩) (k + 1) cap) (l := acc) (y := ((ce, L), y)) (xs := xs) (cs := [.int .i64 ce, .slice ra rn rc, .slice sa sn sc]) (M := M) (E0 := wr.heap.size) (E1 := w6.heap.size) (by rw [HL.out]; exact owns_old own6.out (below_alloc _ _)) ((HO2.out w6 O7).step (X' := fun k => ¬ M k) (Keep.of_below (X := fun _ => False) (below_alloc _ _)) (fun _ _ h => h.elim) (fun _ _ h => h)) (fun g0 hg => ⟨(HO3.out g0 hg).1, by have := (HO3.out g0 hg).2; omega⟩) (fun g0 hg => ⟨HO4.out g0 hg, by have := (hqo g0 hg).2; have := (HOLW.out g0 hg).2; omega⟩) rfl (fun u hu => link_make HIE.out (ints_row (owns_keep (owns_old (owns_keep HOWN.out O7 (fun g0 hg hx => by have := (HOWN.out.lt g0 hg).1; have := HU5.out; omega)) (below_alloc _ _)) hu (fun g0 hg hx => by have h1 := (HOWN.out.lt g0 hg); have h2 := HU5.out; omega)) HINT.out.2 HINT.out.1 (by have := HIN.out; omega)) ((S6.out.step (X' := fun k => k < wr.heap.size ∨ w6.heap.size ≤ k) (Keep.of_below (X := fun _ => False) (below_alloc _ _)) (fun _ _ h => h.elim) (fun g0 hg hx => by show g0 < u5.heap.size; have := HU5.out; omega)) u hu)) (by have := hB; omega) (by omega) (by rw [HL.out]; exact hown8) hg8 (hor8.elim (fun h => .inl (show some g = v.ownBlock from h.symm)) (fun h => .inr (congrArg some h)))
                  have FI := Lib.hid (RI.keep (Keep.set (Keep.refl (fun k => k = q) w8) (.inr rfl) 16 (.slice (some ⟨g, 0, none⟩) (k + 1) cap)) (fun k hk => by omega))
                  have FP := Lib.hid (HPP.out _ _ P6.out)
                  have FL := HL.out
                  clear O7 K6 RI kc8 m8 m9 hown8 hg8 hor8 own6 k6 y6 y7 hs8 E6 O6 R6 P6 kx6 z1 z2 z3 z4 S6
                  go_wp2_with fail
                  go_roundw
                  case rel => exact ⟨cf, rfl, k + 1, _, s2, _, by omega, by first | rfl | go_num | omega, by simp [FL], FP, FR, FI, FC, FK⟩
                  case measure => simp [intOf]; omega
          · have hd : decide ((0 : Int) < (n3 : Int) - (k : Int)) = false := by simp; omega
            obtain rfl : k = n3 := by omega
            have FR1 := Lib.hid (show ∃ (acc : List Lk) (s' : R) (v : Value), acc.length ≤ 255 ∧ ((ev = 0 → E = 0 ∧ Pr (pRep (pLink false) k) s13 acc s') ∧ (¬ ev = 0 → readMg t = none)) ∧ RRd wr p s' ∧ RowIn shLink 93 w27.heap.size wr v acc ∧ wr.heap[q]? = some (.cells #[.int .i64 (k0 : Int), .int .i64 (e0 : Int), .int .i64 (v0 : Int), .int .i64 (l0 : Int), .int .i64 qc, .int .i64 qs, .int .i64 qk, .string qt, .float .f64 qb, .int .i64 qi, .int .i64 c0, .float .f64 b0, .string tx, .slice nxa N1 nxc, .slice sga sgn sgc, .slice cha N2 chc, v] 35 (0, 0)) ∧ Keep (fun k => k = p ∨ k = q) w27 wr from ⟨acc, s', v, by omega, HP.out, HR.out, HO.out, HC.out, HK.out⟩)
            go_wp2_with fail
            go_meet
            case rel => exact ⟨ev, rfl, FR1⟩
      case rest =>
        obtain ⟨ev, rfl, hcut⟩ := hcut
        obtain ⟨lks, s14, v, hnl, hp9, hr9, ho9, hc9, hk9⟩ := hcut.out
        clear hcut R27 KC27
        obtain ⟨w28, hww⟩ : ∃ u : World, u = wc := ⟨_, rfl⟩
        subst hww
        obtain ⟨lka, N3, lkc, rfl, hvn⟩ := ho9.form
        have PLK := Lib.hid (ho9.rob hvn.symm (show N3 * 56 ≤ 140737488355328 by omega))
        have Q28 := Lib.hid (Q27.out.trans hk9 (fun _ _ h => h))
        have QK28 := Lib.hid hk9
        have R28 := Lib.hid hr9; have KC28 := Lib.hid hc9
        have HPL := Lib.hid hp9
        clear hp9 hr9 ho9 hc9 hk9 
        have K28 := Lib.hid ((QC25.out.trans QK26.out (fun _ _ h => h)).trans (QC27.out.trans QK28.out (fun _ _ h => h)) (fun _ _ h => h))
        have PN28 := Lib.hid (PN24.out.step (X' := fun k => k < q + 1 ∨ w22.heap.size ≤ k) K28.out (fun k _ hk => .inl (by omega)) (fun _ _ h => h))
        have PS28 := Lib.hid (PS24.out.step (X' := fun k => k < w22.heap.size ∨ w23.heap.size ≤ k) K28.out (fun k _ hk => .inl (by have := HB24.out; omega)) (fun _ _ h => h))
        have PC28 := Lib.hid (PCH.out.step (X' := fun k => k < w25.heap.size ∨ w26.heap.size ≤ k) (QC27.out.trans QK28.out (fun _ _ h => h)) (fun k _ hk => .inl (by have := HB25.out; omega)) (fun _ _ h => h))
        have hmi : MsgIn w28 ⟨k0, e0, v0, l0, ⟨qc, qs, qk, qt, qb, qi⟩, c0, b0, tx, nx, sg, chs, lks⟩ nxa N1 nxc sga sgn sgc cha N2 chc lka N3 lkc := ⟨I1.out, I6.out, I8.out, I10.out, HQOK.out, HRC.out, HRB.out, (show tx.size ≤ 140737488351232 by have := HTS.out; omega), PN28.out.self, PS28.out.self, PC28.out.self, PLK.out.self⟩
        have HMI := Lib.hid hmi
        have KS28 := Lib.hid ((Q28.out.block _ (blk_lt KS.out) (by omega)).trans KS.out)
        have B28 := Lib.hid (HFN.out _ Q28.out)
        have CE := Lib.hid (rrend_any p s14 w28 R28.out)
        have CF := Lib.hid (rfits_any ⟨k0, e0, v0, l0, ⟨qc, qs, qk, qt, qb, qi⟩, c0, b0, tx, nx, sg, chs, lks⟩ nxa N1 nxc sga sgn sgc cha N2 chc lka N3 lkc w28 hmi)
        have hFQ := fitR_eq ⟨k0, e0, v0, l0, ⟨qc, qs, qk, qt, qb, qi⟩, c0, b0, tx, nx, sg, chs, lks⟩
        have x0 : w28.cell? ⟨q, 0, none⟩ = some (.int .i64 (k0 : Int)) := by rw [blk_cell KC28.out]; rfl
        have hlp := rrd_in R28.out
        clear hmi
        by_cases hev : ev = 0
        · subst hev
          obtain ⟨hE, hpl⟩ := HPL.out.1 rfl
          have T28 := (T27.out hE).step hpl
          have HRM := Lib.hid (read_endF (T28.1 _ _ (Pr.ret _ _)))
          clear T28 hpl hE HPL T27 NE QC25 QK26 QC27 QK28 K28
          generalize endE s14 = EE at *
          by_cases hE0 : EE = 0
          · subst hE0
            generalize hFV : fitR ⟨k0, e0, v0, l0, ⟨qc, qs, qk, qt, qb, qi⟩, c0, b0, tx, nx, sg, chs, lks⟩ = FV at *
            by_cases hf : FV = 0
            · subst hf
              have HRR := Lib.hid (show readMg t = some ⟨k0, e0, v0, l0, ⟨qc, qs, qk, qt, qb, qi⟩, c0, b0, tx, nx, sg, chs, lks⟩ from by
                rw [HRM.out]
                cases hkb : kindB ⟨k0, e0, v0, l0, ⟨qc, qs, qk, qt, qb, qi⟩, c0, b0, tx, nx, sg, chs, lks⟩ with
                | false => rw [hkb, if_neg (by decide)] at hFQ; exact absurd hFQ (by decide)
                | true =>
                  cases hfp : fitsP ⟨k0, e0, v0, l0, ⟨qc, qs, qk, qt, qb, qi⟩, c0, b0, tx, nx, sg, chs, lks⟩ with
                  | false => rw [hkb, hfp, if_pos rfl, if_neg (by decide)] at hFQ; exact absurd hFQ (by decide)
                  | true => rfl)
              clear hFQ HRM
              go_upto_region 28 with (fail)
              refine wp_region_lit ?_
              refine wpL_val (w' := w28) rfl (v := .int .i64 0) (by simp only [execOp]; go_simp) ?_
              simp only [Act.put, List.setIfInBounds_toArray, List.set_cons_succ, List.set_cons_zero]
              refine wpL_val (w' := w28) rfl (v := .bool false) (by simp only [execOp]; go_simp) ?_
              simp only [Act.put, List.setIfInBounds_toArray, List.set_cons_succ, List.set_cons_zero]
              refine wpL_val (w' := w28) rfl (v := .bool false) (by simp only [execOp]; go_simp) ?_
              simp only [Act.put, List.setIfInBounds_toArray, List.set_cons_succ, List.set_cons_zero]
              refine wpL_val (w' := w28) rfl (v := .pointer (some ⟨p, 0, none⟩)) (by simp only [execOp]; go_simp) ?_
              simp only [Act.put, List.setIfInBounds_toArray, List.set_cons_succ, List.set_cons_zero]
              refine wpL_call rfl 37 #[.pointer (some ⟨p, 0, none⟩)] (by simp only [execOp]; go_simp) CE.out ?_
              rintro e' w29 ⟨rfl, rfl⟩
              refine ⟨_, rfl, ?_⟩
              simp only [Act.put, List.setIfInBounds_toArray, List.set_cons_succ, List.set_cons_zero]
              refine wpL_val (w' := w28) rfl (v := .bool false) (by simp only [execOp]; go_simp) ?_
              simp only [Act.put, List.setIfInBounds_toArray, List.set_cons_succ, List.set_cons_zero]
              refine wpL_val (w' := w28) rfl (v := .bool false) (by simp only [execOp]; go_simp) ?_
              simp only [Act.put, List.setIfInBounds_toArray, List.set_cons_succ, List.set_cons_zero]
              refine wpL_val (w' := w28) rfl (v := .bool false) (by simp only [execOp]; go_simp) ?_
              simp only [Act.put, List.setIfInBounds_toArray, List.set_cons_succ, List.set_cons_zero]
              refine wpL_val (w' := w28) rfl (v := .agg #[.int .i64 (k0 : Int), .int .i64 (e0 : Int), .int .i64 (v0 : Int), .int .i64 (l0 : Int), .int .i64 qc, .int .i64 qs, .int .i64 qk, .string qt, .float .f64 qb, .int .i64 qi, .int .i64 c0, .float .f64 b0, .string tx, .slice nxa N1 nxc, .slice sga sgn sgc, .slice cha N2 chc, .slice lka N3 lkc]) (load_row _ _ (.tmp 5) Tryz.underlying35 rfl (by rw [List.size_toArray]; exact info_mg) rfl rfl KC28.out) ?_
              simp only [Act.put, List.setIfInBounds_toArray, List.set_cons_succ, List.set_cons_zero]
              refine wpL_call rfl 38 #[.agg #[.int .i64 (k0 : Int), .int .i64 (e0 : Int), .int .i64 (v0 : Int), .int .i64 (l0 : Int), .int .i64 qc, .int .i64 qs, .int .i64 qk, .string qt, .float .f64 qb, .int .i64 qi, .int .i64 c0, .float .f64 b0, .string tx, .slice nxa N1 nxc, .slice sga sgn sgc, .slice cha N2 chc, .slice lka N3 lkc]] (by simp only [execOp]; go_simp) CF.out ?_
              rintro e' w30 ⟨rfl, b30⟩
              refine ⟨_, rfl, ?_⟩
              simp only [Act.put, List.setIfInBounds_toArray, List.set_cons_succ, List.set_cons_zero]
              refine wpL_val (w' := w30) rfl (v := .bool false) (by simp only [execOp]; go_simp) ?_
              simp only [Act.put, List.setIfInBounds_toArray, List.set_cons_succ, List.set_cons_zero]
              refine wpL_val (w' := w30) rfl (v := .bool false) (by simp only [execOp]; go_simp) ?_
              simp only [Act.put, List.setIfInBounds_toArray, List.set_cons_succ, List.set_cons_zero]
              have KC30 := Lib.hid (blk_below KC28.out b30)
              have KS30 := Lib.hid (blk_below KS28.out b30)
              have B30 := Lib.hid b30
              clear b30 CE CF x0
              go_upto_region 30 with (fail)
              refine wp_region_lit ?_
              refine ops_val rfl (w' := w30) (v := .agg #[.int .i64 (k0 : Int), .int .i64 (e0 : Int), .int .i64 (v0 : Int), .int .i64 (l0 : Int), .int .i64 qc, .int .i64 qs, .int .i64 qk, .string qt, .float .f64 qb, .int .i64 qi, .int .i64 c0, .float .f64 b0, .string tx, .slice nxa N1 nxc, .slice sga sgn sgc, .slice cha N2 chc, .slice lka N3 lkc]) (load_row _ _ (.tmp 5) Tryz.underlying35 rfl (by rw [List.size_toArray]; exact info_mg) rfl rfl KC30.out) ?_
              simp only [Act.put, List.setIfInBounds_toArray, List.set_cons_succ, List.set_cons_zero]
              refine wpList_store_mid rfl 35 (.tmp 2) (.tmp 133) rfl w.heap.size 0 #[.int .i64 (k0 : Int), .int .i64 (e0 : Int), .int .i64 (v0 : Int), .int .i64 (l0 : Int), .int .i64 qc, .int .i64 qs, .int .i64 qk, .string qt, .float .f64 qb, .int .i64 qi, .int .i64 c0, .float .f64 b0, .string tx, .slice nxa N1 nxc, .slice sga sgn sgc, .slice cha N2 chc, .slice lka N3 lkc] rfl rfl (fun j hj => ⟨by rw [blk_cell KS30.out, Option.isSome_iff_exists]; exact ⟨_, Array.getElem?_eq_getElem (show 0 + j < zeroMg.toArray.size by have h : j < 17 := (by simpa using hj); exact (show 0 + j < 17 from by omega))⟩, blk_frozen KS30.out _⟩) (by rw [List.size_toArray]; exact info_mg) (by simp [Value.oneCell']) ?_
              obtain ⟨w33, hw33⟩ : ∃ u, u = World.setCells w30 w.heap.size 0 (#[.int .i64 (k0 : Int), .int .i64 (e0 : Int), .int .i64 (v0 : Int), .int .i64 (l0 : Int), .int .i64 qc, .int .i64 qs, .int .i64 qk, .string qt, .float .f64 qb, .int .i64 qi, .int .i64 c0, .float .f64 b0, .string tx, .slice nxa N1 nxc, .slice sga sgn sgc, .slice cha N2 chc, .slice lka N3 lkc] : Array Value).toList := ⟨_, rfl⟩
              have K33 := Lib.hid (show w33.heap[w.heap.size]? = some (.cells #[.int .i64 (k0 : Int), .int .i64 (e0 : Int), .int .i64 (v0 : Int), .int .i64 (l0 : Int), .int .i64 qc, .int .i64 qs, .int .i64 qk, .string qt, .float .f64 qb, .int .i64 qi, .int .i64 c0, .float .f64 b0, .string tx, .slice nxa N1 nxc, .slice sga sgn sgc, .slice cha N2 chc, .slice lka N3 lkc] 35 (0, 0)) from by rw [hw33]; have := sets_blk [.int .i64 (k0 : Int), .int .i64 (e0 : Int), .int .i64 (v0 : Int), .int .i64 (l0 : Int), .int .i64 qc, .int .i64 qs, .int .i64 qk, .string qt, .float .f64 qb, .int .i64 qi, .int .i64 c0, .float .f64 b0, .string tx, .slice nxa N1 nxc, .slice sga sgn sgc, .slice cha N2 chc, .slice lka N3 lkc] w30 [] zeroMg KS30.out rfl; simpa using this)
              have B33 := Lib.hid (show Below w.heap.size w w33 from by rw [hw33]; exact sets_old (Nat.le_refl _) _ (bthen B28.out B30.out))
              have KW := Lib.hid (show Keep (fun k => k = w.heap.size) w28 w33 from by rw [hw33]; exact keep_sets (X := fun k => k = w.heap.size) (.inr rfl) _ (Keep.of_below B30.out))
              rw [← hw33]
              clear hw33
              simp only [Act.put, List.setIfInBounds_toArray, List.set_cons_succ, List.set_cons_zero]
              go_wp2_with fail
              have hld := run_loadVar_row (P := Tryz.prog) w33 w.heap.size 35 35 #[.int .i64 (k0 : Int), .int .i64 (e0 : Int), .int .i64 (v0 : Int), .int .i64 (l0 : Int), .int .i64 qc, .int .i64 qs, .int .i64 qk, .string qt, .float .f64 qb, .int .i64 qi, .int .i64 c0, .float .f64 b0, .string tx, .slice nxa N1 nxc, .slice sga sgn sgc, .slice cha N2 chc, .slice lka N3 lkc] (0, 0) _ K33.out Tryz.underlying35 rfl (by kernel_rfl)
              generalize hV : (Value.agg #[.int .i64 (k0 : Int), .int .i64 (e0 : Int), .int .i64 (v0 : Int), .int .i64 (l0 : Int), .int .i64 qc, .int .i64 qs, .int .i64 qk, .string qt, .float .f64 qb, .int .i64 qi, .int .i64 c0, .float .f64 b0, .string tx, .slice nxa N1 nxc, .slice sga sgn sgc, .slice cha N2 chc, .slice lka N3 lkc]) = VV at hld
              refine bodyPost_ret (v := .tuple #[VV, .int .i64 0]) (by simp [results, Tryz.results7, asAddr, hld]) rfl ?_
              rw [← hV]
              have hsp : w.heap.size < p := hp1
              have h22 := hsz22; have h24 := HB24.out; have h25 := HB25.out; have h27 := HB27.out
              refine ⟨B33.out, [.int .i64 (k0 : Int), .int .i64 (e0 : Int), .int .i64 (v0 : Int), .int .i64 (l0 : Int), .int .i64 qc, .int .i64 qs, .int .i64 qk, .string qt, .float .f64 qb, .int .i64 qi, .int .i64 c0, .float .f64 b0, .string tx, .slice nxa N1 nxc, .slice sga sgn sgc, .slice cha N2 chc, .slice lka N3 lkc], by rw [HRE.out.1, HRR.out]; rfl, fun u hu => ?_⟩
              rw [HRE.out.2, HRR.out]
              exact msg_make ⟨I1.out, I6.out, I8.out, I10.out, HQOK.out, HRC.out, HRB.out, (show tx.size ≤ 140737488351232 by have := HTS.out; omega),
                (PN28.out.step (X' := fun k => k < w.heap.size) KW.out (fun k _ hk => .inl (by omega)) (fun k _ hk => .inl (by omega))) u hu,
                (PS28.out.step (X' := fun k => k < w.heap.size) KW.out (fun k _ hk => .inl (by omega)) (fun k _ hk => .inl (by omega))) u hu,
                (PC28.out.step (X' := fun k => k < w.heap.size) KW.out (fun k _ hk => .inl (by omega)) (fun k _ hk => .inl (by omega))) u hu,
                (PLK.out.step (X' := fun k => k < w.heap.size) KW.out (fun k _ hk => .inl (by omega)) (fun k _ hk => .inl (by omega))) u hu⟩
            · have hff : (FV != 0) = true := by simpa using hf
              have HNR := Lib.hid (show readMg t = none from by
                rw [HRM.out]
                cases hkb : kindB ⟨k0, e0, v0, l0, ⟨qc, qs, qk, qt, qb, qi⟩, c0, b0, tx, nx, sg, chs, lks⟩ with
                | false => rfl
                | true =>
                  cases hfp : fitsP ⟨k0, e0, v0, l0, ⟨qc, qs, qk, qt, qb, qi⟩, c0, b0, tx, nx, sg, chs, lks⟩ with
                  | false => rfl
                  | true => rw [hkb, hfp, if_pos rfl, if_pos rfl] at hFQ; exact absurd hFQ hf)
              clear hFQ HRM
              go_upto_region 28 with (fail)
              refine wp_region_lit ?_
              refine wpL_val (w' := w28) rfl (v := .int .i64 0) (by simp only [execOp]; go_simp) ?_
              simp only [Act.put, List.setIfInBounds_toArray, List.set_cons_succ, List.set_cons_zero]
              refine wpL_val (w' := w28) rfl (v := .bool false) (by simp only [execOp]; go_simp) ?_
              simp only [Act.put, List.setIfInBounds_toArray, List.set_cons_succ, List.set_cons_zero]
              refine wpL_val (w' := w28) rfl (v := .bool false) (by simp only [execOp]; go_simp) ?_
              simp only [Act.put, List.setIfInBounds_toArray, List.set_cons_succ, List.set_cons_zero]
              refine wpL_val (w' := w28) rfl (v := .pointer (some ⟨p, 0, none⟩)) (by simp only [execOp]; go_simp) ?_
              simp only [Act.put, List.setIfInBounds_toArray, List.set_cons_succ, List.set_cons_zero]
              refine wpL_call rfl 37 #[.pointer (some ⟨p, 0, none⟩)] (by simp only [execOp]; go_simp) CE.out ?_
              rintro e' w29 ⟨rfl, rfl⟩
              refine ⟨_, rfl, ?_⟩
              simp only [Act.put, List.setIfInBounds_toArray, List.set_cons_succ, List.set_cons_zero]
              refine wpL_val (w' := w28) rfl (v := .bool false) (by simp only [execOp]; go_simp) ?_
              simp only [Act.put, List.setIfInBounds_toArray, List.set_cons_succ, List.set_cons_zero]
              refine wpL_val (w' := w28) rfl (v := .bool false) (by simp only [execOp]; go_simp) ?_
              simp only [Act.put, List.setIfInBounds_toArray, List.set_cons_succ, List.set_cons_zero]
              refine wpL_val (w' := w28) rfl (v := .bool false) (by simp only [execOp]; go_simp) ?_
              simp only [Act.put, List.setIfInBounds_toArray, List.set_cons_succ, List.set_cons_zero]
              refine wpL_val (w' := w28) rfl (v := .agg #[.int .i64 (k0 : Int), .int .i64 (e0 : Int), .int .i64 (v0 : Int), .int .i64 (l0 : Int), .int .i64 qc, .int .i64 qs, .int .i64 qk, .string qt, .float .f64 qb, .int .i64 qi, .int .i64 c0, .float .f64 b0, .string tx, .slice nxa N1 nxc, .slice sga sgn sgc, .slice cha N2 chc, .slice lka N3 lkc]) (load_row _ _ (.tmp 5) Tryz.underlying35 rfl (by rw [List.size_toArray]; exact info_mg) rfl rfl KC28.out) ?_
              simp only [Act.put, List.setIfInBounds_toArray, List.set_cons_succ, List.set_cons_zero]
              refine wpL_call rfl 38 #[.agg #[.int .i64 (k0 : Int), .int .i64 (e0 : Int), .int .i64 (v0 : Int), .int .i64 (l0 : Int), .int .i64 qc, .int .i64 qs, .int .i64 qk, .string qt, .float .f64 qb, .int .i64 qi, .int .i64 c0, .float .f64 b0, .string tx, .slice nxa N1 nxc, .slice sga sgn sgc, .slice cha N2 chc, .slice lka N3 lkc]] (by simp only [execOp]; go_simp) CF.out ?_
              rintro e' w30 ⟨rfl, b30⟩
              refine ⟨_, rfl, ?_⟩
              simp only [Act.put, List.setIfInBounds_toArray, List.set_cons_succ, List.set_cons_zero]
              refine wpL_val (w' := w30) rfl (v := .bool true) (by simp only [execOp]; go_simp) ?_
              simp only [Act.put, List.setIfInBounds_toArray, List.set_cons_succ, List.set_cons_zero]
              refine wpL_val (w' := w30) rfl (v := .bool true) (by simp only [execOp]; go_simp) ?_
              simp only [Act.put, List.setIfInBounds_toArray, List.set_cons_succ, List.set_cons_zero]
              have KS30 := Lib.hid (blk_below KS28.out b30)
              have B30 := Lib.hid (bthen B28.out b30)
              clear b30 CE CF x0
              go_upto_region 29 with (fail)
              refine wp_region_lit ?_
              refine ops_val rfl (w' := w30) (v := .agg zeroMg.toArray) (build_msg _ _ rfl _) ?_
              simp only [Act.put, List.setIfInBounds_toArray, List.set_cons_succ, List.set_cons_zero]
              refine wpList_store_mid rfl 35 (.tmp 2) (.tmp 132) rfl w.heap.size 0 zeroMg.toArray rfl rfl (fun j hj => ⟨by rw [blk_cell KS30.out, Option.isSome_iff_exists]; exact ⟨_, Array.getElem?_eq_getElem (show 0 + j < zeroMg.toArray.size by rw [Nat.zero_add]; exact hj)⟩, blk_frozen KS30.out _⟩) (by rw [List.size_toArray]; exact info_mg) (by simp [zeroMg, Value.oneCell']) ?_
              obtain ⟨wz, hwz⟩ : ∃ u, u = World.setCells w30 w.heap.size 0 zeroMg.toArray.toList := ⟨_, rfl⟩
              have KZ := Lib.hid (show wz.heap[w.heap.size]? = some (.cells zeroMg.toArray 35 (0, 0)) from by rw [hwz]; exact store_zero _ _ KS30.out)
              have BZ := Lib.hid (show Below w.heap.size w wz from by rw [hwz]; exact sets_old (Nat.le_refl _) _ B30.out)
              rw [← hwz]
              clear hwz
              simp only [Act.put, List.setIfInBounds_toArray, List.set_cons_succ, List.set_cons_zero]
              have HFX := Lib.hid (HZF.out HNR.out)
              go_wp2_with fail
              have hld := run_loadVar_row (P := Tryz.prog) wz w.heap.size 35 35 zeroMg.toArray (0, 0) _ KZ.out Tryz.underlying35 rfl (by kernel_rfl)
              refine bodyPost_ret (v := .tuple #[.agg zeroMg.toArray, .int .i64 5]) (by simp [results, Tryz.results7, asAddr, hld]) rfl ?_
              exact ⟨BZ.out, zeroMg, by rw [HFX.out.1], fun u hu => by rw [HFX.out.2]; exact zeroM_at u⟩
          · have hee : (EE != 0) = true := by simpa using hE0
            have HNR := Lib.hid (show readMg t = none from by rw [HRM.out, decide_eq_false hE0]; rfl)
            clear HRM hFQ
            go_upto_region 28 with (fail)
            refine wp_region_lit ?_
            refine wpL_val (w' := w28) rfl (v := .int .i64 0) (by simp only [execOp]; go_simp) ?_
            simp only [Act.put, List.setIfInBounds_toArray, List.set_cons_succ, List.set_cons_zero]
            refine wpL_val (w' := w28) rfl (v := .bool false) (by simp only [execOp]; go_simp) ?_
            simp only [Act.put, List.setIfInBounds_toArray, List.set_cons_succ, List.set_cons_zero]
            refine wpL_val (w' := w28) rfl (v := .bool false) (by simp only [execOp]; go_simp) ?_
            simp only [Act.put, List.setIfInBounds_toArray, List.set_cons_succ, List.set_cons_zero]
            refine wpL_val (w' := w28) rfl (v := .pointer (some ⟨p, 0, none⟩)) (by simp only [execOp]; go_simp) ?_
            simp only [Act.put, List.setIfInBounds_toArray, List.set_cons_succ, List.set_cons_zero]
            refine wpL_call rfl 37 #[.pointer (some ⟨p, 0, none⟩)] (by simp only [execOp]; go_simp) CE.out ?_
            rintro e' w29 ⟨rfl, rfl⟩
            refine ⟨_, rfl, ?_⟩
            simp only [Act.put, List.setIfInBounds_toArray, List.set_cons_succ, List.set_cons_zero]
            refine wpL_val (w' := w28) rfl (v := .bool true) (by simp only [execOp]; go_simp) ?_
            simp only [Act.put, List.setIfInBounds_toArray, List.set_cons_succ, List.set_cons_zero]
            refine wpL_val (w' := w28) rfl (v := .bool true) (by simp only [execOp]; go_simp) ?_
            simp only [Act.put, List.setIfInBounds_toArray, List.set_cons_succ, List.set_cons_zero]
            refine wpL_val (w' := w28) rfl (v := .bool true) (by simp only [execOp]; go_simp) ?_
            simp only [Act.put, List.setIfInBounds_toArray, List.set_cons_succ, List.set_cons_zero]
            refine wpL_skip rfl ?_
            simp only [Act.put, List.setIfInBounds_toArray, List.set_cons_succ, List.set_cons_zero]
            refine wpL_skip rfl ?_
            simp only [Act.put, List.setIfInBounds_toArray, List.set_cons_succ, List.set_cons_zero]
            refine wpL_skip rfl ?_
            simp only [Act.put, List.setIfInBounds_toArray, List.set_cons_succ, List.set_cons_zero]
            refine wpL_val (w' := w28) rfl (v := .bool true) (by simp only [execOp]; go_simp) ?_
            simp only [Act.put, List.setIfInBounds_toArray, List.set_cons_succ, List.set_cons_zero]
            clear CE CF x0
            go_upto_region 29 with (fail)
            refine wp_region_lit ?_
            refine ops_val rfl (w' := w28) (v := .agg zeroMg.toArray) (build_msg _ _ rfl _) ?_
            simp only [Act.put, List.setIfInBounds_toArray, List.set_cons_succ, List.set_cons_zero]
            refine wpList_store_mid rfl 35 (.tmp 2) (.tmp 132) rfl w.heap.size 0 zeroMg.toArray rfl rfl (fun j hj => ⟨by rw [blk_cell KS28.out, Option.isSome_iff_exists]; exact ⟨_, Array.getElem?_eq_getElem (show 0 + j < zeroMg.toArray.size by rw [Nat.zero_add]; exact hj)⟩, blk_frozen KS28.out _⟩) (by rw [List.size_toArray]; exact info_mg) (by simp [zeroMg, Value.oneCell']) ?_
            obtain ⟨wz, hwz⟩ : ∃ u, u = World.setCells w28 w.heap.size 0 zeroMg.toArray.toList := ⟨_, rfl⟩
            have KZ := Lib.hid (show wz.heap[w.heap.size]? = some (.cells zeroMg.toArray 35 (0, 0)) from by rw [hwz]; exact store_zero _ _ KS28.out)
            have BZ := Lib.hid (show Below w.heap.size w wz from by rw [hwz]; exact sets_old (Nat.le_refl _) _ B28.out)
            rw [← hwz]
            clear hwz
            simp only [Act.put, List.setIfInBounds_toArray, List.set_cons_succ, List.set_cons_zero]
            have HFX := Lib.hid (HZF.out HNR.out)
            go_wp2_with fail
            have hld := run_loadVar_row (P := Tryz.prog) wz w.heap.size 35 35 zeroMg.toArray (0, 0) _ KZ.out Tryz.underlying35 rfl (by kernel_rfl)
            refine bodyPost_ret (v := .tuple #[.agg zeroMg.toArray, .int .i64 5]) (by simp [results, Tryz.results7, asAddr, hld]) rfl ?_
            exact ⟨BZ.out, zeroMg, by rw [HFX.out.1], fun u hu => by rw [HFX.out.2]; exact zeroM_at u⟩
        · have hvv : (ev != 0) = true := by simpa using hev
          have HNR := Lib.hid (HPL.out.2 hev)
          clear hFQ HPL T27 NE
          go_upto_region 28 with (fail)
          refine wp_region_lit ?_
          refine wpL_val (w' := w28) rfl (v := .int .i64 ev) (by simp only [execOp]; go_simp) ?_
          simp only [Act.put, List.setIfInBounds_toArray, List.set_cons_succ, List.set_cons_zero]
          refine wpL_val (w' := w28) rfl (v := .bool true) (by simp only [execOp]; go_simp) ?_
          simp only [Act.put, List.setIfInBounds_toArray, List.set_cons_succ, List.set_cons_zero]
          refine wpL_val (w' := w28) rfl (v := .bool true) (by simp only [execOp]; go_simp) ?_
          simp only [Act.put, List.setIfInBounds_toArray, List.set_cons_succ, List.set_cons_zero]
          refine wpL_skip rfl ?_
          simp only [Act.put, List.setIfInBounds_toArray, List.set_cons_succ, List.set_cons_zero]
          refine wpL_skip rfl ?_
          simp only [Act.put, List.setIfInBounds_toArray, List.set_cons_succ, List.set_cons_zero]
          refine wpL_skip rfl ?_
          simp only [Act.put, List.setIfInBounds_toArray, List.set_cons_succ, List.set_cons_zero]
          refine wpL_val (w' := w28) rfl (v := .bool true) (by simp only [execOp]; go_simp) ?_
          simp only [Act.put, List.setIfInBounds_toArray, List.set_cons_succ, List.set_cons_zero]
          refine wpL_val (w' := w28) rfl (v := .bool true) (by simp only [execOp]; go_simp) ?_
          simp only [Act.put, List.setIfInBounds_toArray, List.set_cons_succ, List.set_cons_zero]
          refine wpL_skip rfl ?_
          simp only [Act.put, List.setIfInBounds_toArray, List.set_cons_succ, List.set_cons_zero]
          refine wpL_skip rfl ?_
          simp only [Act.put, List.setIfInBounds_toArray, List.set_cons_succ, List.set_cons_zero]
          refine wpL_skip rfl ?_
          simp only [Act.put, List.setIfInBounds_toArray, List.set_cons_succ, List.set_cons_zero]
          refine wpL_val (w' := w28) rfl (v := .bool true) (by simp only [execOp]; go_simp) ?_
          simp only [Act.put, List.setIfInBounds_toArray, List.set_cons_succ, List.set_cons_zero]
          clear CE CF x0
          go_upto_region 29 with (fail)
          refine wp_region_lit ?_
          refine ops_val rfl (w' := w28) (v := .agg zeroMg.toArray) (build_msg _ _ rfl _) ?_
          simp only [Act.put, List.setIfInBounds_toArray, List.set_cons_succ, List.set_cons_zero]
          refine wpList_store_mid rfl 35 (.tmp 2) (.tmp 132) rfl w.heap.size 0 zeroMg.toArray rfl rfl (fun j hj => ⟨by rw [blk_cell KS28.out, Option.isSome_iff_exists]; exact ⟨_, Array.getElem?_eq_getElem (show 0 + j < zeroMg.toArray.size by rw [Nat.zero_add]; exact hj)⟩, blk_frozen KS28.out _⟩) (by rw [List.size_toArray]; exact info_mg) (by simp [zeroMg, Value.oneCell']) ?_
          obtain ⟨wz, hwz⟩ : ∃ u, u = World.setCells w28 w.heap.size 0 zeroMg.toArray.toList := ⟨_, rfl⟩
          have KZ := Lib.hid (show wz.heap[w.heap.size]? = some (.cells zeroMg.toArray 35 (0, 0)) from by rw [hwz]; exact store_zero _ _ KS28.out)
          have BZ := Lib.hid (show Below w.heap.size w wz from by rw [hwz]; exact sets_old (Nat.le_refl _) _ B28.out)
          rw [← hwz]
          clear hwz
          simp only [Act.put, List.setIfInBounds_toArray, List.set_cons_succ, List.set_cons_zero]
          have HFX := Lib.hid (HZF.out HNR.out)
          go_wp2_with fail
          have hld := run_loadVar_row (P := Tryz.prog) wz w.heap.size 35 35 zeroMg.toArray (0, 0) _ KZ.out Tryz.underlying35 rfl (by kernel_rfl)
          refine bodyPost_ret (v := .tuple #[.agg zeroMg.toArray, .int .i64 5]) (by simp [results, Tryz.results7, asAddr, hld]) rfl ?_
          exact ⟨BZ.out, zeroMg, by rw [HFX.out.1], fun u hu => by rw [HFX.out.2]; exact zeroM_at u⟩
end Go.Proofs.YtijeieamodjgbaaGreat
