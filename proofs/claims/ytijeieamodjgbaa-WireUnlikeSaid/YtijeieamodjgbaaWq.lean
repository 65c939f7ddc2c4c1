
/- Messages out of bytes: parsers, and readers' states. No program in sight. -/
import Derived.Test.YtijeieamodjgbaaWm
import Derived.Test.YtijeieamodjgbaaRdW
import Derived.Test.YtijeieamodjgbaaReP
import Derived.Test.YtijeieamodjgbaaDr2
namespace Go.Proofs.Ytijeieamodjgbaa
set_option maxRecDepth 100000
open Go.RowKit
set_option linter.unusedVariables false
set_option linter.unusedSimpArgs false

/-- A parser: a thing and what is left. -/
abbrev Ps (α : Type) := List UInt8 → Option (α × List UInt8)
section
variable {α β : Type}
def pRet (x : α) : Ps α := fun t => some (x, t)
def pThen (p : Ps α) (f : α → Ps β) : Ps β := fun t => match p t with
  | none => none
  | some (x, r) => f x r
def pIf (b : Bool) (p : Ps α) : Ps α := fun t => if b = true then p t else none
def pNum (k : Nat) : Ps Int := fun t => if t.length < k then none else some (((valBE (t.take k) : Nat) : Int), t.drop k)
def pText : Ps ByteArray := pThen (pNum 2) fun n => fun t => if t.length < n.toNat then none else some (⟨(t.take n.toNat).toArray⟩, t.drop n.toNat)
def pRep (p : Ps α) : Nat → Ps (List α)
  | 0 => pRet []
  | k + 1 => pThen p fun x => pThen (pRep p k) fun l => pRet (x :: l)
theorem pThen_some {p : Ps α} {f : α → Ps β} {t r : List UInt8} {x : α} (h : p t = some (x, r)) : pThen p f t = f x r := by unfold pThen; rw [h]
theorem pThen_none {p : Ps α} {f : α → Ps β} {t : List UInt8} (h : p t = none) : pThen p f t = none := by unfold pThen; rw [h]
theorem pThen_ret {p : Ps α} (t : List UInt8) : pThen p pRet t = p t := by
  unfold pThen pRet
  cases p t with
  | none => rfl
  | some x => rfl
theorem pRep_snoc {p : Ps α} : ∀ {k : Nat} {t r r' : List UInt8} {l : List α} {x : α}, pRep p k t = some (l, r) → p r = some (x, r') → pRep p (k + 1) t = some (l ++ [x], r')
  | 0, t, r, r', l, x, h, hx => by
    simp only [pRep, pRet, Option.some.injEq, Prod.mk.injEq] at h
    obtain ⟨rfl, rfl⟩ := h
    simp only [pRep, pThen, pRet, hx, List.nil_append]
  | k + 1, t, r, r', l, x, h, hx => by
    rw [pRep] at h ⊢
    cases hp : p t with
    | none => rw [pThen_none hp] at h; cases h
    | some y =>
      obtain ⟨y, r1⟩ := y
      rw [pThen_some hp] at h ⊢
      cases hr : pRep p k r1 with
      | none => rw [pThen_none hr] at h; cases h
      | some z =>
        obtain ⟨z, r2⟩ := z
        rw [pThen_some hr] at h
        simp only [pRet, Option.some.injEq, Prod.mk.injEq] at h
        obtain ⟨rfl, rfl⟩ := h
        rw [pThen_some (pRep_snoc hr hx)]
        rfl
theorem pRep_stop {p : Ps α} : ∀ {k i : Nat} {t r : List UInt8} {l : List α}, pRep p i t = some (l, r) → p r = none → i < k → pRep p k t = none
  | k + 1, 0, t, r, l, h, hx, _ => by
    simp only [pRep, pRet, Option.some.injEq, Prod.mk.injEq] at h
    obtain ⟨rfl, rfl⟩ := h
    rw [pRep, pThen_none hx]
  | k + 1, i + 1, t, r, l, h, hx, hk => by
    rw [pRep] at h ⊢
    cases hp : p t with
    | none => rw [pThen_none hp]
    | some y =>
      obtain ⟨y, r1⟩ := y
      rw [pThen_some hp] at h ⊢
      cases hr : pRep p i r1 with
      | none => rw [pThen_none hr] at h; cases h
      | some z =>
        obtain ⟨z, r2⟩ := z
        rw [pThen_some hr] at h
        simp only [pRet, Option.some.injEq, Prod.mk.injEq] at h
        obtain ⟨-, rfl⟩ := h
        rw [pThen_none (pRep_stop hr hx (by omega))]
theorem pRep_len {p : Ps α} : ∀ {k : Nat} {t r : List UInt8} {l : List α}, pRep p k t = some (l, r) → l.length = k
  | 0, t, r, l, h => by
    simp only [pRep, pRet, Option.some.injEq, Prod.mk.injEq] at h
    rw [← h.1]; rfl
  | k + 1, t, r, l, h => by
    rw [pRep] at h
    cases hp : p t with
    | none => rw [pThen_none hp] at h; cases h
    | some y =>
      obtain ⟨y, r1⟩ := y
      rw [pThen_some hp] at h
      cases hr : pRep p k r1 with
      | none => rw [pThen_none hr] at h; cases h
      | some z =>
        obtain ⟨z, r2⟩ := z
        rw [pThen_some hr] at h
        simp only [pRet, Option.some.injEq, Prod.mk.injEq] at h
        rw [← h.1, List.length_cons, pRep_len hr]

/-- What a reading function does to a reader: v is read, and s' is left. -/
def Pr (p : Ps α) (s : R) (v : α) (s' : R) : Prop := (s.bad = true ∧ s'.bad = true) ∨ (s.bad = false ∧ ((p s.rest = none ∧ s'.bad = true) ∨ ∃ r, p s.rest = some (v, r) ∧ s' = ⟨r, false⟩))
theorem Pr.ret (x : α) (s : R) : Pr (pRet x) s x s := by
  obtain ⟨r, b⟩ := s
  cases b with
  | true => exact .inl ⟨rfl, rfl⟩
  | false => exact .inr ⟨rfl, .inr ⟨r, rfl, rfl⟩⟩
theorem Pr.then {p : Ps α} {f : α → Ps β} {s s1 s2 : R} {x : α} {y : β} (h : Pr p s x s1) (h2 : Pr (f x) s1 y s2) : Pr (pThen p f) s y s2 := by
  rcases h with ⟨h, h1⟩ | ⟨h, h1⟩
  · rcases h2 with ⟨_, g⟩ | ⟨g, _⟩
    · exact .inl ⟨h, g⟩
    · rw [h1] at g; cases g
  · refine .inr ⟨h, ?_⟩
    rcases h1 with ⟨h1, h3⟩ | ⟨r, h1, rfl⟩
    · rcases h2 with ⟨_, g⟩ | ⟨g, _⟩
      · exact .inl ⟨pThen_none h1, g⟩
      · rw [h3] at g; cases g
    · rcases h2 with ⟨g, _⟩ | ⟨_, g⟩
      · cases g
      · rw [pThen_some h1]; exact g
theorem Pr.map {p : Ps α} {f : α → β} {s s1 : R} {x : α} (h : Pr p s x s1) : Pr (pThen p fun x => pRet (f x)) s (f x) s1 := h.then (Pr.ret _ _)
theorem Pr.if {p : Ps α} {s s1 : R} {x : α} {b : Bool} (h : Pr p s x s1) (hb : b = true) : Pr (pIf b p) s x s1 := by
  have : pIf b p = p := by funext t; unfold pIf; rw [if_pos hb]
  rw [this]; exact h
/-- It was refused. -/
def No (p : Ps α) (s : R) : Prop := s.bad = true ∨ p s.rest = none
theorem No.then {p : Ps α} {f : α → Ps β} {s : R} (h : No p s) : No (pThen p f) s := h.imp id pThen_none
theorem No.step {p : Ps α} {f : α → Ps β} {s s1 : R} {x : α} (h : Pr p s x s1) (h2 : No (f x) s1) : No (pThen p f) s := by
  rcases h with ⟨h, _⟩ | ⟨h, h1⟩
  · exact .inl h
  · rcases h1 with ⟨h1, _⟩ | ⟨r, h1, rfl⟩
    · exact .inr (pThen_none h1)
    · rcases h2 with g | g
      · cases g
      · exact .inr (by rw [pThen_some h1]; exact g)
theorem Pr.bad {p : Ps α} {s s1 : R} {x : α} (h : Pr p s x s1) (hb : s1.bad = true) : No p s := by
  rcases h with ⟨h, _⟩ | ⟨h, h1⟩
  · exact .inl h
  · rcases h1 with ⟨h1, _⟩ | ⟨r, h1, rfl⟩
    · exact .inr h1
    · cases hb
theorem No.bad {p : Ps α} {s : R} (h : s.bad = true) : No p s := .inl h
theorem No.if {p : Ps α} {s : R} {b : Bool} (hb : b = false) : No (pIf b p) s := .inr (by unfold pIf; rw [if_neg (by rw [hb]; decide)])
theorem Pr.good {p : Ps α} {s s1 : R} {x : α} (h : Pr p s x s1) (hb : s1.bad = false) : s.bad = false ∧ p s.rest = some (x, s1.rest) := by
  rcases h with ⟨_, h⟩ | ⟨h, h1⟩
  · rw [h] at hb; cases hb
  · rcases h1 with ⟨_, h1⟩ | ⟨r, h1, rfl⟩
    · rw [h1] at hb; cases hb
    · exact ⟨h, h1⟩
/-- One more of a row. -/
theorem Pr.snoc {p : Ps α} {k : Nat} {s s1 s2 : R} {l : List α} {x : α} (h : Pr (pRep p k) s l s1) (h2 : Pr p s1 x s2) : Pr (pRep p (k + 1)) s (l ++ [x]) s2 := by
  rcases h with ⟨h, h1⟩ | ⟨h, h1⟩
  · rcases h2 with ⟨_, g⟩ | ⟨g, _⟩
    · exact .inl ⟨h, g⟩
    · rw [h1] at g; cases g
  · refine .inr ⟨h, ?_⟩
    rcases h1 with ⟨h1, h3⟩ | ⟨r, h1, rfl⟩
    · rcases h2 with ⟨_, g⟩ | ⟨g, _⟩
      · refine .inl ⟨?_, g⟩
        have key : ∀ {k : Nat} {t : List UInt8}, pRep p k t = none → pRep p (k + 1) t = none := by
          intro k
          induction k with
          | zero => intro t h; cases h
          | succ k ih =>
            intro t h
            rw [pRep] at h ⊢
            cases hp : p t with
            | none => exact pThen_none hp
            | some y =>
              obtain ⟨y, r1⟩ := y
              rw [pThen_some hp] at h ⊢
              cases hr : pRep p k r1 with
              | none => exact pThen_none (ih hr)
              | some z => obtain ⟨z, r2⟩ := z; rw [pThen_some hr] at h; cases h
        exact key h1
      · rw [h3] at g; cases g
    · rcases h2 with ⟨g, _⟩ | ⟨_, g⟩
      · cases g
      · rcases g with ⟨g, g1⟩ | ⟨r', g, rfl⟩
        · exact .inl ⟨pRep_stop h1 g (by omega), g1⟩
        · exact .inr ⟨r', pRep_snoc h1 g, rfl⟩
/-- Refused within a row. -/
theorem No.rep {p : Ps α} {k i : Nat} {s s1 : R} {l : List α} (h : Pr (pRep p i) s l s1) (h2 : No p s1) (hi : i < k) : No (pRep p k) s := by
  rcases h with ⟨h, _⟩ | ⟨h, h1⟩
  · exact .inl h
  · rcases h1 with ⟨h1, _⟩ | ⟨r, h1, rfl⟩
    · right
      have key : ∀ {k i : Nat} {t : List UInt8}, pRep p i t = none → i ≤ k → pRep p k t = none := by
        intro k
        induction k with
        | zero => intro i t h hi; obtain rfl : i = 0 := by omega
                  exact h
        | succ k ih =>
          intro i t h hi
          cases i with
          | zero => cases h
          | succ i =>
            rw [pRep] at h ⊢
            cases hp : p t with
            | none => exact pThen_none hp
            | some y =>
              obtain ⟨y, r1⟩ := y
              rw [pThen_some hp] at h ⊢
              cases hr : pRep p i r1 with
              | none => exact pThen_none (ih hr (by omega))
              | some z => obtain ⟨z, r2⟩ := z; rw [pThen_some hr] at h; cases h
      exact key h1 (by omega)
    · rcases h2 with g | g
      · cases g
      · exact .inr (pRep_stop h1 g hi)
end
theorem pr_num (s : R) (k : Nat) : Pr (pNum k) s (rVal s k : Nat) (rNext s k) := by
  obtain ⟨t, b⟩ := s
  cases b with
  | true => exact .inl ⟨rfl, by rw [rNext_bad (.inl rfl)]⟩
  | false =>
    refine .inr ⟨rfl, ?_⟩
    by_cases h : t.length < k
    · exact .inl ⟨by unfold pNum; rw [if_pos h], by rw [rNext_bad (.inr h)]⟩
    · have hc : ¬ ((⟨t, false⟩ : R).bad = true ∨ (⟨t, false⟩ : R).rest.length < k) := by rintro (h1 | h1); cases h1; exact h h1
      exact .inr ⟨t.drop k, by unfold pNum; rw [if_neg h, rVal_ok hc], by rw [rNext_ok hc]⟩
theorem pr_text (s : R) : Pr pText s (⟨(tVal s).toArray⟩ : ByteArray) (tNext s) := by
  have h := pr_num s 2
  rcases h with ⟨h, h1⟩ | ⟨h, h1⟩
  · exact .inl ⟨h, by rw [tNext_bad (.inl h1)]⟩
  · refine .inr ⟨h, ?_⟩
    rcases h1 with ⟨h1, h3⟩ | ⟨r, h1, h3⟩
    · exact .inl ⟨by unfold pText; exact pThen_none h1, by rw [tNext_bad (.inl h3)]⟩
    · by_cases hc : tBad s
      · refine .inl ⟨?_, by rw [tNext_bad hc]⟩
        unfold pText
        rw [pThen_some h1, if_pos]
        rcases hc with hc | hc
        · rw [h3] at hc; cases hc
        · rw [h3] at hc; simpa using hc
      · refine .inr ⟨_, ?_, by rw [tNext_ok hc]⟩
        unfold pText
        rw [pThen_some h1, if_neg, tVal_ok hc, h3]
        · simp
        · intro hn
          exact hc (.inr (by rw [h3]; simpa using hn))

def pSig : Ps Sg := pThen (pNum 1) fun n => pThen pText fun t => pRet (n, t)
def pSigs (L : Bool) : Ps (List Sg) := pThen (pNum 1) fun n => pIf (!L || decide (n ≤ 16)) (pRep pSig n.toNat)
def pReq : Ps Rq := pThen pText fun t => pIf (decide (readErr t.data.toList = 0)) (pRet (readRq t.data.toList))
def pCert (L : Bool) : Ps Ce := pThen (pNum 1) fun v => pThen (pNum 2) fun s => pThen pReq fun q => pThen (pSigs L) fun sg => pRet ⟨v, s, q, sg⟩
def pChange (L : Bool) : Ps Ch := pThen (pNum 1) fun fr => pThen (pNum 1) fun v => pThen (pNum 1) fun n => pIf (!L || decide (n ≤ 4)) (pThen (pRep (pCert L) n.toNat) fun ce => pThen pSig fun sg => pRet ⟨fr, v, ce, sg⟩)
def pLink (L : Bool) : Ps Lk := pThen pText fun t => pIf (decide (readC t.data.toList = 0)) (pThen (pSigs L) fun sg => pRet ((readE t.data.toList, readL t.data.toList), sg))
def pTail (L : Bool) (k e v s : Int) (q : Rq) (rt t : ByteArray) : Ps Mg := pThen (pNum 1) fun n1 => pIf (!L || decide (n1 ≤ 10)) (pThen (pRep (pNum 1) n1.toNat) fun nx => pThen (pSigs L) fun sg => pThen (pNum 1) fun n2 => pIf (!L || decide (n2 ≤ 10)) (pThen (pRep (pChange L) n2.toNat) fun ch =>
  pThen (pNum 1) fun n3 => pIf (!L || decide (n3 ≤ 60)) (pThen (pRep (pLink L) n3.toNat) fun lk => pRet ⟨k, e, v, s, q, rsC rt.data.toList, rsB rt.data.toList, t, nx, sg, ch, lk⟩)))
def pMsg (L : Bool) : Ps Mg := pThen (pNum 1) fun k => pThen (pNum 2) fun e => pThen (pNum 1) fun v => pThen (pNum 2) fun s => pThen pReq fun q => pThen pText fun rt => pIf (decide (rsE rt.data.toList = 0)) (pThen pText fun t => pTail L k e v s q rt t)
/-- The message whose bytes these are. -/
def readMg (t : List UInt8) : Option Mg := match pMsg true t with
  | some (m, []) => if (kindB m && fitsP m) = true then some m else none
  | _ => none
end Go.Proofs.Ytijeieamodjgbaa
