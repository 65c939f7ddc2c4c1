
/- Messages told and read: the plain laws. No program in sight. -/
import Derived.Test.YtijeieamodjgbaaGreatWm
import Derived.Test.YtijeieamodjgbaaGreatDrP
namespace Go.Proofs.YtijeieamodjgbaaGreat
set_option maxRecDepth 100000
open Go.RowKit
set_option linter.unusedVariables false
set_option linter.unusedSimpArgs false
def ithBs (l : List Ith) : List UInt8 := l.flatMap (·.2)
def okI (l : List Ith) : Prop := ∀ i ∈ l, i.1 = true
theorem ithBs_app (a b : List Ith) : ithBs (a ++ b) = ithBs a ++ ithBs b := by simp [ithBs]
theorem ithBs_cons (i : Ith) (r : List Ith) : ithBs (i :: r) = i.2 ++ ithBs r := by simp [ithBs]
theorem ithBs_nil : ithBs [] = [] := rfl
theorem okI_app {a b : List Ith} : okI (a ++ b) ↔ okI a ∧ okI b := by
  constructor
  · exact fun h => ⟨fun i hi => h i (by simp [hi]), fun i hi => h i (by simp [hi])⟩
  · rintro ⟨h1, h2⟩ i hi
    rcases List.mem_append.1 hi with hi | hi
    · exact h1 i hi
    · exact h2 i hi
theorem okI_cons {i : Ith} {r : List Ith} : okI (i :: r) ↔ i.1 = true ∧ okI r := by
  constructor
  · exact fun h => ⟨h i (by simp), fun j hj => h j (by simp [hj])⟩
  · rintro ⟨h1, h2⟩ j hj
    rcases List.mem_cons.1 hj with rfl | hj
    · exact h1
    · exact h2 j hj
theorem okI_nil : okI [] := fun i hi => by cases hi
def En {α : Type} (p : Ps α) (l : List Ith) (y : α) : Prop := okI l → ∀ u, p (ithBs l ++ u) = some (y, u)
section
variable {α β : Type}
theorem En.ret (x : α) : En (pRet x) [] x := fun _ u => rfl
theorem En.then {p : Ps α} {f : α → Ps β} {a b : List Ith} {x : α} {y : β} (h : En p a x) (h2 : En (f x) b y) : En (pThen p f) (a ++ b) y := fun hk u => by
  obtain ⟨h3, h4⟩ := okI_app.1 hk; rw [ithBs_app, List.append_assoc, pThen_some (h h3 _)]
  exact h2 h4 u
theorem En.cons {p : Ps α} {f : α → Ps β} {i : Ith} {b : List Ith} {x : α} {y : β} (h : En p [i] x) (h2 : En (f x) b y) : En (pThen p f) (i :: b) y := En.then (a := [i]) h h2
theorem En.if {p : Ps α} {a : List Ith} {x : α} {b : Bool} (hb : b = true) (h : En p a x) : En (pIf b p) a x := by
  have : pIf b p = p := by funext t; unfold pIf; rw [if_pos hb]
  rw [this]; exact h
theorem En.rep {p : Ps α} {f : β → List Ith} {g : β → α} : ∀ (l : List β), (∀ x ∈ l, En p (f x) (g x)) → En (pRep p l.length) (l.flatMap f) (l.map g)
  | [], _ => En.ret _
  | x :: r, h => by
    rw [List.flatMap_cons, List.length_cons, List.map_cons]
    have h1 := (h x (by simp)).then (f := fun y => pThen (pRep p r.length) fun l => pRet (y :: l)) ((En.rep r (fun z hz => h z (by simp [hz]))).then (f := fun l => pRet (g x :: l)) (En.ret _))
    rw [List.append_nil] at h1
    exact h1
end
theorem en_num {n : Int} {k m : Nat} (h : 0 ≤ n ∧ n ≤ m) (hm : m < 256 ^ k) (u : List UInt8) : pNum k (beN n.toNat k ++ u) = some (n, u) := by
  unfold pNum
  have hl := beN_len k n.toNat; rw [if_neg (by rw [List.length_append, hl]; omega), List.take_left' hl, List.drop_left' hl, valBE_of_beN, Nat.mod_eq_of_lt (by omega)]
  congr 2
  omega
theorem En.b {n : Int} : En (pNum 1) [itB n] n := fun hk u => by
  have h := (okI_cons.1 hk).1
  simp only [itB, decide_eq_true_eq] at h
  rw [ithBs_cons, ithBs_nil, List.append_nil]
  exact en_num (m := 255) h (by decide) u
theorem En.w {n : Int} : En (pNum 2) [itW n] n := fun hk u => by
  have h := (okI_cons.1 hk).1
  simp only [itW, decide_eq_true_eq] at h
  rw [ithBs_cons, ithBs_nil, List.append_nil]
  exact en_num (m := 65535) h (by decide) u
theorem En.t {t : ByteArray} : En pText [itT t] t := fun hk u => by
  have h := (okI_cons.1 hk).1
  simp only [itT, decide_eq_true_eq] at h
  rw [ithBs_cons, ithBs_nil, List.append_nil]; have h1 := en_num (n := (t.size : Int)) (k := 2) (m := 65535) ⟨by omega, by omega⟩ (by decide) (t.data.toList ++ u)
  rw [Int.toNat_natCast] at h1
  unfold pText
  show pThen (pNum 2) _ ((beN t.size 2 ++ t.data.toList) ++ u) = _
  rw [List.append_assoc, pThen_some h1]
  have hl : t.data.toList.length = t.size := by simp
  rw [Int.toNat_natCast, if_neg (by rw [List.length_append]; omega), List.take_left' hl, List.drop_left' hl]
def De {α : Type} (p : Ps α) (I : α → List Ith) : Prop := ∀ t y r, p t = some (y, r) → t = ithBs (I y) ++ r ∧ okI (I y)
section
variable {α β : Type}
theorem thenInv {p : Ps α} {f : α → Ps β} {t r : List UInt8} {y : β} (h : pThen p f t = some (y, r)) : ∃ x s, p t = some (x, s) ∧ f x s = some (y, r) := by
  unfold pThen at h
  cases hp : p t with
  | none => rw [hp] at h; cases h
  | some z => rw [hp] at h; obtain ⟨x, s⟩ := z; exact ⟨x, s, rfl, h⟩
theorem ifInv {p : Ps α} {b : Bool} {t r : List UInt8} {y : α} (h : pIf b p t = some (y, r)) : b = true ∧ p t = some (y, r) := by
  unfold pIf at h
  split at h
  · exact ⟨by assumption, h⟩
  · cases h
theorem retInv {x y : α} {t r : List UInt8} (h : pRet x t = some (y, r)) : y = x ∧ t = r := by
  simp only [pRet, Option.some.injEq, Prod.mk.injEq] at h
  exact ⟨h.1.symm, h.2⟩
theorem De.rep {p : Ps α} {I : α → List Ith} (h : De p I) : ∀ (n : Nat) (t : List UInt8) (l : List α) (r : List UInt8), pRep p n t = some (l, r) → t = ithBs (l.flatMap I) ++ r ∧ okI (l.flatMap I) ∧ l.length = n
  | 0, t, l, r, hp => by
    obtain ⟨rfl, rfl⟩ := retInv hp
    exact ⟨rfl, okI_nil, rfl⟩
  | n + 1, t, l, r, hp => by
    obtain ⟨x, s, h1, h2⟩ := thenInv hp; obtain ⟨l', s', h3, h4⟩ := thenInv h2; obtain ⟨rfl, rfl⟩ := retInv h4; obtain ⟨e1, k1⟩ := h _ _ _ h1; obtain ⟨e2, k2, e3⟩ := De.rep h n _ _ _ h3
    refine ⟨?_, ?_, by rw [List.length_cons, e3]⟩
    · rw [e1, e2, List.flatMap_cons, ithBs_app, List.append_assoc]
    · rw [List.flatMap_cons]; exact okI_app.2 ⟨k1, k2⟩
end
theorem de_num {k : Nat} {t r : List UInt8} {n : Int} (h : pNum k t = some (n, r)) : t = beN n.toNat k ++ r ∧ 0 ≤ n ∧ n < ((256 ^ k : Nat) : Int) := by
  unfold pNum at h
  split at h
  · cases h
  · rename_i hl
    simp only [Option.some.injEq, Prod.mk.injEq] at h
    obtain ⟨rfl, rfl⟩ := h
    have hc : ¬ ((⟨t, false⟩ : R).bad = true ∨ (⟨t, false⟩ : R).rest.length < k) := by rintro (h1 | h1); cases h1; exact hl h1
    obtain ⟨r, h1, h2⟩ := rd_split (t := t) (k := k) (by rw [rNext_ok hc])
    rw [rNext_ok hc] at h1
    rw [rVal_ok hc] at h2
    injection h1 with h1; have hlt := valBE_lt (t.take k)
    rw [List.length_take, Nat.min_eq_left (by omega)] at hlt
    refine ⟨?_, by omega, by omega⟩
    rw [Int.toNat_natCast, h1]
    exact h2
theorem De.b : De (pNum 1) (fun n => [itB n]) := fun t y r h => by
  obtain ⟨h1, h2, h3⟩ := de_num h
  refine ⟨by rw [ithBs_cons, ithBs_nil, List.append_nil]; exact h1, okI_cons.2 ⟨?_, okI_nil⟩⟩
  simp only [itB, decide_eq_true_eq]
  exact ⟨h2, by have : ((256 ^ 1 : Nat) : Int) = 256 := by decide
                omega⟩
theorem De.w : De (pNum 2) (fun n => [itW n]) := fun t y r h => by
  obtain ⟨h1, h2, h3⟩ := de_num h
  refine ⟨by rw [ithBs_cons, ithBs_nil, List.append_nil]; exact h1, okI_cons.2 ⟨?_, okI_nil⟩⟩
  simp only [itW, decide_eq_true_eq]
  exact ⟨h2, by have : ((256 ^ 2 : Nat) : Int) = 65536 := by decide
                omega⟩
theorem De.t : De pText (fun x => [itT x]) := fun t y r h => by
  unfold pText at h
  obtain ⟨n, s, h1, h2⟩ := thenInv h; obtain ⟨e1, n0, n1⟩ := de_num h1
  split at h2
  · cases h2
  · rename_i hl
    simp only [Option.some.injEq, Prod.mk.injEq] at h2
    obtain ⟨rfl, rfl⟩ := h2
    have hsz : (⟨(s.take n.toNat).toArray⟩ : ByteArray).size = n.toNat := by
      simp only [ByteArray.size, List.size_toArray, List.length_take]; omega
    have h256 : ((256 ^ 2 : Nat) : Int) = 65536 := by decide
    refine ⟨?_, okI_cons.2 ⟨by simp only [itT, hsz, decide_eq_true_eq]; omega, okI_nil⟩⟩
    rw [ithBs_cons, ithBs_nil, List.append_nil]; simp only [itT, hsz]; rw [e1, List.append_assoc, List.take_append_drop]
end Go.Proofs.YtijeieamodjgbaaGreat
/- Messages told and read: part by part. No program in sight. -/
namespace Go.Proofs.YtijeieamodjgbaaGreat
set_option maxRecDepth 100000
open Go.RowKit
set_option linter.unusedVariables false
set_option linter.unusedSimpArgs false
theorem nil_null (q : Rq) : q.nil = q.null := rfl
theorem nil_canon {q : Rq} (h : q.nil = true) : q.canon = zeroRq := by
  obtain ⟨c, s, kind, key, b, id⟩ := q
  simp only [Rq.nil, nullQ, noneB, Bool.and_eq_true, decide_eq_true_eq] at h
  obtain ⟨⟨⟨⟨⟨rfl, rfl⟩, rfl⟩, rfl⟩, hk⟩, hb⟩ := h; have hk2 : key = ⟨#[]⟩ := ByteArray.ext (Array.eq_empty_of_size_eq_zero hk); subst hk2
  show (⟨0, 0, 0, ⟨#[]⟩, canonB b, 0⟩ : Rq) = ⟨0, 0, 0, ⟨#[]⟩, 0, 0⟩
  rw [hb]
theorem read_zero : readErr [0] = 0 ∧ readRq [0] = zeroRq := by
  have h : rdOk [0] = false := rdOk_no (by rw [zero_bad]; decide)
  exact ⟨readErr_nil rfl, readRq_no h⟩
theorem rq_read {q : Rq} (h : askB q = true) (hb : q.b < 18446744073709551616) : readErr q.text.data.toList = 0 ∧ readRq q.text.data.toList = q.canon := by
  unfold askB at h
  cases hr : q.right with
  | true =>
    obtain ⟨a1, a2⟩ := text_right hr; obtain ⟨b1, b2⟩ := rq_back q hr hb
    have hd : q.text.data.toList = textQ q.c q.s q.kind q.key q.b q.id := by rw [a1]
    rw [hd, readErr, if_pos b1, readRq, if_pos b1, b2]
    exact ⟨rfl, rfl⟩
  | false =>
    rw [hr, Bool.false_or] at h
    obtain ⟨a1, a2⟩ := text_null (r := q) (by rw [← nil_null]; exact h); rw [a1, nil_canon h]
    exact read_zero
theorem En.req {q : Rq} (h : askB q = true) (hb : q.b < 18446744073709551616) : En pReq [itT q.text] q.canon := by
  obtain ⟨h1, h2⟩ := rq_read h hb
  unfold pReq
  have := (En.t (t := q.text)).then (f := fun t => pIf (decide (readErr t.data.toList = 0)) (pRet (readRq t.data.toList))) (b := []) (y := q.canon) (En.if (by simpa using h1) (by rw [← h2]; exact En.ret _))
  rwa [List.append_nil] at this
theorem De.req : De pReq (fun q => [itT q.text]) := fun t y r h => by
  unfold pReq at h
  obtain ⟨x, s, h1, h2⟩ := thenInv h; obtain ⟨h3, h4⟩ := ifInv h2; obtain ⟨rfl, rfl⟩ := retInv h4; have := De.t _ _ _ h1
  show t = ithBs [itT (readRq x.data.toList).text] ++ s ∧ okI [itT (readRq x.data.toList).text]
  rw [(back_told (by simpa using h3)).2]
  exact this
theorem En.sig (s : Sg) : En pSig (itSig s) s := by
  unfold pSig itSig
  exact En.cons En.b (En.cons En.t (En.ret _))
theorem De.sig : De pSig itSig := fun t y r h => by
  unfold pSig at h
  obtain ⟨n, s1, h1, h2⟩ := thenInv h; obtain ⟨x, s2, h3, h4⟩ := thenInv h2; obtain ⟨rfl, rfl⟩ := retInv h4; obtain ⟨e1, k1⟩ := De.b _ _ _ h1; obtain ⟨e2, k2⟩ := De.t _ _ _ h3
  refine ⟨?_, okI_app.2 ⟨k1, k2⟩⟩
  rw [e1, e2, ← List.append_assoc, ← ithBs_app]
  rfl
theorem cnt_if {n m : Nat} (h : n ≤ m) : (!true || decide ((n : Int) ≤ (m : Int))) = true := by simp; omega
theorem En.sigs {l : List Sg} (h : l.length ≤ 16) : En (pSigs true) (itSigs l) l := by
  unfold pSigs itSigs
  have hr := En.rep (p := pSig) (f := itSig) (g := id) l (fun x _ => En.sig x)
  rw [List.map_id] at hr
  exact En.cons En.b (En.if (cnt_if h) hr)
theorem De.row {α : Type} {p : Ps α} {I : α → List Ith} (h : De p I) {t s r : List UInt8} {n : Int} {l : List α} (h1 : pNum 1 t = some (n, s)) (h2 : pRep p n.toNat s = some (l, r)) : n = (l.length : Int) ∧ t = ithBs (itB (l.length : Int) :: l.flatMap I) ++ r ∧ okI (itB (l.length : Int) :: l.flatMap I) := by
  obtain ⟨e1, k1⟩ := De.b _ _ _ h1; obtain ⟨e2, k2, k3⟩ := De.rep h _ _ _ _ h2; have hn := (de_num h1).2.1
  have hl : n = (l.length : Int) := by omega
  subst hl
  refine ⟨rfl, ?_, okI_app.2 ⟨k1, k2⟩⟩
  rw [e1, e2, ← List.append_assoc, ← ithBs_app]
  rfl
theorem De.sigs : De (pSigs true) itSigs := fun t y r h => by
  unfold pSigs at h
  obtain ⟨n, s1, h1, h2⟩ := thenInv h; obtain ⟨h3, h4⟩ := ifInv h2
  exact (De.row De.sig h1 h4).2
def Ce.canon (x : Ce) : Ce := { x with q := x.q.canon }
def Ch.canon (c : Ch) : Ch := { c with ce := c.ce.map Ce.canon }
def Mg.canon (m : Mg) : Mg := { m with q := m.q.canon, r := canonB m.r, ch := m.ch.map Ch.canon }
def CeOk (x : Ce) : Prop := askB x.q = true ∧ x.q.b < 18446744073709551616 ∧ x.sg.length ≤ 16
theorem En.cert {x : Ce} (h : CeOk x) : En (pCert true) (itCert x) x.canon := by
  unfold pCert itCert
  refine En.cons En.b (En.cons En.w (En.cons (En.req h.1 h.2.1) ?_))
  have := (En.sigs h.2.2).then (f := fun sg => pRet (⟨x.v, x.s, x.q.canon, sg⟩ : Ce)) (En.ret _)
  rwa [List.append_nil] at this
theorem De.cert : De (pCert true) itCert := fun t y r h => by
  unfold pCert at h
  obtain ⟨v, s1, h1, h⟩ := thenInv h; obtain ⟨sl, s2, h2, h⟩ := thenInv h; obtain ⟨q, s3, h3, h⟩ := thenInv h; obtain ⟨sg, s4, h4, h⟩ := thenInv h; obtain ⟨rfl, rfl⟩ := retInv h; obtain ⟨e1, k1⟩ := De.b _ _ _ h1; obtain ⟨e2, k2⟩ := De.w _ _ _ h2; obtain ⟨e3, k3⟩ := De.req _ _ _ h3; obtain ⟨e4, k4⟩ := De.sigs _ _ _ h4
  refine ⟨?_, okI_app.2 ⟨k1, okI_app.2 ⟨k2, okI_app.2 ⟨k3, k4⟩⟩⟩⟩
  rw [e1, e2, e3, e4]; simp only [← List.append_assoc, ← ithBs_app]
  rfl
def ChOk (c : Ch) : Prop := c.ce.length ≤ 4 ∧ ∀ x ∈ c.ce, CeOk x
theorem En.change {c : Ch} (h : ChOk c) : En (pChange true) (itChange c) c.canon := by
  unfold pChange itChange
  have hr := En.rep (p := pCert true) (f := itCert) (g := Ce.canon) c.ce (fun x hx => En.cert (h.2 x hx))
  have hs := (En.sig c.sg).then (f := fun sg => pRet (⟨c.fr, c.v, c.ce.map Ce.canon, sg⟩ : Ch)) (En.ret _)
  rw [List.append_nil] at hs
  exact En.cons En.b (En.cons En.b (En.cons En.b (En.if (cnt_if h.1) (hr.then hs))))
theorem De.change : De (pChange true) itChange := fun t y r h => by
  unfold pChange at h
  obtain ⟨fr, s1, h1, h⟩ := thenInv h; obtain ⟨v, s2, h2, h⟩ := thenInv h; obtain ⟨n, s3, h3, h⟩ := thenInv h; obtain ⟨_, h⟩ := ifInv h; obtain ⟨ce, s4, h4, h⟩ := thenInv h; obtain ⟨sg, s5, h5, h⟩ := thenInv h; obtain ⟨rfl, rfl⟩ := retInv h; obtain ⟨e1, k1⟩ := De.b _ _ _ h1; obtain ⟨e2, k2⟩ := De.b _ _ _ h2; obtain ⟨_, e3, k3⟩ := De.row De.cert h3 h4; obtain ⟨e5, k5⟩ := De.sig _ _ _ h5
  refine ⟨?_, okI_app.2 ⟨k1, okI_app.2 ⟨k2, okI_app.2 ⟨k3, k5⟩⟩⟩⟩
  rw [e1, e2, e3, e5]; simp only [← List.append_assoc, ← ithBs_app]
  rfl
theorem conf_back {e : Int} {l : List Int} (h : rightB e l = true) : readC (textS e l).data.toList = 0 ∧ readE (textS e l).data.toList = e ∧ readL (textS e l).data.toList = l := by
  have h0 := h
  simp only [rightB, Bool.and_eq_true, decide_eq_true_eq] at h0
  obtain ⟨⟨e0, e1⟩, hris⟩ := h0; have hl := risingB_len hris; obtain ⟨h1, h2, h3⟩ := read_text h (by omega) (fun x hx => by have := risingB_range hris x hx; omega) (by omega) (by omega)
  have hd : (textS e l).data.toList = textP e l := by rw [textS, if_pos h]
  rw [hd]
  exact ⟨readC_yes h1, h2, h3⟩
theorem conf_told {t : ByteArray} (h : readC t.data.toList = 0) : textS (readE t.data.toList) (readL t.data.toList) = t := by
  have hk : okB t.data.toList = true := by
    cases hk : okB t.data.toList with
    | true => rfl
    | false => rw [readC_no hk] at h; cases h
  obtain ⟨_, h2, h3, h4, h5⟩ := prog_ok hk; rw [h4, h5, textS, if_pos h2, h3]
def LkOk (k : Lk) : Prop := rightB k.1.1 k.1.2 = true ∧ k.2.length ≤ 16
theorem En.link {k : Lk} (h : LkOk k) : En (pLink true) (itLink k) k := by
  obtain ⟨⟨e, l⟩, sg⟩ := k; obtain ⟨h1, h2⟩ := h; obtain ⟨c1, c2, c3⟩ := conf_back h1
  unfold pLink itLink
  refine En.cons En.t (En.if (by simpa using c1) ?_)
  dsimp only
  rw [c2, c3]
  have := (En.sigs h2).then (f := fun sg => pRet (((e, l), sg) : Lk)) (En.ret _)
  rwa [List.append_nil] at this
theorem De.link : De (pLink true) itLink := fun t y r h => by
  unfold pLink at h
  obtain ⟨x, s1, h1, h⟩ := thenInv h; obtain ⟨h2, h⟩ := ifInv h; obtain ⟨sg, s3, h3, h⟩ := thenInv h; obtain ⟨rfl, rfl⟩ := retInv h; obtain ⟨e1, k1⟩ := De.t _ _ _ h1; obtain ⟨e3, k3⟩ := De.sigs _ _ _ h3
  unfold itLink
  dsimp only
  rw [conf_told (by simpa using h2)]
  refine ⟨?_, okI_app.2 ⟨k1, k3⟩⟩
  rw [e1, e3]; simp only [← List.append_assoc, ← ithBs_app]
  rfl
end Go.Proofs.YtijeieamodjgbaaGreat
/- Messages there and back; unlike ones; beginnings: the plain laws. No program in sight. -/
namespace Go.Proofs.YtijeieamodjgbaaGreat
set_option maxRecDepth 100000
open Go.RowKit
set_option linter.unusedVariables false
set_option linter.unusedSimpArgs false
def Ext {α : Type} (p : Ps α) : Prop := ∀ t x r u, p t = some (x, r) → p (t ++ u) = some (x, r ++ u)
section
variable {α β : Type}
theorem Ext.ret (x : α) : Ext (pRet x) := fun t y r u h => by obtain ⟨rfl, rfl⟩ := retInv h; rfl
theorem Ext.then {p : Ps α} {f : α → Ps β} (h : Ext p) (h2 : ∀ x, Ext (f x)) : Ext (pThen p f) := fun t y r u hp => by
  obtain ⟨x, s, h3, h4⟩ := thenInv hp; rw [pThen_some (h _ _ _ u h3)]
  exact h2 x _ _ _ u h4
theorem Ext.if {p : Ps α} {b : Bool} (h : Ext p) : Ext (pIf b p) := fun t y r u hp => by
  obtain ⟨h1, h2⟩ := ifInv hp
  unfold pIf
  rw [if_pos h1]
  exact h _ _ _ u h2
theorem Ext.rep {p : Ps α} (h : Ext p) : ∀ n, Ext (pRep p n)
  | 0 => Ext.ret _
  | n + 1 => h.then fun x => (Ext.rep h n).then fun l => Ext.ret _
end
theorem Ext.num (k : Nat) : Ext (pNum k) := fun t x r u h => by
  unfold pNum at h ⊢
  split at h
  · cases h
  · rename_i hl
    simp only [Option.some.injEq, Prod.mk.injEq] at h
    obtain ⟨rfl, rfl⟩ := h; rw [if_neg (by rw [List.length_append]; omega), List.take_append_of_le_length (by omega), List.drop_append_of_le_length (by omega)]
theorem Ext.text : Ext pText := by
  unfold pText
  refine (Ext.num 2).then fun n t x r u h => ?_
  split at h
  · cases h
  · rename_i hl
    simp only [Option.some.injEq, Prod.mk.injEq] at h
    obtain ⟨rfl, rfl⟩ := h; rw [if_neg (by rw [List.length_append]; omega), List.take_append_of_le_length (by omega), List.drop_append_of_le_length (by omega)]
theorem Ext.req : Ext pReq := Ext.text.then fun _ => (Ext.ret _).if
theorem Ext.sig : Ext pSig := (Ext.num 1).then fun _ => Ext.text.then fun _ => Ext.ret _
theorem Ext.sigs (L : Bool) : Ext (pSigs L) := (Ext.num 1).then fun _ => (Ext.sig.rep _).if
theorem Ext.cert (L : Bool) : Ext (pCert L) := (Ext.num 1).then fun _ => (Ext.num 2).then fun _ => Ext.req.then fun _ => (Ext.sigs L).then fun _ => Ext.ret _
theorem Ext.change (L : Bool) : Ext (pChange L) := (Ext.num 1).then fun _ => (Ext.num 1).then fun _ => (Ext.num 1).then fun _ => (((Ext.cert L).rep _).then fun _ => Ext.sig.then fun _ => Ext.ret _).if
theorem Ext.link (L : Bool) : Ext (pLink L) := Ext.text.then fun _ => ((Ext.sigs L).then fun _ => Ext.ret _).if
end Go.Proofs.YtijeieamodjgbaaGreat
