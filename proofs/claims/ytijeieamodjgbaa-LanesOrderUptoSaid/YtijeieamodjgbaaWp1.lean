
/- Messages told and read: the plain laws. No program in sight. -/
import Derived.Test.YtijeieamodjgbaaWm
import Derived.Test.YtijeieamodjgbaaDrP
namespace Go.Proofs.Ytijeieamodjgbaa
set_option maxRecDepth 100000
open Go.RowKit
set_option linter.unusedVariables false
set_option linter.unusedSimpArgs false

/-- Items' bytes; they can all be put. -/
def ithBs (l : List Ith) : List UInt8 := l.flatMap (·.2)
def okI (l : List Ith) : Prop := ∀ i ∈ l, i.1 = true
theorem ithBs_app (a b : List Ith) : ithBs (a ++ b) = ithBs a ++ ithBs b := by simp [ithBs]
theorem ithBs_cons (i : Ith) (r : List Ith) : ithBs (i :: r) = i.2 ++ ithBs r := by simp [ithBs]
theorem ithBs_nil : ithBs [] = [] := rfl
theorem okI_app {a b : List Ith} : okI (a ++ b) ↔ okI a ∧ okI b := by
  constructor
  · exact fun h => ⟨fun i hi => h i (by simp [hi]), fun i hi => h i (by simp [hi])⟩
  · rintro ⟨h1, h2⟩ i hi
    rcases List.mem_append.1 hi with hi | hi
    · exact h1 i hi
    · exact h2 i hi
theorem okI_cons {i : Ith} {r : List Ith} : okI (i :: r) ↔ i.1 = true ∧ okI r := by
  constructor
  · exact fun h => ⟨h i (by simp), fun j hj => h j (by simp [hj])⟩
  · rintro ⟨h1, h2⟩ j hj
    rcases List.mem_cons.1 hj with rfl | hj
    · exact h1
    · exact h2 j hj
theorem okI_nil : okI [] := fun i hi => by cases hi
theorem wIts_stuck : ∀ (l : List Ith) {s : W}, ¬ s.err = 0 → ¬ (wIts s l).err = 0
  | [], s, h => h
  | i :: r, s, h => by
    show ¬ (wIts (wIt s i) r).err = 0
    unfold wIt
    rw [wPut_err h]
    exact wIts_stuck r h
theorem wIts_done : ∀ (l : List Ith) {s : W}, (wIts s l).err = 0 → s.err = 0 ∧ okI l ∧ (wIts s l).out = s.out ++ ithBs l ∧ ((ithBs l).length : Int) ≤ max s.room 0
  | [], s, h => ⟨h, okI_nil, by simp [ithBs, wIts], by simp [ithBs]; omega⟩
  | i :: r, s, h => by
    have h' : (wIts (wIt s i) r).err = 0 := h
    obtain ⟨h1, h2, h3, h4⟩ := wIts_done r h'
    have hs : s.err = 0 := by
      rcases Decidable.em (s.err = 0) with h0 | h0
      · exact h0
      · unfold wIt at h1; rw [wPut_err h0] at h1; exact absurd h1 h0
    obtain ⟨ok, bs⟩ := i
    unfold wIt at h1 h3 h4
    dsimp only at h1 h3 h4
    cases ok with
    | false => rw [wPut_bad hs] at h1; cases h1
    | true =>
      rw [wPut_ok hs] at h1 h3 h4
      by_cases hr : s.room < bs.length
      · rw [wAdd_full hr] at h1; cases h1
      · rw [wAdd_room hr] at h3 h4
        refine ⟨hs, okI_cons.2 ⟨rfl, h2⟩, ?_, ?_⟩
        · show (wIts (wIt s (true, bs)) r).out = _
          unfold wIt
          dsimp only
          rw [wPut_ok hs, wAdd_room hr, h3, ithBs_cons, List.append_assoc]
        · rw [ithBs_cons, List.length_append]
          dsimp only at h4 ⊢
          omega
theorem wIts_good : ∀ (l : List Ith) {s : W}, s.err = 0 → okI l → ((ithBs l).length : Int) ≤ s.room → (wIts s l).err = 0 ∧ (wIts s l).out = s.out ++ ithBs l
  | [], s, h, _, _ => ⟨h, by simp [ithBs, wIts]⟩
  | i :: r, s, h, hk, hr => by
    obtain ⟨ok, bs⟩ := i
    obtain ⟨h1, h2⟩ := okI_cons.1 hk
    dsimp only at h1
    subst h1
    rw [ithBs_cons, List.length_append] at hr
    dsimp only at hr
    have hn : ¬ s.room < bs.length := by omega
    have e : wIt s (true, bs) = ⟨s.out ++ bs, s.room - bs.length, s.err⟩ := by unfold wIt; dsimp only; rw [wPut_ok h, wAdd_room hn]
    have ih := wIts_good r (s := wIt s (true, bs)) (by rw [e]; exact h) h2 (by rw [e]; dsimp only; omega)
    refine ⟨ih.1, ?_⟩
    show (wIts (wIt s (true, bs)) r).out = _
    rw [ih.2, e, ithBs_cons, List.append_assoc]

/-- What is put so is read so. -/
def En {α : Type} (p : Ps α) (l : List Ith) (y : α) : Prop := okI l → ∀ u, p (ithBs l ++ u) = some (y, u)
section
variable {α β : Type}
theorem En.ret (x : α) : En (pRet x) [] x := fun _ u => rfl
theorem En.then {p : Ps α} {f : α → Ps β} {a b : List Ith} {x : α} {y : β} (h : En p a x) (h2 : En (f x) b y) : En (pThen p f) (a ++ b) y := fun hk u => by
  obtain ⟨h3, h4⟩ := okI_app.1 hk
  rw [ithBs_app, List.append_assoc, pThen_some (h h3 _)]
  exact h2 h4 u
theorem En.cons {p : Ps α} {f : α → Ps β} {i : Ith} {b : List Ith} {x : α} {y : β} (h : En p [i] x) (h2 : En (f x) b y) : En (pThen p f) (i :: b) y := En.then (a := [i]) h h2
theorem En.if {p : Ps α} {a : List Ith} {x : α} {b : Bool} (hb : b = true) (h : En p a x) : En (pIf b p) a x := by
  have : pIf b p = p := by funext t; unfold pIf; rw [if_pos hb]
  rw [this]; exact h
theorem En.rep {p : Ps α} {f : β → List Ith} {g : β → α} : ∀ (l : List β), (∀ x ∈ l, En p (f x) (g x)) → En (pRep p l.length) (l.flatMap f) (l.map g)
  | [], _ => En.ret _
  | x :: r, h => by
    rw [List.flatMap_cons, List.length_cons, List.map_cons]
    have h1 := (h x (by simp)).then (f := fun y => pThen (pRep p r.length) fun l => pRet (y :: l)) ((En.rep r (fun z hz => h z (by simp [hz]))).then (f := fun l => pRet (g x :: l)) (En.ret _))
    rw [List.append_nil] at h1
    exact h1
end
theorem en_num {n : Int} {k m : Nat} (h : 0 ≤ n ∧ n ≤ m) (hm : m < 256 ^ k) (u : List UInt8) : pNum k (beN n.toNat k ++ u) = some (n, u) := by
  unfold pNum
  have hl := beN_len k n.toNat
  rw [if_neg (by rw [List.length_append, hl]; omega), List.take_left' hl, List.drop_left' hl, valBE_of_beN, Nat.mod_eq_of_lt (by omega)]
  congr 2
  omega
theorem En.b {n : Int} : En (pNum 1) [itB n] n := fun hk u => by
  have h := (okI_cons.1 hk).1
  simp only [itB, decide_eq_true_eq] at h
  rw [ithBs_cons, ithBs_nil, List.append_nil]
  exact en_num (m := 255) h (by decide) u
theorem En.w {n : Int} : En (pNum 2) [itW n] n := fun hk u => by
  have h := (okI_cons.1 hk).1
  simp only [itW, decide_eq_true_eq] at h
  rw [ithBs_cons, ithBs_nil, List.append_nil]
  exact en_num (m := 65535) h (by decide) u
theorem En.t {t : ByteArray} : En pText [itT t] t := fun hk u => by
  have h := (okI_cons.1 hk).1
  simp only [itT, decide_eq_true_eq] at h
  rw [ithBs_cons, ithBs_nil, List.append_nil]
  have h1 := en_num (n := (t.size : Int)) (k := 2) (m := 65535) ⟨by omega, by omega⟩ (by decide) (t.data.toList ++ u)
  rw [Int.toNat_natCast] at h1
  unfold pText
  show pThen (pNum 2) _ ((beN t.size 2 ++ t.data.toList) ++ u) = _
  rw [List.append_assoc, pThen_some h1]
  have hl : t.data.toList.length = t.size := by simp
  rw [Int.toNat_natCast, if_neg (by rw [List.length_append]; omega), List.take_left' hl, List.drop_left' hl]
/-- What is read was put so. -/
def De {α : Type} (p : Ps α) (I : α → List Ith) : Prop := ∀ t y r, p t = some (y, r) → t = ithBs (I y) ++ r ∧ okI (I y)
section
variable {α β : Type}
theorem thenInv {p : Ps α} {f : α → Ps β} {t r : List UInt8} {y : β} (h : pThen p f t = some (y, r)) : ∃ x s, p t = some (x, s) ∧ f x s = some (y, r) := by
  unfold pThen at h
  cases hp : p t with
  | none => rw [hp] at h; cases h
  | some z => rw [hp] at h; obtain ⟨x, s⟩ := z; exact ⟨x, s, rfl, h⟩
theorem ifInv {p : Ps α} {b : Bool} {t r : List UInt8} {y : α} (h : pIf b p t = some (y, r)) : b = true ∧ p t = some (y, r) := by
  unfold pIf at h
  split at h
  · exact ⟨by assumption, h⟩
  · cases h
theorem retInv {x y : α} {t r : List UInt8} (h : pRet x t = some (y, r)) : y = x ∧ t = r := by
  simp only [pRet, Option.some.injEq, Prod.mk.injEq] at h
  exact ⟨h.1.symm, h.2⟩
theorem De.rep {p : Ps α} {I : α → List Ith} (h : De p I) : ∀ (n : Nat) (t : List UInt8) (l : List α) (r : List UInt8), pRep p n t = some (l, r) → t = ithBs (l.flatMap I) ++ r ∧ okI (l.flatMap I) ∧ l.length = n
  | 0, t, l, r, hp => by
    obtain ⟨rfl, rfl⟩ := retInv hp
    exact ⟨rfl, okI_nil, rfl⟩
  | n + 1, t, l, r, hp => by
    obtain ⟨x, s, h1, h2⟩ := thenInv hp
    obtain ⟨l', s', h3, h4⟩ := thenInv h2
    obtain ⟨rfl, rfl⟩ := retInv h4
    obtain ⟨e1, k1⟩ := h _ _ _ h1
    obtain ⟨e2, k2, e3⟩ := De.rep h n _ _ _ h3
    refine ⟨?_, ?_, by rw [List.length_cons, e3]⟩
    · rw [e1, e2, List.flatMap_cons, ithBs_app, List.append_assoc]
    · rw [List.flatMap_cons]; exact okI_app.2 ⟨k1, k2⟩
end
theorem de_num {k : Nat} {t r : List UInt8} {n : Int} (h : pNum k t = some (n, r)) : t = beN n.toNat k ++ r ∧ 0 ≤ n ∧ n < ((256 ^ k : Nat) : Int) := by
  unfold pNum at h
  split at h
  · cases h
  · rename_i hl
    simp only [Option.some.injEq, Prod.mk.injEq] at h
    obtain ⟨rfl, rfl⟩ := h
    have hc : ¬ ((⟨t, false⟩ : R).bad = true ∨ (⟨t, false⟩ : R).rest.length < k) := by rintro (h1 | h1); cases h1; exact hl h1
    obtain ⟨r, h1, h2⟩ := rd_split (t := t) (k := k) (by rw [rNext_ok hc])
    rw [rNext_ok hc] at h1
    rw [rVal_ok hc] at h2
    injection h1 with h1
    have hlt := valBE_lt (t.take k)
    rw [List.length_take, Nat.min_eq_left (by omega)] at hlt
    refine ⟨?_, by omega, by omega⟩
    rw [Int.toNat_natCast, h1]
    exact h2
theorem De.b : De (pNum 1) (fun n => [itB n]) := fun t y r h => by
  obtain ⟨h1, h2, h3⟩ := de_num h
  refine ⟨by rw [ithBs_cons, ithBs_nil, List.append_nil]; exact h1, okI_cons.2 ⟨?_, okI_nil⟩⟩
  simp only [itB, decide_eq_true_eq]
  exact ⟨h2, by have : ((256 ^ 1 : Nat) : Int) = 256 := by decide
                omega⟩
theorem De.w : De (pNum 2) (fun n => [itW n]) := fun t y r h => by
  obtain ⟨h1, h2, h3⟩ := de_num h
  refine ⟨by rw [ithBs_cons, ithBs_nil, List.append_nil]; exact h1, okI_cons.2 ⟨?_, okI_nil⟩⟩
  simp only [itW, decide_eq_true_eq]
  exact ⟨h2, by have : ((256 ^ 2 : Nat) : Int) = 65536 := by decide
                omega⟩
theorem De.t : De pText (fun x => [itT x]) := fun t y r h => by
  unfold pText at h
  obtain ⟨n, s, h1, h2⟩ := thenInv h
  obtain ⟨e1, n0, n1⟩ := de_num h1
  split at h2
  · cases h2
  · rename_i hl
    simp only [Option.some.injEq, Prod.mk.injEq] at h2
    obtain ⟨rfl, rfl⟩ := h2
    have hsz : (⟨(s.take n.toNat).toArray⟩ : ByteArray).size = n.toNat := by
      simp only [ByteArray.size, List.size_toArray, List.length_take]; omega
    have h256 : ((256 ^ 2 : Nat) : Int) = 65536 := by decide
    refine ⟨?_, okI_cons.2 ⟨by simp only [itT, hsz, decide_eq_true_eq]; omega, okI_nil⟩⟩
    rw [ithBs_cons, ithBs_nil, List.append_nil]
    simp only [itT, hsz]
    rw [e1, List.append_assoc, List.take_append_drop]
end Go.Proofs.Ytijeieamodjgbaa

/- Messages told and read: part by part. No program in sight. -/
namespace Go.Proofs.Ytijeieamodjgbaa
set_option maxRecDepth 100000
open Go.RowKit
set_option linter.unusedVariables false
set_option linter.unusedSimpArgs false

theorem nil_null (q : Rq) : q.nil = q.null := rfl
theorem nil_canon {q : Rq} (h : q.nil = true) : q.canon = zeroRq := by
  obtain ⟨c, s, kind, key, b, id⟩ := q
  simp only [Rq.nil, nullQ, noneB, Bool.and_eq_true, decide_eq_true_eq] at h
  obtain ⟨⟨⟨⟨⟨rfl, rfl⟩, rfl⟩, rfl⟩, hk⟩, hb⟩ := h
  have hk2 : key = ⟨#[]⟩ := ByteArray.ext (Array.eq_empty_of_size_eq_zero hk)
  subst hk2
  show (⟨0, 0, 0, ⟨#[]⟩, canonB b, 0⟩ : Rq) = ⟨0, 0, 0, ⟨#[]⟩, 0, 0⟩
  rw [hb]
theorem read_zero : readErr [0] = 0 ∧ readRq [0] = zeroRq := by
  have h : rdOk [0] = false := rdOk_no (by rw [zero_bad]; decide)
  exact ⟨readErr_nil rfl, readRq_no h⟩
/-- What a request's text is read as. -/
theorem rq_read {q : Rq} (h : askB q = true) (hb : q.b < 18446744073709551616) : readErr q.text.data.toList = 0 ∧ readRq q.text.data.toList = q.canon := by
  unfold askB at h
  cases hr : q.right with
  | true =>
    obtain ⟨a1, a2⟩ := text_right hr
    obtain ⟨b1, b2⟩ := rq_back q hr hb
    have hd : q.text.data.toList = textQ q.c q.s q.kind q.key q.b q.id := by rw [a1]
    rw [hd, readErr, if_pos b1, readRq, if_pos b1, b2]
    exact ⟨rfl, rfl⟩
  | false =>
    rw [hr, Bool.false_or] at h
    obtain ⟨a1, a2⟩ := text_null (r := q) (by rw [← nil_null]; exact h)
    rw [a1, nil_canon h]
    exact read_zero
theorem En.req {q : Rq} (h : askB q = true) (hb : q.b < 18446744073709551616) : En pReq [itT q.text] q.canon := by
  obtain ⟨h1, h2⟩ := rq_read h hb
  unfold pReq
  have := (En.t (t := q.text)).then (f := fun t => pIf (decide (readErr t.data.toList = 0)) (pRet (readRq t.data.toList))) (b := []) (y := q.canon) (En.if (by simpa using h1) (by rw [← h2]; exact En.ret _))
  rwa [List.append_nil] at this
theorem De.req : De pReq (fun q => [itT q.text]) := fun t y r h => by
  unfold pReq at h
  obtain ⟨x, s, h1, h2⟩ := thenInv h
  obtain ⟨h3, h4⟩ := ifInv h2
  obtain ⟨rfl, rfl⟩ := retInv h4
  have := De.t _ _ _ h1
  show t = ithBs [itT (readRq x.data.toList).text] ++ s ∧ okI [itT (readRq x.data.toList).text]
  rw [(back_told (by simpa using h3)).2]
  exact this
theorem En.sig (s : Sg) : En pSig (itSig s) s := by
  unfold pSig itSig
  exact En.cons En.b (En.cons En.t (En.ret _))
theorem De.sig : De pSig itSig := fun t y r h => by
  unfold pSig at h
  obtain ⟨n, s1, h1, h2⟩ := thenInv h
  obtain ⟨x, s2, h3, h4⟩ := thenInv h2
  obtain ⟨rfl, rfl⟩ := retInv h4
  obtain ⟨e1, k1⟩ := De.b _ _ _ h1
  obtain ⟨e2, k2⟩ := De.t _ _ _ h3
  refine ⟨?_, okI_app.2 ⟨k1, k2⟩⟩
  rw [e1, e2, ← List.append_assoc, ← ithBs_app]
  rfl
theorem cnt_if {n m : Nat} (h : n ≤ m) : (!true || decide ((n : Int) ≤ (m : Int))) = true := by simp; omega
theorem En.sigs {l : List Sg} (h : l.length ≤ 16) : En (pSigs true) (itSigs l) l := by
  unfold pSigs itSigs
  have hr := En.rep (p := pSig) (f := itSig) (g := id) l (fun x _ => En.sig x)
  rw [List.map_id] at hr
  exact En.cons En.b (En.if (cnt_if h) hr)
/-- A count and a row. -/
theorem De.row {α : Type} {p : Ps α} {I : α → List Ith} (h : De p I) {t s r : List UInt8} {n : Int} {l : List α} (h1 : pNum 1 t = some (n, s)) (h2 : pRep p n.toNat s = some (l, r)) : n = (l.length : Int) ∧ t = ithBs (itB (l.length : Int) :: l.flatMap I) ++ r ∧ okI (itB (l.length : Int) :: l.flatMap I) := by
  obtain ⟨e1, k1⟩ := De.b _ _ _ h1
  obtain ⟨e2, k2, k3⟩ := De.rep h _ _ _ _ h2
  have hn := (de_num h1).2.1
  have hl : n = (l.length : Int) := by omega
  subst hl
  refine ⟨rfl, ?_, okI_app.2 ⟨k1, k2⟩⟩
  rw [e1, e2, ← List.append_assoc, ← ithBs_app]
  rfl
theorem De.sigs : De (pSigs true) itSigs := fun t y r h => by
  unfold pSigs at h
  obtain ⟨n, s1, h1, h2⟩ := thenInv h
  obtain ⟨h3, h4⟩ := ifInv h2
  exact (De.row De.sig h1 h4).2
def Ce.canon (x : Ce) : Ce := { x with q := x.q.canon }
def Ch.canon (c : Ch) : Ch := { c with ce := c.ce.map Ce.canon }
def Mg.canon (m : Mg) : Mg := { m with q := m.q.canon, r := canonB m.r, ch := m.ch.map Ch.canon }
def CeOk (x : Ce) : Prop := askB x.q = true ∧ x.q.b < 18446744073709551616 ∧ x.sg.length ≤ 16
theorem En.cert {x : Ce} (h : CeOk x) : En (pCert true) (itCert x) x.canon := by
  unfold pCert itCert
  refine En.cons En.b (En.cons En.w (En.cons (En.req h.1 h.2.1) ?_))
  have := (En.sigs h.2.2).then (f := fun sg => pRet (⟨x.v, x.s, x.q.canon, sg⟩ : Ce)) (En.ret _)
  rwa [List.append_nil] at this
theorem De.cert : De (pCert true) itCert := fun t y r h => by
  unfold pCert at h
  obtain ⟨v, s1, h1, h⟩ := thenInv h
  obtain ⟨sl, s2, h2, h⟩ := thenInv h
  obtain ⟨q, s3, h3, h⟩ := thenInv h
  obtain ⟨sg, s4, h4, h⟩ := thenInv h
  obtain ⟨rfl, rfl⟩ := retInv h
  obtain ⟨e1, k1⟩ := De.b _ _ _ h1
  obtain ⟨e2, k2⟩ := De.w _ _ _ h2
  obtain ⟨e3, k3⟩ := De.req _ _ _ h3
  obtain ⟨e4, k4⟩ := De.sigs _ _ _ h4
  refine ⟨?_, okI_app.2 ⟨k1, okI_app.2 ⟨k2, okI_app.2 ⟨k3, k4⟩⟩⟩⟩
  rw [e1, e2, e3, e4]
  simp only [← List.append_assoc, ← ithBs_app]
  rfl
def ChOk (c : Ch) : Prop := c.ce.length ≤ 4 ∧ ∀ x ∈ c.ce, CeOk x
theorem En.change {c : Ch} (h : ChOk c) : En (pChange true) (itChange c) c.canon := by
  unfold pChange itChange
  have hr := En.rep (p := pCert true) (f := itCert) (g := Ce.canon) c.ce (fun x hx => En.cert (h.2 x hx))
  have hs := (En.sig c.sg).then (f := fun sg => pRet (⟨c.fr, c.v, c.ce.map Ce.canon, sg⟩ : Ch)) (En.ret _)
  rw [List.append_nil] at hs
  exact En.cons En.b (En.cons En.b (En.cons En.b (En.if (cnt_if h.1) (hr.then hs))))
theorem De.change : De (pChange true) itChange := fun t y r h => by
  unfold pChange at h
  obtain ⟨fr, s1, h1, h⟩ := thenInv h
  obtain ⟨v, s2, h2, h⟩ := thenInv h
  obtain ⟨n, s3, h3, h⟩ := thenInv h
  obtain ⟨_, h⟩ := ifInv h
  obtain ⟨ce, s4, h4, h⟩ := thenInv h
  obtain ⟨sg, s5, h5, h⟩ := thenInv h
  obtain ⟨rfl, rfl⟩ := retInv h
  obtain ⟨e1, k1⟩ := De.b _ _ _ h1
  obtain ⟨e2, k2⟩ := De.b _ _ _ h2
  obtain ⟨_, e3, k3⟩ := De.row De.cert h3 h4
  obtain ⟨e5, k5⟩ := De.sig _ _ _ h5
  refine ⟨?_, okI_app.2 ⟨k1, okI_app.2 ⟨k2, okI_app.2 ⟨k3, k5⟩⟩⟩⟩
  rw [e1, e2, e3, e5]
  simp only [← List.append_assoc, ← ithBs_app]
  rfl
theorem conf_back {e : Int} {l : List Int} (h : rightB e l = true) : readC (textS e l).data.toList = 0 ∧ readE (textS e l).data.toList = e ∧ readL (textS e l).data.toList = l := by
  have h0 := h
  simp only [rightB, Bool.and_eq_true, decide_eq_true_eq] at h0
  obtain ⟨⟨e0, e1⟩, hris⟩ := h0
  have hl := risingB_len hris
  obtain ⟨h1, h2, h3⟩ := read_text h (by omega) (fun x hx => by have := risingB_range hris x hx; omega) (by omega) (by omega)
  have hd : (textS e l).data.toList = textP e l := by rw [textS, if_pos h]
  rw [hd]
  exact ⟨readC_yes h1, h2, h3⟩
theorem conf_told {t : ByteArray} (h : readC t.data.toList = 0) : textS (readE t.data.toList) (readL t.data.toList) = t := by
  have hk : okB t.data.toList = true := by
    cases hk : okB t.data.toList with
    | true => rfl
    | false => rw [readC_no hk] at h; cases h
  obtain ⟨_, h2, h3, h4, h5⟩ := prog_ok hk
  rw [h4, h5, textS, if_pos h2, h3]
def LkOk (k : Lk) : Prop := rightB k.1.1 k.1.2 = true ∧ k.2.length ≤ 16
theorem En.link {k : Lk} (h : LkOk k) : En (pLink true) (itLink k) k := by
  obtain ⟨⟨e, l⟩, sg⟩ := k
  obtain ⟨h1, h2⟩ := h
  obtain ⟨c1, c2, c3⟩ := conf_back h1
  unfold pLink itLink
  refine En.cons En.t (En.if (by simpa using c1) ?_)
  dsimp only
  rw [c2, c3]
  have := (En.sigs h2).then (f := fun sg => pRet (((e, l), sg) : Lk)) (En.ret _)
  rwa [List.append_nil] at this
theorem De.link : De (pLink true) itLink := fun t y r h => by
  unfold pLink at h
  obtain ⟨x, s1, h1, h⟩ := thenInv h
  obtain ⟨h2, h⟩ := ifInv h
  obtain ⟨sg, s3, h3, h⟩ := thenInv h
  obtain ⟨rfl, rfl⟩ := retInv h
  obtain ⟨e1, k1⟩ := De.t _ _ _ h1
  obtain ⟨e3, k3⟩ := De.sigs _ _ _ h3
  unfold itLink
  dsimp only
  rw [conf_told (by simpa using h2)]
  refine ⟨?_, okI_app.2 ⟨k1, k3⟩⟩
  rw [e1, e3]
  simp only [← List.append_assoc, ← ithBs_app]
  rfl
/-- What a message must have to be read again. -/
structure Shp13 (m : Mg) : Prop where
  q : askB m.q = true ∧ m.q.b < 18446744073709551616
  c : 0 ≤ m.c ∧ m.c ≤ 8
  r : m.r < 18446744073709551616
  nx : m.nx.length ≤ 10
  sg : m.sg.length ≤ 16
  ch : m.ch.length ≤ 10 ∧ ∀ c ∈ m.ch, ChOk c
  lk : m.lk.length ≤ 60 ∧ ∀ k ∈ m.lk, LkOk k
theorem itMsg_form (m : Mg) : itMsg m = itB m.k :: itW m.e :: itB m.v :: itW m.s :: itT m.q.text :: itT (resText m.c m.r) :: itT m.t :: itB m.nx.length :: (m.nx.flatMap (fun x => [itB x]) ++ (itSigs m.sg ++ (itB m.ch.length :: (m.ch.flatMap itChange ++ (itB m.lk.length :: m.lk.flatMap itLink))))) := by
  rw [show m.nx.flatMap (fun x => [itB x]) = m.nx.map itB from by rw [List.map_eq_flatMap]]
  simp [itMsg, itHead]
theorem res_ok {c : Int} {b : Nat} (hc : 0 ≤ c ∧ c ≤ 8) (hb : b < 18446744073709551616) : rsE (resText c b).data.toList = 0 ∧ rsC (resText c b).data.toList = c ∧ rsB (resText c b).data.toList = canonB b := by
  have : (resText c b).data.toList = resQ c b := by rw [resText, if_pos hc]
  rw [this]
  exact res_back hc hb
theorem res_same {t : ByteArray} (h : rsE t.data.toList = 0) : resText (rsC t.data.toList) (rsB t.data.toList) = t := by
  have hk : rsOk t.data.toList = true := by
    cases hk : rsOk t.data.toList with
    | true => rfl
    | false => unfold rsE at h; rw [if_neg (by simp [hk])] at h; cases h
  obtain ⟨h1, h2⟩ := res_told hk
  rw [resText, if_pos h1, h2]
theorem En.msg {m : Mg} (h : Shp13 m) : En (pMsg true) (itMsg m) m.canon := by
  rw [itMsg_form]
  obtain ⟨r1, r2, r3⟩ := res_ok h.c h.r
  unfold pMsg
  refine En.cons En.b (En.cons En.w (En.cons En.b (En.cons En.w (En.cons (En.req h.q.1 h.q.2) (En.cons En.t (En.if (by simpa using r1) (En.cons En.t ?_)))))))
  unfold pTail
  rw [r2, r3]
  have hn := En.rep (p := pNum 1) (f := fun x => [itB x]) (g := id) m.nx (fun x _ => En.b)
  rw [List.map_id] at hn
  have hc := En.rep (p := pChange true) (f := itChange) (g := Ch.canon) m.ch (fun x hx => En.change (h.ch.2 x hx))
  have hl := En.rep (p := pLink true) (f := itLink) (g := id) m.lk (fun x hx => En.link (h.lk.2 x hx))
  rw [List.map_id] at hl
  have hl2 := hl.then (f := fun lk => pRet (⟨m.k, m.e, m.v, m.s, m.q.canon, m.c, canonB m.r, m.t, m.nx, m.sg, m.ch.map Ch.canon, lk⟩ : Mg)) (En.ret _)
  rw [List.append_nil] at hl2
  exact En.cons En.b (En.if (cnt_if h.nx) (hn.then ((En.sigs h.sg).then (En.cons En.b (En.if (cnt_if h.ch.1) (hc.then (En.cons En.b (En.if (cnt_if h.lk.1) hl2))))))))
theorem De.msg : De (pMsg true) itMsg := fun t y r h => by
  unfold pMsg at h
  obtain ⟨k, s1, h1, h⟩ := thenInv h
  obtain ⟨e, s2, h2, h⟩ := thenInv h
  obtain ⟨v, s3, h3, h⟩ := thenInv h
  obtain ⟨s, s4, h4, h⟩ := thenInv h
  obtain ⟨q, s5, h5, h⟩ := thenInv h
  obtain ⟨rt, s6, h6, h⟩ := thenInv h
  obtain ⟨hr, h⟩ := ifInv h
  obtain ⟨x, s7, h7, h⟩ := thenInv h
  unfold pTail at h
  obtain ⟨n1, s8, h8, h⟩ := thenInv h
  obtain ⟨_, h⟩ := ifInv h
  obtain ⟨nx, s9, h9, h⟩ := thenInv h
  obtain ⟨sg, s10, h10, h⟩ := thenInv h
  obtain ⟨n2, s11, h11, h⟩ := thenInv h
  obtain ⟨_, h⟩ := ifInv h
  obtain ⟨ch, s12, h12, h⟩ := thenInv h
  obtain ⟨n3, s13, h13, h⟩ := thenInv h
  obtain ⟨_, h⟩ := ifInv h
  obtain ⟨lk, s14, h14, h⟩ := thenInv h
  obtain ⟨rfl, rfl⟩ := retInv h
  obtain ⟨e1, k1⟩ := De.b _ _ _ h1
  obtain ⟨e2, k2⟩ := De.w _ _ _ h2
  obtain ⟨e3, k3⟩ := De.b _ _ _ h3
  obtain ⟨e4, k4⟩ := De.w _ _ _ h4
  obtain ⟨e5, k5⟩ := De.req _ _ _ h5
  obtain ⟨e6, k6⟩ := De.t _ _ _ h6
  obtain ⟨e7, k7⟩ := De.t _ _ _ h7
  obtain ⟨_, e8, k8⟩ := De.row De.b h8 h9
  obtain ⟨e10, k10⟩ := De.sigs _ _ _ h10
  obtain ⟨_, e11, k11⟩ := De.row De.change h11 h12
  obtain ⟨_, e13, k13⟩ := De.row De.link h13 h14
  rw [itMsg_form]
  dsimp only
  rw [res_same (by simpa using hr)]
  have hk : okI ([itB k] ++ ([itW e] ++ ([itB v] ++ ([itW s] ++ ([itT q.text] ++ ([itT rt] ++ ([itT x] ++ ((itB (nx.length : Int) :: nx.flatMap (fun x => [itB x])) ++ (itSigs sg ++ ((itB (ch.length : Int) :: ch.flatMap itChange) ++ (itB (lk.length : Int) :: lk.flatMap itLink))))))))))) :=
    okI_app.2 ⟨k1, okI_app.2 ⟨k2, okI_app.2 ⟨k3, okI_app.2 ⟨k4, okI_app.2 ⟨k5, okI_app.2 ⟨k6, okI_app.2 ⟨k7, okI_app.2 ⟨k8, okI_app.2 ⟨k10, okI_app.2 ⟨k11, k13⟩⟩⟩⟩⟩⟩⟩⟩⟩⟩
  refine ⟨?_, hk⟩
  rw [e1, e2, e3, e4, e5, e6, e7, e8, e10, e11, e13]
  simp only [ithBs_cons, ithBs_app, ithBs_nil, List.append_assoc, List.append_nil]
end Go.Proofs.Ytijeieamodjgbaa

/- Messages there and back; unlike ones; beginnings: the plain laws. No program in sight. -/
namespace Go.Proofs.Ytijeieamodjgbaa
set_option maxRecDepth 100000
open Go.RowKit
set_option linter.unusedVariables false
set_option linter.unusedSimpArgs false

/-- Reals by 64 bits. -/
structure MgB (m : Mg) : Prop where
  q : m.q.b < 18446744073709551616
  r : m.r < 18446744073709551616
  ch : ∀ c ∈ m.ch, ∀ x ∈ c.ce, x.q.b < 18446744073709551616
theorem certs_in {e : Int} : ∀ {last : Int} {l : List Ce}, certsB e last l = true → ∀ x ∈ l, askB x.q = true ∧ x.sg.length ≤ 16
  | _, [], _, x, hx => by cases hx
  | last, y :: r, h, x, hx => by
    simp only [certsB, certB, sigsB, Bool.and_eq_true, decide_eq_true_eq] at h
    rcases List.mem_cons.1 hx with rfl | hx
    · exact ⟨h.1.1.2, h.1.2.2⟩
    · exact certs_in h.2 x hx
theorem change_in {e : Int} {c : Ch} (h : changeB e c = true) (hb : ∀ x ∈ c.ce, x.q.b < 18446744073709551616) : ChOk c := by
  simp only [changeB, Bool.and_eq_true, decide_eq_true_eq] at h
  exact ⟨h.1.1.2, fun x hx => ⟨(certs_in h.2 x hx).1, hb x hx, (certs_in h.2 x hx).2⟩⟩
theorem changes_in {e view : Int} : ∀ {last : Int} {l : List Ch}, changesB e view last l = true → (∀ c ∈ l, ∀ x ∈ c.ce, x.q.b < 18446744073709551616) → ∀ c ∈ l, ChOk c
  | _, [], _, _, c, hc => by cases hc
  | last, y :: r, h, hb, c, hc => by
    simp only [changesB, Bool.and_eq_true, decide_eq_true_eq] at h
    rcases List.mem_cons.1 hc with rfl | hc
    · exact change_in h.1.2 (hb _ (by simp))
    · exact changes_in h.2 (fun c hc => hb c (by simp [hc])) c hc
theorem links_in : ∀ {i : Nat} {l : List Lk}, linksB i l = true → ∀ k ∈ l, LkOk k
  | _, [], _, k, hk => by cases hk
  | i, y :: r, h, k, hk => by
    simp only [linksB, sigsB, Bool.and_eq_true, decide_eq_true_eq] at h
    rcases List.mem_cons.1 hk with rfl | hk
    · exact ⟨h.1.1.2, h.1.2.2⟩
    · exact links_in h.2 k hk
theorem okM_in {m : Mg} (h : okM m = true) : askB m.q = true ∧ (0 ≤ m.c ∧ m.c ≤ 8) ∧ m.nx.length ≤ 10 ∧ (m.ch.length ≤ 10 ∧ (m.ch = [] ∨ changesB m.e m.v (-1) m.ch = true)) ∧ (m.lk = [] ∨ ((m.lk.length : Int) = m.e ∧ linksB 0 m.lk = true)) := by
  have hq : m.q.nil = true → askB m.q = true := fun h => by unfold askB; rw [h, Bool.or_true]
  have hr : m.q.right = true → askB m.q = true := fun h => by unfold askB; rw [h, Bool.true_or]
  have hn : risingB m.nx = true → m.nx.length ≤ 10 := fun h => (risingB_len h).2
  have e0 : ([] : List Int).length ≤ 10 := by decide
  have e1 : ([] : List Ch).length ≤ 10 := by decide
  have z8 : (0 : Int) ≤ 0 ∧ (0 : Int) ≤ 8 := by decide
  unfold okM at h
  split at h
  · simp [restB] at h
    obtain ⟨⟨⟨_, h1⟩, _⟩, ⟨⟨⟨⟨⟨_, _⟩, h2, _⟩, _⟩, h3⟩, h4⟩, h5⟩ := h
    exact ⟨hr h1, by rw [h2]; exact z8, by rw [h3]; exact e0, ⟨by rw [h4]; exact e1, .inl h4⟩, .inl h5⟩
  split at h
  · simp [restB] at h
    obtain ⟨⟨_, h1⟩, ⟨⟨⟨⟨h2, _⟩, _⟩, h3⟩, h4⟩, h5⟩ := h
    exact ⟨h1.elim (fun h => hr h.1) (fun h => hq h.1), by rw [h2]; exact z8, by rw [h3]; exact e0, ⟨by rw [h4]; exact e1, .inl h4⟩, .inl h5⟩
  split at h
  · simp [restB] at h
    obtain ⟨⟨⟨_, h1⟩, _⟩, ⟨⟨⟨⟨h2, _⟩, _⟩, h3⟩, h4⟩, h5⟩ := h
    exact ⟨h1, by rw [h2]; exact z8, by rw [h3]; exact e0, ⟨by rw [h4]; exact e1, .inl h4⟩, .inl h5⟩
  split at h
  · simp [restB] at h
    obtain ⟨⟨⟨_, h1⟩, _⟩, ⟨⟨⟨⟨h2, _⟩, _⟩, h3⟩, h4⟩, h5⟩ := h
    exact ⟨h1, by rw [h2]; exact z8, by rw [h3]; exact e0, ⟨by rw [h4]; exact e1, .inl h4⟩, .inl h5⟩
  split at h
  · simp [restB] at h
    obtain ⟨⟨⟨_, h1⟩, _⟩, ⟨⟨⟨⟨_, h0⟩, h2, _⟩, h4⟩, h5⟩⟩ := h
    exact ⟨hq h0, by rw [h2]; exact z8, hn h1, ⟨by rw [h4]; exact e1, .inl h4⟩, .inl h5⟩
  split at h
  · simp [restB] at h
    obtain ⟨⟨h6, h1⟩, ⟨⟨⟨⟨⟨_, h0⟩, h2, _⟩, _⟩, h3⟩, _⟩, h5⟩ := h
    exact ⟨hq h0, by rw [h2]; exact z8, by rw [h3]; exact e0, ⟨by omega, .inr h1⟩, .inl h5⟩
  split at h
  · simp [restB] at h
    obtain ⟨⟨⟨_, h6⟩, h1⟩, ⟨⟨⟨⟨⟨_, h0⟩, h2, _⟩, _⟩, h3⟩, _⟩, h5⟩ := h
    exact ⟨hq h0, by rw [h2]; exact z8, by rw [h3]; exact e0, ⟨h6, .inr h1⟩, .inl h5⟩
  split at h
  · simp [restB] at h
    obtain ⟨⟨⟨h1, h2⟩, h2'⟩, ⟨⟨⟨⟨⟨_, _⟩, _⟩, h3⟩, _⟩, h4⟩, h5⟩ := h
    exact ⟨hr h1, ⟨h2, h2'⟩, by rw [h3]; exact e0, ⟨by rw [h4]; exact e1, .inl h4⟩, .inl h5⟩
  split at h
  · simp [restB] at h
    obtain ⟨⟨⟨⟨⟨⟨⟨⟨_, _⟩, h0⟩, h2, _⟩, _⟩, h3⟩, _⟩, h4⟩, h5⟩ := h
    exact ⟨hq h0, by rw [h2]; exact z8, by rw [h3]; exact e0, ⟨by rw [h4]; exact e1, .inl h4⟩, .inl h5⟩
  split at h
  · simp [restB] at h
    obtain ⟨⟨⟨_, h6⟩, h1⟩, ⟨⟨⟨_, h0⟩, h2, _⟩, h3⟩, h4⟩ := h
    exact ⟨hq h0, by rw [h2]; exact z8, by rw [h3]; exact e0, ⟨by rw [h4]; exact e1, .inl h4⟩, .inr ⟨h6, h1⟩⟩
  · cases h
theorem shape13 {m : Mg} (h : fitsP m = true) (hb : MgB m) : Shp13 m := by
  have h0 := h
  simp only [fitsP, sigsB, Bool.and_eq_true, decide_eq_true_eq] at h0
  obtain ⟨⟨⟨e0, e1⟩, _, hs⟩, hok⟩ := h0
  obtain ⟨h1, h2, h3, ⟨h4, h5⟩, h6⟩ := okM_in hok
  refine ⟨⟨h1, hb.q⟩, h2, hb.r, h3, hs, ⟨h4, ?_⟩, ?_⟩
  · rcases h5 with h5 | h5
    · rw [h5]; intro c hc; cases hc
    · exact changes_in h5 hb.ch
  · rcases h6 with h6 | ⟨h6, h7⟩
    · rw [h6]; exact ⟨by decide, fun k hk => by cases hk⟩
    · exact ⟨by omega, links_in h7⟩
/-- A message with bytes. -/
theorem told13 {m : Mg} (h : mgErr m = 0) (hb : MgB m) : kindB m = true ∧ fitsP m = true ∧ (mgText m).data.toList = ithBs (itMsg m) ∧ okI (itMsg m) ∧ (mgText m).size ≤ 65536 ∧ Shp13 m := by
  unfold mgErr at h
  split at h
  · cases h
  · rename_i hk
    split at h
    · cases h
    · rename_i hf
      split at h
      · rename_i he
        have hk : kindB m = true := by simpa using hk
        have hf : fitsP m = true := by simpa using hf
        obtain ⟨_, h2, h3, h4⟩ := wIts_done (itMsg m) (s := wNew 65536) he
        have ht : (mgText m).data.toList = ithBs (itMsg m) := by
          unfold mgText
          rw [hk, hf, Bool.true_and, if_pos rfl, if_pos he]
          exact h3
        refine ⟨hk, hf, ht, h2, ?_, shape13 hf hb⟩
        have hl := congrArg List.length ht
        rw [Array.length_toList] at hl
        have : ((ithBs (itMsg m)).length : Int) ≤ max (wNew 65536).room 0 := h4
        rw [show max (wNew 65536).room 0 = 65536 by decide] at this
        show (mgText m).data.size ≤ 65536
        omega
      · cases h
theorem canon_nil (q : Rq) : q.canon.nil = q.nil := by
  show nullQ q.c q.s q.kind q.key (canonB q.b) q.id = nullQ q.c q.s q.kind q.key q.b q.id
  unfold nullQ
  rw [noneB_canon]
theorem canon_ask (q : Rq) : askB q.canon = askB q := by unfold askB; rw [right_canon, canon_nil]
theorem certs_canon {e : Int} : ∀ (last : Int) (l : List Ce), certsB e last (l.map Ce.canon) = certsB e last l
  | _, [] => rfl
  | last, x :: r => by
    show (certB e last x.canon && certsB e x.s (r.map Ce.canon)) = (certB e last x && certsB e x.s r)
    rw [certs_canon x.s r]
    congr 1
    show (ofB e x.s && decide (last < x.s) && decide (0 ≤ x.v) && decide (x.v ≤ 15) && askB x.q.canon && sigsB x.sg) = _
    rw [canon_ask]
    rfl
theorem changes_canon {e view : Int} : ∀ (last : Int) (l : List Ch), changesB e view last (l.map Ch.canon) = changesB e view last l
  | _, [] => rfl
  | last, c :: r => by
    show (decide (c.v = view) && decide (last < c.fr) && changeB e c.canon && changesB e view c.fr (r.map Ch.canon)) = (decide (c.v = view) && decide (last < c.fr) && changeB e c && changesB e view c.fr r)
    rw [changes_canon c.fr r]
    congr 2
    show (decide (0 ≤ c.fr) && decide (c.fr < 16) && decide (1 ≤ c.v) && decide (c.v ≤ 15) && decide ((c.ce.map Ce.canon).length ≤ 4) && byB c.sg && certsB e 0 (c.ce.map Ce.canon)) = _
    rw [certs_canon, List.length_map]
    rfl
theorem rest_canon (b : But) (m : Mg) : restB b m.canon = restB b m := by
  unfold restB
  show (_ && (b.q || m.q.canon.nil) && (b.r || (decide (m.c = 0) && decide (canonB (canonB m.r) = 0))) && _ && _ && _ && (b.ch || decide ((m.ch.map Ch.canon).length = 0)) && _) = _
  rw [canon_nil, canon_idem, List.length_map]
  rfl
theorem ok_canon (m : Mg) : okM m.canon = okM m := by
  unfold okM
  simp only [rest_canon]
  show (if m.k = 1 then decide (m.e = 0) && m.q.canon.right && _ && _ else if m.k = 2 then viewB m && _ && (m.q.canon.right && _ || m.q.canon.nil && _) && _ else if m.k = 3 then viewB m && _ && askB m.q.canon && _ && _ else if m.k = 4 then viewB m && _ && askB m.q.canon && _ && _ else if m.k = 5 then _ else if m.k = 6 then decide ((m.ch.map Ch.canon).length = 1) && changesB m.e m.v (-1) (m.ch.map Ch.canon) && _ else if m.k = 7 then decide (1 ≤ (m.ch.map Ch.canon).length) && decide ((m.ch.map Ch.canon).length ≤ 10) && changesB m.e m.v (-1) (m.ch.map Ch.canon) && _ else if m.k = 8 then m.q.canon.right && _ && _ && _ else if m.k = 9 then _ else if m.k = 10 then _ else _) = _
  rw [right_canon, canon_nil, canon_ask, changes_canon, List.length_map]
  rfl
theorem fits_canon (m : Mg) : fitsP m.canon = fitsP m := by
  unfold fitsP
  rw [ok_canon]
  rfl
/-- What Bytes tells is read again, whatever stands behind. -/
theorem back13 {m : Mg} (h : mgErr m = 0) (hb : MgB m) : readMg (mgText m).data.toList = some m.canon ∧ ∀ u, pMsg true ((mgText m).data.toList ++ u) = some (m.canon, u) := by
  obtain ⟨h1, h2, h3, h4, h5, h6⟩ := told13 h hb
  have hp : ∀ u, pMsg true ((mgText m).data.toList ++ u) = some (m.canon, u) := fun u => by rw [h3]; exact En.msg h6 h4 u
  refine ⟨?_, hp⟩
  have h0 := hp []
  rw [List.append_nil] at h0
  unfold readMg
  rw [h0]
  show (if (kindB m.canon && fitsP m.canon) = true then some m.canon else none) = _
  rw [fits_canon, show kindB m.canon = kindB m from rfl, h1, h2]
  rfl
/-- What is read is told as just these bytes. -/
theorem again13 {t : ByteArray} {m : Mg} (h : readMg t.data.toList = some m) (hl : t.size ≤ 65536) : mgErr m = 0 ∧ mgText m = t := by
  unfold readMg at h
  split at h
  · rename_i m' hp
    split at h
    · rename_i hk
      injection h with h
      subst h
      rw [Bool.and_eq_true] at hk
      obtain ⟨e1, k1⟩ := De.msg _ _ _ hp
      rw [List.append_nil] at e1
      have hlen : (ithBs (itMsg m')).length = t.size := by rw [← e1]; simp
      obtain ⟨g1, g2⟩ := wIts_good (itMsg m') (s := wNew 65536) rfl k1 (by show ((ithBs (itMsg m')).length : Int) ≤ max (65536 : Int) 0; omega)
      have g3 : (msgS m').out = ithBs (itMsg m') := g2
      have g4 : (msgS m').err = 0 := g1
      constructor
      · unfold mgErr
        rw [hk.1, hk.2, if_neg (by decide), if_neg (by decide), if_pos g4]
      · unfold mgText
        rw [hk.1, hk.2, Bool.true_and, if_pos rfl, if_pos g4, g3, ← e1]
    · cases h
  · cases h
/-- More behind changes nothing of what a parser reads. -/
def Ext {α : Type} (p : Ps α) : Prop := ∀ t x r u, p t = some (x, r) → p (t ++ u) = some (x, r ++ u)
section
variable {α β : Type}
theorem Ext.ret (x : α) : Ext (pRet x) := fun t y r u h => by obtain ⟨rfl, rfl⟩ := retInv h; rfl
theorem Ext.then {p : Ps α} {f : α → Ps β} (h : Ext p) (h2 : ∀ x, Ext (f x)) : Ext (pThen p f) := fun t y r u hp => by
  obtain ⟨x, s, h3, h4⟩ := thenInv hp
  rw [pThen_some (h _ _ _ u h3)]
  exact h2 x _ _ _ u h4
theorem Ext.if {p : Ps α} {b : Bool} (h : Ext p) : Ext (pIf b p) := fun t y r u hp => by
  obtain ⟨h1, h2⟩ := ifInv hp
  unfold pIf
  rw [if_pos h1]
  exact h _ _ _ u h2
theorem Ext.rep {p : Ps α} (h : Ext p) : ∀ n, Ext (pRep p n)
  | 0 => Ext.ret _
  | n + 1 => h.then fun x => (Ext.rep h n).then fun l => Ext.ret _
end
theorem Ext.num (k : Nat) : Ext (pNum k) := fun t x r u h => by
  unfold pNum at h ⊢
  split at h
  · cases h
  · rename_i hl
    simp only [Option.some.injEq, Prod.mk.injEq] at h
    obtain ⟨rfl, rfl⟩ := h
    rw [if_neg (by rw [List.length_append]; omega), List.take_append_of_le_length (by omega), List.drop_append_of_le_length (by omega)]
theorem Ext.text : Ext pText := by
  unfold pText
  refine (Ext.num 2).then fun n t x r u h => ?_
  split at h
  · cases h
  · rename_i hl
    simp only [Option.some.injEq, Prod.mk.injEq] at h
    obtain ⟨rfl, rfl⟩ := h
    rw [if_neg (by rw [List.length_append]; omega), List.take_append_of_le_length (by omega), List.drop_append_of_le_length (by omega)]
theorem Ext.req : Ext pReq := Ext.text.then fun _ => (Ext.ret _).if
theorem Ext.sig : Ext pSig := (Ext.num 1).then fun _ => Ext.text.then fun _ => Ext.ret _
theorem Ext.sigs (L : Bool) : Ext (pSigs L) := (Ext.num 1).then fun _ => (Ext.sig.rep _).if
theorem Ext.cert (L : Bool) : Ext (pCert L) := (Ext.num 1).then fun _ => (Ext.num 2).then fun _ => Ext.req.then fun _ => (Ext.sigs L).then fun _ => Ext.ret _
theorem Ext.change (L : Bool) : Ext (pChange L) := (Ext.num 1).then fun _ => (Ext.num 1).then fun _ => (Ext.num 1).then fun _ => (((Ext.cert L).rep _).then fun _ => Ext.sig.then fun _ => Ext.ret _).if
theorem Ext.link (L : Bool) : Ext (pLink L) := Ext.text.then fun _ => ((Ext.sigs L).then fun _ => Ext.ret _).if
theorem Ext.msg (L : Bool) : Ext (pMsg L) := (Ext.num 1).then fun _ => (Ext.num 2).then fun _ => (Ext.num 1).then fun _ => (Ext.num 2).then fun _ => Ext.req.then fun _ => Ext.text.then fun _ => (Ext.text.then fun _ =>
  (Ext.num 1).then fun _ => (((Ext.num 1).rep _).then fun _ => (Ext.sigs L).then fun _ => (Ext.num 1).then fun _ => (((Ext.change L).rep _).then fun _ => (Ext.num 1).then fun _ => (((Ext.link L).rep _).then fun _ => Ext.ret _).if).if).if).if
/-- No beginning of a message's bytes is a message's. -/
theorem cut13 {m : Mg} (h : mgErr m = 0) (hb : MgB m) {k : Nat} (hk : k < (mgText m).size) : readMg ((mgText m).data.toList.take k) = none := by
  have h0 := (back13 h hb).2 []
  rw [List.append_nil] at h0
  unfold readMg
  split
  · rename_i m' hp
    have h1 := Ext.msg true _ _ _ ((mgText m).data.toList.drop k) hp
    rw [List.take_append_drop, h0, List.nil_append] at h1
    simp only [Option.some.injEq, Prod.mk.injEq] at h1
    have h2 := congrArg List.length h1.2
    rw [List.length_drop, Array.length_toList] at h2
    have : (mgText m).data.size = (mgText m).size := rfl
    simp at h2
    omega
  · rfl
/-- Nor with more behind. -/
theorem more13 {m : Mg} (h : mgErr m = 0) (hb : MgB m) {u : List UInt8} (hu : u ≠ []) : readMg ((mgText m).data.toList ++ u) = none := by
  unfold readMg
  rw [(back13 h hb).2 u]
  cases u with
  | nil => exact absurd rfl hu
  | cons x r => rfl
theorem pos13 {m : Mg} (h : mgErr m = 0) (hb : MgB m) : 1 ≤ (mgText m).size ∧ (mgText m).size ≤ 65536 := by
  obtain ⟨h1, h2, h3, h4, h5, h6⟩ := told13 h hb
  refine ⟨?_, h5⟩
  have hl := congrArg List.length h3
  rw [Array.length_toList, itMsg_form, ithBs_cons, List.length_append] at hl
  have : (itB m.k).2.length = 1 := rfl
  have : (mgText m).data.size = (mgText m).size := rfl
  omega
/-- Messages have the same bytes just if they are the same. -/
theorem unlike13 {a b : Mg} (ha : mgErr a = 0) (hb : mgErr b = 0) (ba : MgB a) (bb : MgB b) : mgText a = mgText b ↔ a.canon = b.canon := by
  have h1 := back13 ha ba
  have h2 := back13 hb bb
  constructor
  · intro h
    have h3 := h1.1
    rw [h, h2.1] at h3
    injection h3 with h3
    exact h3.symm
  · intro h
    have h3 := h1.2 []
    have h4 := h2.2 []
    rw [List.append_nil] at h3 h4
    obtain ⟨e1, _⟩ := De.msg _ _ _ h3
    obtain ⟨e2, _⟩ := De.msg _ _ _ h4
    rw [List.append_nil] at e1 e2
    rw [h, ← e2] at e1
    exact ByteArray.ext (Array.toList_inj.1 e1)
end Go.Proofs.Ytijeieamodjgbaa
