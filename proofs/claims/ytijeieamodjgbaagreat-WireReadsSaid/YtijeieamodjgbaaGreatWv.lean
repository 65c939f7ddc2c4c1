
/- Wire: walk of the reader's message. (printed by mkWv.py) -/
import Derived.Test.YtijeieamodjgbaaGreatOm
import Derived.Test.YtijeieamodjgbaaGreatWr
import Derived.Test.YtijeieamodjgbaaGreatWe

namespace Go.Proofs.YtijeieamodjgbaaGreat
set_option maxRecDepth 100000
open Go.RowKit Go.Deep
attribute [local irreducible] wpQuiet
set_option linter.unusedVariables false
set_option linter.unusedSimpArgs false
attribute [local go_sem] run_store_float

/-- To read P from s comes down to reading Q from s'. -/
def To {α : Type} (P : Ps α) (s : R) (Q : Ps α) (s' : R) : Prop := (∀ x r, Pr Q s' x r → Pr P s x r) ∧ (No Q s' → No P s)
theorem To.refl {α : Type} (P : Ps α) (s : R) : To P s P s := ⟨fun _ _ h => h, fun h => h⟩
theorem To.step {α β : Type} {P : Ps α} {s s1 s2 : R} {p : Ps β} {f : β → Ps α} {x : β} (T : To P s (pThen p f) s1) (h : Pr p s1 x s2) : To P s (f x) s2 := ⟨fun y r hy => T.1 y r (h.then hy), fun hn => T.2 (No.step h hn)⟩
theorem To.no {α β : Type} {P : Ps α} {s s1 : R} {p : Ps β} {f : β → Ps α} (T : To P s (pThen p f) s1) (h : No p s1) : No P s := T.2 h.then
theorem To.ok {α β : Type} {P : Ps α} {s s1 s2 : R} {p : Ps β} {b : β → Bool} {f : β → Ps α} {x : β} (T : To P s (pThen p fun x => pIf (b x) (f x)) s1) (h : Pr p s1 x s2) (hm : (b x && !s2.bad) = true) : To P s (f x) s2 := by
  rw [Bool.and_eq_true] at hm
  have T2 := T.step h
  exact ⟨fun y r hy => T2.1 y r (hy.if hm.1), fun hn => T2.2 (no_if hn)⟩
theorem To.bad {α β : Type} {P : Ps α} {s s1 s2 : R} {p : Ps β} {b : β → Bool} {f : β → Ps α} {x : β} (T : To P s (pThen p fun x => pIf (b x) (f x)) s1) (h : Pr p s1 x s2) (hm : (b x && !s2.bad) = false) : No P s := by
  cases hb : s2.bad with
  | true => exact T.2 (h.bad hb).then
  | false =>
    rw [hb, Bool.not_false, Bool.and_true] at hm
    exact T.2 (No.step h (No.if hm))
theorem rsC_i64 (t : List UInt8) : i64 (rsC t) := by
  unfold rsC
  split
  · exact rVal_i64 ⟨t, false⟩ 1 (by decide)
  · exact ⟨by decide, by decide⟩
theorem owns_heap {w u : World} {B e s n : Nat} {v : Value} {xs : List Value} (h : w.ownsRow B e s v n xs) (hu : u.heap = w.heap) : u.ownsRow B e s v n xs := by
  refine ⟨h.1, ?_⟩
  rcases h.2 with h | ⟨g, cap, cur, hv, hb, hg, r⟩
  · exact .inl h
  · exact .inr ⟨g, cap, cur, hv, hb, by rw [hu]; exact hg, r⟩
theorem info_change : (Tryz.prog.info? 86).map (fun i => (i.zero, i.size, i.bytes)) = some (some (.agg #[.int .i64 0, .int .i64 0, .slice none 0 0, .int .i64 0, .string ⟨#[]⟩]), 5, 64) := by kernel_rfl
theorem info_link13 : (Tryz.prog.info? 93).map (fun i => (i.zero, i.size, i.bytes)) = some (some (.agg #[.int .i64 0, .slice none 0 0, .slice none 0 0]), 3, 56) := by kernel_rfl
theorem alloc_msg (ρ : Operand → Value) (o : Oper) (ho : o.op = .alloc 35) (w : World) : (execOp ρ o).run Tryz.prog w = .ok (.value (.pointer (some ⟨w.heap.size, 0, none⟩))) (w.alloc (.cells zeroMg.toArray 35 (0, 0))) := by
  rw [zeroMg_row]
  simp only [execOp, ho]
  go_simp
theorem keep_sets {X : Nat → Prop} {w0 : World} {b : Nat} (hb : w0.heap.size ≤ b ∨ X b) : ∀ (vs : List Value) {w : World} {j : Nat}, Keep X w0 w → Keep X w0 (w.setCells b j vs)
  | [], w, j, h => h
  | v :: r, w, j, h => keep_sets hb r (h.set hb j v)
theorem msg_make {w : World} {m : Mg} {a1 : Option Addr} {n1 c1 : Nat} {a2 : Option Addr} {n2 c2 : Nat} {a3 : Option Addr} {n3 c3 : Nat} {a4 : Option Addr} {n4 c4 : Nat} (h : MsgIn w m a1 n1 c1 a2 n2 c2 a3 n3 c3 a4 n4 c4) : shMsg.E w m (mgCs m a1 n1 c1 a2 n2 c2 a3 n3 c3 a4 n4 c4) :=
  ⟨[.int .i64 m.k], _, rfl, ⟨rfl, h.k⟩, [.int .i64 m.e], _, rfl, ⟨rfl, h.e⟩, [.int .i64 m.v], _, rfl, ⟨rfl, h.v⟩, [.int .i64 m.s], _, rfl, ⟨rfl, h.s⟩, m.q.cs, _, rfl, req_rob m.q h.q (fun _ => True) w w (Keep.refl _ _),
    [.int .i64 m.c, .float .f64 m.r], _, rfl, ⟨[.int .i64 m.c], [.float .f64 m.r], rfl, ⟨rfl, h.c⟩, rfl, h.r⟩, [.string m.t], _, rfl, ⟨rfl, h.t⟩, [.slice a1 n1 c1], _, rfl, ⟨a1, n1, c1, rfl, h.nx⟩, [.slice a2 n2 c2], _, rfl, ⟨a2, n2, c2, rfl, h.sg⟩, [.slice a3 n3 c3], _, rfl, ⟨a3, n3, c3, rfl, h.ch⟩, a4, n4, c4, rfl, h.lk⟩
/-- What reading a message leaves. -/
def MsgP (w : World) (p : Nat) (t : List UInt8) (e : Ending) (w' : World) : Prop :=
  Keep (fun k => k = p) w w' ∧ ((e = .panicked pan13 ∧ readMg t = none) ∨ ∃ m cs, e = .returned (aggF cs) ∧ readMg t = some m ∧ Rob (fun k => k < w.heap.size) (fun u => shMsg.E u m cs) w')
theorem read_end {t : List UInt8} {m : Mg} {s : R} (h : Pr (pMsg true) ⟨t, false⟩ m s) : readMg t = if (decide (endE s = 0) && (kindB m && fitsP m)) = true then some m else none := by
  unfold readMg
  cases hb : s.bad with
  | true =>
    have h1 := h.bad hb
    have h2 : pMsg true t = none := by
      rcases h1 with h1 | h1
      · cases h1
      · exact h1
    have h3 : ¬ endE s = 0 := by unfold endE; rw [if_pos hb]; decide
    rw [h2, decide_eq_false h3]
    rfl
  | false =>
    have h1 := (h.good hb).2
    rw [show pMsg true t = _ from h1]
    obtain ⟨r, b⟩ := s
    cases hb
    cases r with
    | nil =>
      have h3 : endE ⟨[], false⟩ = 0 := rfl
      rw [decide_eq_true h3, Bool.true_and]
    | cons x r =>
      have h3 : ¬ endE ⟨x :: r, false⟩ = 0 := by
        unfold endE
        rw [if_neg (by simp), if_pos (by simp)]
        decide
      rw [decide_eq_false h3]
      rfl
theorem no_msg {t : List UInt8} (h : No (pMsg true) ⟨t, false⟩) : readMg t = none := by
  rcases h with h | h
  · cases h
  · unfold readMg
    rw [show pMsg true t = none from h]

set_option maxHeartbeats 8000000 in
theorem rmsg_any (p : Nat) (text : ByteArray) (t : List UInt8) (w : World) (h : PRd w p text ⟨t, false⟩) :
    Calls Tryz.prog 29 #[.agg #[.pointer (some ⟨p, 0, none⟩)]] w (MsgP w p t) := by
  obtain ⟨w1, hw1⟩ : ∃ u, u = w.alloc (.cells #[.pointer (some ⟨p, 0, none⟩)] 71 (0, 0)) := ⟨_, rfl⟩
  obtain ⟨w2, hw2⟩ : ∃ u, u = w1.alloc (.cells #[.int .i64 0, .int .i64 0, .int .i64 0, .int .i64 0, .int .i64 0, .int .i64 0, .int .i64 0, .string ⟨#[]⟩, .float .f64 0, .int .i64 0, .int .i64 0, .float .f64 0, .string ⟨#[]⟩, .slice none 0 0, .slice none 0 0, .slice none 0 0, .slice none 0 0] 35 (0, 0)) := ⟨_, rfl⟩
  have b1 : Below w.heap.size w w1 := by rw [hw1]; exact below_alloc _ _
  have hzz : w1.heap.size = w.heap.size + 1 := by rw [hw1]; simp
  have b2 : Below w1.heap.size w1 w2 := by rw [hw2]; exact below_alloc _ _
  have hz2 : w2.heap.size = w.heap.size + 2 := by rw [hw2]; simp; omega
  have K1 := Lib.hid (show w2.heap[w.heap.size]? = some (.cells #[.pointer (some ⟨p, 0, none⟩)] 71 (0, 0)) from blk_below (by rw [hw1]; exact blk_alloc _ _) b2)
  have K2 := Lib.hid (show w2.heap[w.heap.size + 1]? = some (.cells #[.int .i64 0, .int .i64 0, .int .i64 0, .int .i64 0, .int .i64 0, .int .i64 0, .int .i64 0, .string ⟨#[]⟩, .float .f64 0, .int .i64 0, .int .i64 0, .float .f64 0, .string ⟨#[]⟩, .slice none 0 0, .slice none 0 0, .slice none 0 0, .slice none 0 0] 35 (0, 0)) by rw [← hzz, hw2]; exact blk_alloc _ _)
  have B2 := Lib.hid (bthen b1 b2)
  have hp := prd_lt h
  have C1 := Lib.hid (rbyte_got p text ⟨t, false⟩ w2 (prd_below h B2.out))
  have T0 := Lib.hid ((show To (pMsg true) ⟨t, false⟩ (pThen (pNum 1) fun k => pThen (pNum 2) fun e => pThen (pNum 1) fun v => pThen (pNum 2) fun s => pThen pReq fun q => pThen pText fun rt => pIf (decide (rsE rt.data.toList = 0)) (pThen pText fun t => pTail true k e v s q rt t)) ⟨t, false⟩ from To.refl _ _).step (pr_num _ 1))
  have I1 := Lib.hid (rVal_i64 ⟨t, false⟩ 1 (by decide))
  have a0 : w2.cell? ⟨w.heap.size, 0, none⟩ = some (.pointer (some ⟨p, 0, none⟩)) := by rw [blk_cell K1.out]; rfl
  generalize rNext ⟨t, false⟩ 1 = s1 at *
  generalize rVal ⟨t, false⟩ 1 = k0 at *
  clear h b1 b2 hzz
  go_enter Tryz.func29, Tryz.ntmps29
  go_upto_region 1 with (fail)
  rw [← hw1, ← hw2]
  clear hw1 hw2
  go_wp2_with fail
  refine C1.out.mono ?_
  rintro e w3 ⟨rfl, hr3, ho3⟩
  rename_i hK
  refine hK _ _ ?_
  clear hK
  have hz3 := ho3.size
  have k1 := (ho3.block _ (blk_lt K1.out) (by omega)).trans K1.out
  have k2 := (ho3.block _ (blk_lt K2.out) (by omega)).trans K2.out
  refine ops_val rfl (w' := w3) (v := .agg #[.int .i64 (k0 : Int), .int .i64 0, .int .i64 0, .int .i64 0, .int .i64 0, .int .i64 0, .int .i64 0, .string ⟨#[]⟩, .float .f64 0, .int .i64 0, .int .i64 0, .float .f64 0, .string ⟨#[]⟩, .slice none 0 0, .slice none 0 0, .slice none 0 0, .slice none 0 0]) (by kernel_rfl) ?_
  simp only [Act.put, List.setIfInBounds_toArray, List.set_cons_succ, List.set_cons_zero]
  refine ops_made 35 zeroMg rfl rfl (.tmp 3) (.tmp 10) (fun ρ w => alloc_msg ρ _ rfl w) rfl [.int .i64 (k0 : Int), .int .i64 0, .int .i64 0, .int .i64 0, .int .i64 0, .int .i64 0, .int .i64 0, .string ⟨#[]⟩, .float .f64 0, .int .i64 0, .int .i64 0, .float .f64 0, .string ⟨#[]⟩, .slice none 0 0, .slice none 0 0, .slice none 0 0, .slice none 0 0] rfl (by kernel_rfl) (by simp [Value.oneCell']) rfl rfl fun w4 b4 kc4 hz4 => ?_
  simp only [Act.put, List.setIfInBounds_toArray, List.set_cons_succ, List.set_cons_zero]
  have KC4 := Lib.hid kc4
  have KR := Lib.hid (blk_below k1 b4)
  have KS := Lib.hid (blk_below k2 b4)
  have R4 := Lib.hid (prd_below hr3 b4)
  have O4 := Lib.hid (keep_then (keep_then (Keep.of_below B2.out) ho3) (Keep.of_below b4))
  have hpq : p < w3.heap.size := by omega
  have hHq : w.heap.size + 1 < w3.heap.size := by omega
  clear hr3 ho3 k1 k2 b4 a0 C1 K1 K2 kc4
  generalize w3.heap.size = q at *
  have HFN := Lib.hid (fun (u : World) (hu : Keep (fun k => k = p ∨ k = q) w4 u) => (O4.out.trans (X := fun k => k = p) hu (fun k hk h => h.elim id (fun h => by omega)) : Keep (fun k => k = p) w u))
  have Q4 := Lib.hid (Keep.refl (fun k => k = p ∨ k = q) w4)
  have T4 := T0
  clear T0 O4
  have I6 := Lib.hid (rVal_i64 s1 2 (by decide))
  have C4 := Lib.hid (rword_got p text s1 w4 R4.out)
  have T6 := Lib.hid (T4.out.step (pr_num s1 2))
  have a4 : w4.cell? ⟨w.heap.size, 0, none⟩ = some (.pointer (some ⟨p, 0, none⟩)) := by rw [blk_cell ((Q4.out.block _ (blk_lt KR.out) (by omega)).trans KR.out)]; rfl
  generalize rNext s1 2 = s2 at *
  generalize rVal s1 2 = e0 at *
  go_wp2_with fail
  refine C4.out.mono ?_
  rintro e w5 ⟨rfl, hr, ho⟩
  have kc := (ho.block _ (blk_lt KC4.out) (by omega)).trans KC4.out
  obtain ⟨w6, hw⟩ : ∃ u, u = w5.setCell ⟨q, 1, none⟩ (.int .i64 (e0 : Int)) := ⟨_, rfl⟩
  have e1 : w5.cell? ⟨q, 1, none⟩ = some (.int .i64 0) := by rw [blk_cell kc]; rfl
  have e2 : w5.frozen? ⟨q, 1, none⟩ = false := blk_frozen kc 1
  have KC6 := Lib.hid (show w6.heap[q]? = some (.cells #[.int .i64 (k0 : Int), .int .i64 (e0 : Int), .int .i64 0, .int .i64 0, .int .i64 0, .int .i64 0, .int .i64 0, .string ⟨#[]⟩, .float .f64 0, .int .i64 0, .int .i64 0, .float .f64 0, .string ⟨#[]⟩, .slice none 0 0, .slice none 0 0, .slice none 0 0, .slice none 0 0] 35 (0, 0)) by rw [hw]; exact (blk_set kc 1 (.int .i64 (e0 : Int))).trans (by simp only [List.setIfInBounds_toArray, List.set_cons_succ, List.set_cons_zero]))
  have Q6 := Lib.hid (show Keep (fun k => k = p ∨ k = q) w4 w6 by rw [hw]; exact Keep.set (Q4.out.trans (keep_mono14 (Y := fun k => k = p ∨ k = q) ho (fun k h => .inl h)) (fun _ _ h => h)) (.inr (.inr rfl)) 1 (.int .i64 (e0 : Int)))
  have R6 := Lib.hid (show PRd w6 p text s2 by rw [hw]; exact prd_set hr 1 (.int .i64 (e0 : Int)) (by omega))
  clear hr ho kc a4 C4 R4 Q4 KC4 T4
  go_upto_region 3 with (fail)
  rw [← hw]
  clear hw e1 e2
  have I8 := Lib.hid (rVal_i64 s2 1 (by decide))
  have C6 := Lib.hid (rbyte_got p text s2 w6 R6.out)
  have T8 := Lib.hid (T6.out.step (pr_num s2 1))
  have a6 : w6.cell? ⟨w.heap.size, 0, none⟩ = some (.pointer (some ⟨p, 0, none⟩)) := by rw [blk_cell ((Q6.out.block _ (blk_lt KR.out) (by omega)).trans KR.out)]; rfl
  generalize rNext s2 1 = s3 at *
  generalize rVal s2 1 = v0 at *
  go_wp2_with fail
  refine C6.out.mono ?_
  rintro e w7 ⟨rfl, hr, ho⟩
  have kc := (ho.block _ (blk_lt KC6.out) (by omega)).trans KC6.out
  obtain ⟨w8, hw⟩ : ∃ u, u = w7.setCell ⟨q, 2, none⟩ (.int .i64 (v0 : Int)) := ⟨_, rfl⟩
  have e1 : w7.cell? ⟨q, 2, none⟩ = some (.int .i64 0) := by rw [blk_cell kc]; rfl
  have e2 : w7.frozen? ⟨q, 2, none⟩ = false := blk_frozen kc 2
  have KC8 := Lib.hid (show w8.heap[q]? = some (.cells #[.int .i64 (k0 : Int), .int .i64 (e0 : Int), .int .i64 (v0 : Int), .int .i64 0, .int .i64 0, .int .i64 0, .int .i64 0, .string ⟨#[]⟩, .float .f64 0, .int .i64 0, .int .i64 0, .float .f64 0, .string ⟨#[]⟩, .slice none 0 0, .slice none 0 0, .slice none 0 0, .slice none 0 0] 35 (0, 0)) by rw [hw]; exact (blk_set kc 2 (.int .i64 (v0 : Int))).trans (by simp only [List.setIfInBounds_toArray, List.set_cons_succ, List.set_cons_zero]))
  have Q8 := Lib.hid (show Keep (fun k => k = p ∨ k = q) w4 w8 by rw [hw]; exact Keep.set (Q6.out.trans (keep_mono14 (Y := fun k => k = p ∨ k = q) ho (fun k h => .inl h)) (fun _ _ h => h)) (.inr (.inr rfl)) 2 (.int .i64 (v0 : Int)))
  have R8 := Lib.hid (show PRd w8 p text s3 by rw [hw]; exact prd_set hr 2 (.int .i64 (v0 : Int)) (by omega))
  clear hr ho kc a6 C6 R6 Q6 KC6 T6
  go_upto_region 4 with (fail)
  rw [← hw]
  clear hw e1 e2
  have I10 := Lib.hid (rVal_i64 s3 2 (by decide))
  have C8 := Lib.hid (rword_got p text s3 w8 R8.out)
  have T10 := Lib.hid (T8.out.step (pr_num s3 2))
  have a8 : w8.cell? ⟨w.heap.size, 0, none⟩ = some (.pointer (some ⟨p, 0, none⟩)) := by rw [blk_cell ((Q8.out.block _ (blk_lt KR.out) (by omega)).trans KR.out)]; rfl
  generalize rNext s3 2 = s4 at *
  generalize rVal s3 2 = l0 at *
  go_wp2_with fail
  refine C8.out.mono ?_
  rintro e w9 ⟨rfl, hr, ho⟩
  have kc := (ho.block _ (blk_lt KC8.out) (by omega)).trans KC8.out
  obtain ⟨w10, hw⟩ : ∃ u, u = w9.setCell ⟨q, 3, none⟩ (.int .i64 (l0 : Int)) := ⟨_, rfl⟩
  have e1 : w9.cell? ⟨q, 3, none⟩ = some (.int .i64 0) := by rw [blk_cell kc]; rfl
  have e2 : w9.frozen? ⟨q, 3, none⟩ = false := blk_frozen kc 3
  have KC10 := Lib.hid (show w10.heap[q]? = some (.cells #[.int .i64 (k0 : Int), .int .i64 (e0 : Int), .int .i64 (v0 : Int), .int .i64 (l0 : Int), .int .i64 0, .int .i64 0, .int .i64 0, .string ⟨#[]⟩, .float .f64 0, .int .i64 0, .int .i64 0, .float .f64 0, .string ⟨#[]⟩, .slice none 0 0, .slice none 0 0, .slice none 0 0, .slice none 0 0] 35 (0, 0)) by rw [hw]; exact (blk_set kc 3 (.int .i64 (l0 : Int))).trans (by simp only [List.setIfInBounds_toArray, List.set_cons_succ, List.set_cons_zero]))
  have Q10 := Lib.hid (show Keep (fun k => k = p ∨ k = q) w4 w10 by rw [hw]; exact Keep.set (Q8.out.trans (keep_mono14 (Y := fun k => k = p ∨ k = q) ho (fun k h => .inl h)) (fun _ _ h => h)) (.inr (.inr rfl)) 3 (.int .i64 (l0 : Int)))
  have R10 := Lib.hid (show PRd w10 p text s4 by rw [hw]; exact prd_set hr 3 (.int .i64 (l0 : Int)) (by omega))
  clear hr ho kc a8 C8 R8 Q8 KC8 T8
  go_upto_region 5 with (fail)
  rw [← hw]
  clear hw e1 e2
  have C10 := Lib.hid (rreq_any p text s4 w10 R10.out)
  have a10 : w10.cell? ⟨w.heap.size, 0, none⟩ = some (.pointer (some ⟨p, 0, none⟩)) := by rw [blk_cell ((Q10.out.block _ (blk_lt KR.out) (by omega)).trans KR.out)]; rfl
  go_wp2_with fail
  refine C10.out.mono ?_
  rintro e w11 ⟨ho, h11⟩
  rcases h11 with ⟨rfl, hno⟩ | ⟨⟨qc, qs, qk, qt, qb, qi⟩, s5, cs, rfl, hpr, hr, hE⟩
  · have HQ := Lib.hid (HFN.out _ (Q10.out.trans (keep_mono14 (Y := fun k => k = p ∨ k = q) ho (fun k h => .inl h)) (fun _ _ h => h)))
    have HNO := Lib.hid (no_msg (T10.out.no hno))
    go_wp2_with fail
    exact ⟨rfl, HQ.out, .inl ⟨rfl, HNO.out⟩⟩
  obtain ⟨rfl, hqok⟩ := req_open hE.self
  have HQOK := Lib.hid hqok
  have T12 := Lib.hid (T10.out.step hpr)
  have kc := (ho.block _ (blk_lt KC10.out) (by omega)).trans KC10.out
  obtain ⟨w12, hw⟩ : ∃ u, u = ((((((w11.setCell ⟨q, 4, none⟩ (.int .i64 qc)).setCell ⟨q, 5, none⟩ (.int .i64 qs)).setCell ⟨q, 6, none⟩ (.int .i64 qk)).setCell ⟨q, 7, none⟩ (.string qt)).setCell ⟨q, 8, none⟩ (.float .f64 qb)).setCell ⟨q, 9, none⟩ (.int .i64 qi)) := ⟨_, rfl⟩
  have e4 : w11.cell? ⟨q, 4, none⟩ = some (.int .i64 0) := by rw [blk_cell kc]; rfl
  have f4 : w11.frozen? ⟨q, 4, none⟩ = false := blk_frozen kc 4
  have e5 : w11.cell? ⟨q, 5, none⟩ = some (.int .i64 0) := by rw [blk_cell kc]; rfl
  have f5 : w11.frozen? ⟨q, 5, none⟩ = false := blk_frozen kc 5
  have e6 : w11.cell? ⟨q, 6, none⟩ = some (.int .i64 0) := by rw [blk_cell kc]; rfl
  have f6 : w11.frozen? ⟨q, 6, none⟩ = false := blk_frozen kc 6
  have e7 : w11.cell? ⟨q, 7, none⟩ = some (.string ⟨#[]⟩) := by rw [blk_cell kc]; rfl
  have f7 : w11.frozen? ⟨q, 7, none⟩ = false := blk_frozen kc 7
  have e8 : w11.cell? ⟨q, 8, none⟩ = some (.float .f64 0) := by rw [blk_cell kc]; rfl
  have f8 : w11.frozen? ⟨q, 8, none⟩ = false := blk_frozen kc 8
  have e9 : w11.cell? ⟨q, 9, none⟩ = some (.int .i64 0) := by rw [blk_cell kc]; rfl
  have f9 : w11.frozen? ⟨q, 9, none⟩ = false := blk_frozen kc 9
  have KC12 := Lib.hid (show w12.heap[q]? = some (.cells #[.int .i64 (k0 : Int), .int .i64 (e0 : Int), .int .i64 (v0 : Int), .int .i64 (l0 : Int), .int .i64 qc, .int .i64 qs, .int .i64 qk, .string qt, .float .f64 qb, .int .i64 qi, .int .i64 0, .float .f64 0, .string ⟨#[]⟩, .slice none 0 0, .slice none 0 0, .slice none 0 0, .slice none 0 0] 35 (0, 0)) by rw [hw]; exact (blk_set (blk_set (blk_set (blk_set (blk_set (blk_set kc 4 (.int .i64 qc)) 5 (.int .i64 qs)) 6 (.int .i64 qk)) 7 (.string qt)) 8 (.float .f64 qb)) 9 (.int .i64 qi)).trans (by simp only [List.setIfInBounds_toArray, List.set_cons_succ, List.set_cons_zero]))
  have Q12 := Lib.hid (show Keep (fun k => k = p ∨ k = q) w4 w12 by rw [hw]; exact (Keep.set (Keep.set (Keep.set (Keep.set (Keep.set (Keep.set (Q10.out.trans (keep_mono14 (Y := fun k => k = p ∨ k = q) ho (fun k h => .inl h)) (fun _ _ h => h)) (.inr (.inr rfl)) 4 (.int .i64 qc)) (.inr (.inr rfl)) 5 (.int .i64 qs)) (.inr (.inr rfl)) 6 (.int .i64 qk)) (.inr (.inr rfl)) 7 (.string qt)) (.inr (.inr rfl)) 8 (.float .f64 qb)) (.inr (.inr rfl)) 9 (.int .i64 qi)))
  have R12 := Lib.hid (show PRd w12 p text s5 by rw [hw]; exact (prd_set (prd_set (prd_set (prd_set (prd_set (prd_set hr 4 (.int .i64 qc) (by omega)) 5 (.int .i64 qs) (by omega)) 6 (.int .i64 qk) (by omega)) 7 (.string qt) (by omega)) 8 (.float .f64 qb) (by omega)) 9 (.int .i64 qi) (by omega)))
  clear hr ho kc a10 C10 R10 Q10 KC10 T10 hE hqok hpr
  simp only [Rq.cs, aggF]
  go_upto_region 6 with (fail)
  rw [← hw]
  clear hw e4 f4 e5 f5 e6 f6 e7 f7 e8 f8 e9 f9
  have C12 := Lib.hid (rtext_got p text s5 w12 R12.out)
  have a12 : w12.cell? ⟨w.heap.size, 0, none⟩ = some (.pointer (some ⟨p, 0, none⟩)) := by rw [blk_cell ((Q12.out.block _ (blk_lt KR.out) (by omega)).trans KR.out)]; rfl
  have T14 := Lib.hid (fun hm => T12.out.ok (x := (⟨(tVal s5).toArray⟩ : ByteArray)) (pr_text s5) hm)
  have N14 := Lib.hid (fun hm => no_msg (T12.out.bad (x := (⟨(tVal s5).toArray⟩ : ByteArray)) (pr_text s5) hm))
  have CR0 : ∀ w, Calls Tryz.prog 74 #[.string ⟨(tVal s5).toArray⟩] w fun e w' => e = .returned (.tuple #[.agg #[.int .i64 (rsC (tVal s5)), .float .f64 (rsB (tVal s5))], .int .i64 (rsE (tVal s5))]) ∧ Below w.heap.size w w' :=
    fun w => readres_any ⟨(tVal s5).toArray⟩ w (by have := tValLen s5; simp only [ByteArray.size, List.size_toArray]; omega)
  have CR := Lib.hid CR0
  have HRC := Lib.hid (rsC_i64 (tVal s5)); have HRB := Lib.hid (rsB_lt (tVal s5))
  dsimp only [List.toList_toArray] at T14 N14
  unfold pTail at T14
  clear CR0
  generalize rsC (tVal s5) = c0 at *
  generalize rsB (tVal s5) = b0 at *
  generalize rsE (tVal s5) = E at *
  generalize (⟨(tVal s5).toArray⟩ : ByteArray) = RT at *
  generalize tNext s5 = s6 at *
  go_wp2_with fail
  refine C12.out.mono ?_
  rintro e w13 ⟨rfl, hr, ho⟩
  have KC13 := Lib.hid ((ho.block _ (blk_lt KC12.out) (by omega)).trans KC12.out)
  have Q13 := Lib.hid (Q12.out.trans (keep_mono14 (Y := fun k => k = p ∨ k = q) ho (fun k h => .inl h)) (fun _ _ h => h))
  have R13 := Lib.hid hr
  clear hr ho a12 C12 R12 Q12 KC12 T12
  go_wp2_with fail
  refine (CR.out w13).mono ?_
  rintro e w14 ⟨rfl, b14⟩
  obtain ⟨w15, hw⟩ : ∃ u, u = w14.alloc (.cells #[.int .i64 c0, .float .f64 b0] 29 (0, 0)) := ⟨_, rfl⟩
  have b15 : Below w14.heap.size w14 w15 := by rw [hw]; exact below_alloc _ _
  have KX := Lib.hid (show w15.heap[w14.heap.size]? = some (.cells #[.int .i64 c0, .float .f64 b0] 29 (0, 0)) by rw [hw]; exact blk_alloc _ _)
  have B15 := Lib.hid (bthen b14 b15)
  have hz14 := b14.size
  have hq13 := blk_lt KC13.out
  have Q15 := Lib.hid (Q13.out.trans (Keep.of_below (X := fun k => k = p ∨ k = q) B15.out) (fun _ _ h => h))
  have a15 : w15.cell? ⟨w.heap.size, 0, none⟩ = some (.pointer (some ⟨p, 0, none⟩)) := by rw [blk_cell ((Q15.out.block _ (blk_lt KR.out) (by omega)).trans KR.out)]; rfl
  clear b14 b15 CR
  go_upto_region 7 with (fail)
  rw [← hw]
  clear hw
  have CM := Lib.hid (fun ok => must_any ok p text s6 w15 (prd_below R13.out B15.out))
  go_wp2_with fail
  refine (CM.out _).mono ?_
  rintro e w16 ⟨b16, he⟩
  have KC16 := Lib.hid (blk_below (blk_below KC13.out B15.out) b16)
  have KX16 := Lib.hid (blk_below KX.out b16)
  have Q16 := Lib.hid (Q15.out.trans (Keep.of_below (X := fun k => k = p ∨ k = q) b16) (fun _ _ h => h))
  have R16 := Lib.hid (prd_below (prd_below R13.out B15.out) b16)
  clear b16 a15 CM R13 Q13 Q15 KC13 KX B15
  cases hm : (decide (E = 0) && !s6.bad) with
  | false =>
    rw [show (E == 0) = decide (E = 0) from rfl, hm, if_neg (by decide)] at he
    subst he
    go_wp2_with fail
    exact ⟨rfl, HFN.out _ Q16.out, .inl ⟨rfl, N14.out hm⟩⟩
  | true =>
  rw [show (E == 0) = decide (E = 0) from rfl, hm, if_pos rfl] at he
  subst he
  have T16 := Lib.hid (T14.out hm)
  clear hm T14 N14
  generalize w14.heap.size = xb at *
  have x0 : w16.cell? ⟨xb, 0, none⟩ = some (.int .i64 c0) := by rw [blk_cell KX16.out]; rfl
  have x1 : w16.cell? ⟨xb, 1, none⟩ = some (.float .f64 b0) := by rw [blk_cell KX16.out]; rfl
  have e1 : w16.cell? ⟨q, 10, none⟩ = some (.int .i64 0) := by rw [blk_cell KC16.out]; rfl
  have e2 : w16.cell? ⟨q, 11, none⟩ = some (.float .f64 0) := by rw [blk_cell KC16.out]; rfl
  have f1 : w16.frozen? ⟨q, 10, none⟩ = false := blk_frozen KC16.out 10
  have f2 : w16.frozen? ⟨q, 11, none⟩ = false := blk_frozen KC16.out 11
  obtain ⟨w17, hw⟩ : ∃ u, u = (w16.setCell ⟨q, 10, none⟩ (.int .i64 c0)).setCell ⟨q, 11, none⟩ (.float .f64 b0) := ⟨_, rfl⟩
  have KC17 := Lib.hid (show w17.heap[q]? = some (.cells #[.int .i64 (k0 : Int), .int .i64 (e0 : Int), .int .i64 (v0 : Int), .int .i64 (l0 : Int), .int .i64 qc, .int .i64 qs, .int .i64 qk, .string qt, .float .f64 qb, .int .i64 qi, .int .i64 c0, .float .f64 b0, .string ⟨#[]⟩, .slice none 0 0, .slice none 0 0, .slice none 0 0, .slice none 0 0] 35 (0, 0)) by rw [hw]; exact (blk_set (blk_set KC16.out 10 (.int .i64 c0)) 11 (.float .f64 b0)).trans (by simp only [List.setIfInBounds_toArray, List.set_cons_succ, List.set_cons_zero]))
  have Q17 := Lib.hid (show Keep (fun k => k = p ∨ k = q) w4 w17 by rw [hw]; exact Keep.set (Keep.set Q16.out (.inr (.inr rfl)) 10 (.int .i64 c0)) (.inr (.inr rfl)) 11 (.float .f64 b0))
  have R17 := Lib.hid (show PRd w17 p text s6 by rw [hw]; exact prd_set (prd_set R16.out 10 (.int .i64 c0) (by omega)) 11 (.float .f64 b0) (by omega))
  clear R16 Q16 KC16 KX16
  go_upto_region 9 with (fail)
  rw [← hw]
  clear hw x0 x1 e1 e2 f1 f2
  have C17 := Lib.hid (rtext_got p text s6 w17 R17.out)
  have a17 : w17.cell? ⟨w.heap.size, 0, none⟩ = some (.pointer (some ⟨p, 0, none⟩)) := by rw [blk_cell ((Q17.out.block _ (blk_lt KR.out) (by omega)).trans KR.out)]; rfl
  have T19 := Lib.hid (T16.out.step (pr_text s6))
  have HTL := Lib.hid (tValLen s6)
  have HTS := Lib.hid (show (⟨(tVal s6).toArray⟩ : ByteArray).size ≤ 65535 by have := HTL.out; simp only [ByteArray.size, List.size_toArray]; omega)
  generalize (⟨(tVal s6).toArray⟩ : ByteArray) = tx at *
  generalize tNext s6 = s7 at *
  clear HTL T16
  go_wp2_with fail
  refine C17.out.mono ?_
  rintro e w18 ⟨rfl, hr, ho⟩
  have kc := (ho.block _ (blk_lt KC17.out) (by omega)).trans KC17.out
  obtain ⟨w19, hw⟩ : ∃ u, u = w18.setCell ⟨q, 12, none⟩ (.string tx) := ⟨_, rfl⟩
  have e1 : w18.cell? ⟨q, 12, none⟩ = some (.string ⟨#[]⟩) := by rw [blk_cell kc]; rfl
  have e2 : w18.frozen? ⟨q, 12, none⟩ = false := blk_frozen kc 12
  have KC19 := Lib.hid (show w19.heap[q]? = some (.cells #[.int .i64 (k0 : Int), .int .i64 (e0 : Int), .int .i64 (v0 : Int), .int .i64 (l0 : Int), .int .i64 qc, .int .i64 qs, .int .i64 qk, .string qt, .float .f64 qb, .int .i64 qi, .int .i64 c0, .float .f64 b0, .string tx, .slice none 0 0, .slice none 0 0, .slice none 0 0, .slice none 0 0] 35 (0, 0)) by rw [hw]; exact (blk_set kc 12 (.string tx)).trans (by simp only [List.setIfInBounds_toArray, List.set_cons_succ, List.set_cons_zero]))
  have Q19 := Lib.hid (show Keep (fun k => k = p ∨ k = q) w4 w19 by rw [hw]; exact Keep.set (Q17.out.trans (keep_mono14 (Y := fun k => k = p ∨ k = q) ho (fun k h => .inl h)) (fun _ _ h => h)) (.inr (.inr rfl)) 12 (.string tx))
  have R19 := Lib.hid (show PRd w19 p text s7 by rw [hw]; exact prd_set hr 12 (.string tx) (by omega))
  clear hr ho kc a17 C17 R17 Q17 KC17
  go_upto_region 10 with (fail)
  rw [← hw]
  clear hw e1 e2
  have hlt19 := rVal_lt s7 1
  have C19 := Lib.hid (rbyte_got p text s7 w19 R19.out)
  have a19 : w19.cell? ⟨w.heap.size, 0, none⟩ = some (.pointer (some ⟨p, 0, none⟩)) := by rw [blk_cell ((Q19.out.block _ (blk_lt KR.out) (by omega)).trans KR.out)]; rfl
  have TK := Lib.hid (fun hm => T19.out.ok (x := ((rVal s7 1 : Nat) : Int)) (pr_num s7 1) hm)
  have TN := Lib.hid (fun hm => no_msg (T19.out.bad (x := ((rVal s7 1 : Nat) : Int)) (pr_num s7 1) hm))
  generalize rNext s7 1 = s8 at *
  generalize rVal s7 1 = n1 at *
  go_wp2_with fail
  refine C19.out.mono ?_
  rintro e w20 ⟨rfl, hr, ho⟩
  have KC20 := Lib.hid ((ho.block _ (blk_lt KC19.out) (by omega)).trans KC19.out)
  have Q20 := Lib.hid (Q19.out.trans (keep_mono14 (Y := fun k => k = p ∨ k = q) ho (fun k h => .inl h)) (fun _ _ h => h))
  have R20 := Lib.hid hr
  have QC20 := Lib.hid (keep_mono14 (Y := fun k => k = p ∨ k = q) ho (fun k h => .inl h))
  have hsz20 := ho.size
  have a20 : w20.cell? ⟨w.heap.size, 0, none⟩ = some (.pointer (some ⟨p, 0, none⟩)) := by rw [blk_cell ((Q20.out.block _ (blk_lt KR.out) (by omega)).trans KR.out)]; rfl
  have CM := Lib.hid (fun ok => must_any ok p text s8 w20 R20.out)
  clear hr ho a19 C19 R19 Q19 KC19 T19
  go_wp2_with fail
  refine (CM.out _).mono ?_
  rintro e w21 ⟨hb, he⟩
  have KC21 := Lib.hid (blk_below KC20.out hb)
  have Q21 := Lib.hid (Q20.out.trans (Keep.of_below (X := fun k => k = p ∨ k = q) hb) (fun _ _ h => h))
  have QC21 := Lib.hid (QC20.out.trans (Keep.of_below (X := fun k => k = p ∨ k = q) hb) (fun _ _ h => h))
  have R21 := Lib.hid (prd_below R20.out hb)
  have hsz21 := hb.size
  clear hb a20 CM R20 Q20 KC20
  cases hm : (decide ((n1 : Int) ≤ 10) && !s8.bad) with
  | false =>
    rw [hm, if_neg (by decide)] at he
    subst he
    go_wp2_with fail
    exact ⟨rfl, HFN.out _ Q21.out, .inl ⟨rfl, TN.out (by simpa using hm)⟩⟩
  | true =>
  rw [hm, if_pos rfl] at he
  subst he
  have hN21 : n1 ≤ 10 := by
    rw [Bool.and_eq_true] at hm
    have := of_decide_eq_true hm.1
    omega
  have T21 := Lib.hid (TK.out (by simpa using hm))
  clear hm TK TN
  go_wp2_with fail
  obtain ⟨ii, hi, hz0', hz1', hz2'⟩ := info_parts info_int
  have T21' := Lib.hid (show To (pMsg true) ⟨t, false⟩ (pThen (pRep (pNum 1) n1) _) s8 from T21.out)
  clear T21
  go_loopw [51] (fun i wr => ∃ k : Nat, ∃ acc : List Int, ∃ s' : R, ∃ v : Value, k ≤ n1 ∧ i = .int .i64 k ∧ acc.length = k ∧ Hid (Pr (pRep (pNum 1) k) s8 acc s') ∧ Hid (PRd wr p text s') ∧ Hid (wr.ownsRow (q + 1) 3 1 v k (intsV acc)) ∧ Hid (∀ x ∈ acc, i64 x) ∧ Hid (wr.heap[q]? = some (.cells #[.int .i64 (k0 : Int), .int .i64 (e0 : Int), .int .i64 (v0 : Int), .int .i64 (l0 : Int), .int .i64 qc, .int .i64 qs, .int .i64 qk, .string qt, .float .f64 qb, .int .i64 qi, .int .i64 c0, .float .f64 b0, .string tx, v, .slice none 0 0, .slice none 0 0, .slice none 0 0] 35 (0, 0))) ∧ Hid (Keep (fun k => k = p ∨ k = q) w4 wr)) (fun i _ => n1 - (intOf i).toNat)
  case atStart => exact ⟨0, [], s8, _, by omega, rfl, rfl, Lib.hid (Pr.ret _ _), R21, Lib.hid (World.ownsRow_nil _ _ _ _), Lib.hid (fun _ h => by cases h), KC21, Q21⟩
  case round =>
    clear R21 Q21 KC21 hsz20 hsz21
    obtain ⟨k, acc, s', v, hk, rfl, hacc, HP, HR, HO, HI, HC, HK⟩ := hrel
    have hsz := HK.out.size
    by_cases hlk : k < n1
    · have hd : decide ((k : Int) < (n1 : Int)) = true := by simp; omega
      have y0 : wr.cell? ⟨w.heap.size, 0, none⟩ = some (.pointer (some ⟨p, 0, none⟩)) := by rw [blk_cell ((HK.out.block _ (blk_lt KR.out) (by omega)).trans KR.out)]; rfl
      have y1 : wr.cell? ⟨q, 13, none⟩ = some v := by rw [blk_cell HC.out]; rfl
      have hqr := blk_lt HC.out
      have HP' := Lib.hid (HP.out.snoc (pr_num s' 1))
      have HI' := Lib.hid (show ∀ x ∈ acc ++ [((rVal s' 1 : Nat) : Int)], i64 x from fun x hx => by
        rcases List.mem_append.1 hx with hx | hx
        · exact HI.out x hx
        · rw [List.mem_singleton] at hx; subst hx; exact rVal_i64 s' 1 (by decide))
      have CB := Lib.hid (fun (u : World) (hu : u.heap = wr.heap) => rbyte_got p text s' u (prd_block HR.out (by rw [hu])))
      have HKQ := Lib.hid (fun (u w6 : World) (hu : u.heap = wr.heap) (ho : Keep (fun k => k = p) u w6) => ((ho.block q (by rw [hu]; exact hqr) (by omega)).trans ((congrArg (fun h => h[q]?) hu).trans HC.out)))
      have HOW := Lib.hid (fun (u w6 : World) (hu : u.heap = wr.heap) (ho : Keep (fun k => k = p) u w6) => (owns_keep (owns_heap HO.out hu) ho (fun k hk hc => by have := (HO.out.lt k hk).1; omega) : w6.ownsRow (q + 1) 3 1 v k (intsV acc)))
      have HOL := Lib.hid (fun k hk => (HO.out.lt k hk))
      have HSZ := Lib.hid (show q + 1 ≤ wr.heap.size by omega)
      generalize rVal s' 1 = x at *
      generalize rNext s' 1 = s2 at *
      go_upto_region 14 with (fail)
      go_region_law (first | (refine step_calls rfl 71 #[.pointer (some ⟨p, 0, none⟩)] (by go_simp) (CB.out _ rfl) ?_; rintro e' w6 ⟨rfl, hr6, ho6⟩; refine ⟨_, rfl, ?_⟩; have k6 := Lib.hid (HKQ.out wr.drew w6 rfl ho6); have y6 : w6.cell? ⟨q, 13, none⟩ = some v := (by rw [blk_cell k6.out]; rfl); have y7 : ∀ o, (w6.alloc o).cell? ⟨q, 13, none⟩ = some v := fun o => (by rw [blk_cell (blk_below k6.out (below_alloc w6 o))]; rfl); have own6 := Lib.hid (HOW.out wr.drew w6 rfl ho6); have l6 := Lib.hid ho6.size; have O6 := Lib.hid ho6; have R6 := Lib.hid hr6; clear ho6 hr6) | (refine step_append_lies _ rfl (.tmp 54) (.tmp 58) 30 rfl (q + 1) 3 ii (.int .i64 0) 1 8 Tryz.underlying30 hi hz0' hz1' hz2' rfl (by decide) v k (intsV acc) (by rfl) (by exact owns_below own6.out (below_alloc _ _)) ⟨w6.heap.size, 0, none⟩ 1 1 [.int .i64 x] (by rfl) rfl (by exact cell_one_new _ _ _) (by simp [Value.oneCell']) (by decide) (by simp only [maxLen]; omega) (by omega) (by have := l6.out; have := HSZ.out; simp at *; omega) _ rfl ?_; intro g cap w8 hown8 hg8 hor8 hlt8; have kc8 := Lib.hid ((hg8.block q (by have := l6.out; have := HSZ.out; simp at *; omega) (fun hc => by have := (HOL.out q hc.symm).1; omega)).trans (blk_below k6.out (below_alloc w6 _))); have m8 : w8.cell? ⟨q, 13, none⟩ = some v := (by rw [blk_cell kc8.out]; rfl); have m9 : w8.frozen? ⟨q, 13, none⟩ = false := blk_frozen kc8.out 13))
      all_goals
        have K6 := HK.out.trans (keep_mono14 (Y := fun k => k = p ∨ k = q) (keep_then (Keep.of_below (below_drewN (Below.refl _ _) 1)) O6.out) (fun k h => .inl h)) (fun _ _ h => h)
        have hqo : ∀ g0, v.ownBlock = some g0 → q + 1 ≤ g0 ∧ g0 < wr.heap.size := HOL.out
        have hs6 := l6.out
        have hs7 : wr.heap.size ≤ w6.heap.size := hs6
        have FC := Lib.hid (show (w8.setCell ⟨q, 13, none⟩ (.slice (some ⟨g, 0, none⟩) (k + 1) cap)).heap[q]? = some (.cells #[.int .i64 (k0 : Int), .int .i64 (e0 : Int), .int .i64 (v0 : Int), .int .i64 (l0 : Int), .int .i64 qc, .int .i64 qs, .int .i64 qk, .string qt, .float .f64 qb, .int .i64 qi, .int .i64 c0, .float .f64 b0, .string tx, .slice (some ⟨g, 0, none⟩) (k + 1) cap, .slice none 0 0, .slice none 0 0, .slice none 0 0] 35 (0, 0)) from (blk_set kc8.out 13 (.slice (some ⟨g, 0, none⟩) (k + 1) cap)).trans (by simp only [List.setIfInBounds_toArray, List.set_cons_succ, List.set_cons_zero]))
        have FK := Lib.hid (Keep.set (Keep.grown (K6.alloc (.cells #[.int .i64 (x : Int)] 3)) hg8 (fun g0 hg => .inl (by have := hqo g0 hg; omega))) (.inr (.inr rfl)) 13 (.slice (some ⟨g, 0, none⟩) (k + 1) cap))
        have FR := Lib.hid (prd_set (prd_block (prd_below R6.out (below_alloc w6 (.cells #[.int .i64 (x : Int)] 3))) (hg8.block p (by simp; omega) (fun hc => by have := hqo p hc.symm; omega))) 13 (.slice (some ⟨g, 0, none⟩) (k + 1) cap) (show ¬ q = p by omega))
        have FO := Lib.hid (show (w8.setCell ⟨q, 13, none⟩ (.slice (some ⟨g, 0, none⟩) (k + 1) cap)).ownsRow (q + 1) 3 1 (.slice (some ⟨g, 0, none⟩) (k + 1) cap) (k + 1) (intsV (acc ++ [(x : Int)])) from by rw [show intsV (acc ++ [(x : Int)]) = intsV acc ++ [.int .i64 (x : Int)] by simp [intsV]]; exact owns_setlow hown8 (by omega) 13 _)
        clear K6 kc8 m8 m9 hown8 hg8 hor8 own6 k6 y6 y7
        go_wp2_with fail
        go_roundw
        case rel => exact ⟨k + 1, acc ++ [(x : Int)], s2, _, by omega, by go_num, by simp [hacc], HP', FR, FO, HI', FC, FK⟩
        case measure => simp [intOf]; omega
    · have hd : decide ((k : Int) < (n1 : Int)) = false := by simp; omega
      obtain rfl : k = n1 := by omega
      obtain ⟨nxa, nxc, rfl⟩ := owns_form HO.out
      have PN := Lib.hid (show Rob (fun k => k < q + 1 ∨ wr.heap.size ≤ k) (fun u => SlAt Sh.int u nxa k nxc acc) wr from fun u hu => ints_row (owns_keep HO.out hu (fun g hg hc => by have := HO.out.lt g hg; omega)) hacc HI.out (by omega))
      have T22 := Lib.hid (T21'.out.step HP.out)
      have HINX := Lib.hid HI.out
      obtain ⟨w22, hw22⟩ : ∃ u : World, u = wr := ⟨_, rfl⟩
      subst hw22
      have R22 := HR; have Q22 := HK; have KC22 := HC
      clear HR HK HC HP HO HI T21'
      obtain ⟨N1, hN1⟩ : ∃ z : Nat, z = k := ⟨_, rfl⟩
      subst hN1
      obtain ⟨nx, hnx⟩ : ∃ z : List Int, z = acc := ⟨_, rfl⟩
      subst hnx
      obtain ⟨s9, hs9⟩ : ∃ z : R, z = s' := ⟨_, rfl⟩
      subst hs9
      have C22 := Lib.hid (rsigs_any p text s9 w22 R22.out)
      have a22 : w22.cell? ⟨w.heap.size, 0, none⟩ = some (.pointer (some ⟨p, 0, none⟩)) := by rw [blk_cell ((Q22.out.block _ (blk_lt KR.out) (by omega)).trans KR.out)]; rfl
      have hsz22 := Q22.out.size
      go_wp2_with fail
      refine C22.out.mono ?_
      rintro e w23 ⟨ho, h23⟩
      rcases h23 with ⟨rfl, hno⟩ | ⟨sg, s10, cs, rfl, hpr, hr, hE⟩
      · have HQ := Lib.hid (HFN.out _ (Q22.out.trans (keep_mono14 (Y := fun k => k = p ∨ k = q) ho (fun k h => .inl h)) (fun _ _ h => h)))
        have HNO := Lib.hid (no_msg (T22.out.no hno))
        go_wp2_with fail
        exact ⟨rfl, HQ.out, .inl ⟨rfl, HNO.out⟩⟩
      obtain ⟨sga, sgn, sgc, rfl, hS⟩ := rob_slice hE
      have T24 := Lib.hid (T22.out.step hpr)
      have hz23 := ho.size
      have kc := (ho.block _ (blk_lt KC22.out) (by omega)).trans KC22.out
      obtain ⟨w24, hw⟩ : ∃ u, u = w23.setCell ⟨q, 14, none⟩ (.slice sga sgn sgc) := ⟨_, rfl⟩
      have e1 : w23.cell? ⟨q, 14, none⟩ = some (.slice none 0 0) := by rw [blk_cell kc]; rfl
      have e2 : w23.frozen? ⟨q, 14, none⟩ = false := blk_frozen kc 14
      have KC24 := Lib.hid (show w24.heap[q]? = some (.cells #[.int .i64 (k0 : Int), .int .i64 (e0 : Int), .int .i64 (v0 : Int), .int .i64 (l0 : Int), .int .i64 qc, .int .i64 qs, .int .i64 qk, .string qt, .float .f64 qb, .int .i64 qi, .int .i64 c0, .float .f64 b0, .string tx, .slice nxa N1 nxc, .slice sga sgn sgc, .slice none 0 0, .slice none 0 0] 35 (0, 0)) by rw [hw]; exact (blk_set kc 14 (.slice sga sgn sgc)).trans (by simp only [List.setIfInBounds_toArray, List.set_cons_succ, List.set_cons_zero]))
      have KK24 := Lib.hid (show Keep (fun k => k = p ∨ k = q) w22 w24 by rw [hw]; exact Keep.set (keep_mono14 (Y := fun k => k = p ∨ k = q) ho (fun k h => .inl h)) (.inr (.inr rfl)) 14 (.slice sga sgn sgc))
      have Q24 := Lib.hid (Q22.out.trans KK24.out (fun _ _ h => h))
      have R24 := Lib.hid (show PRd w24 p text s10 by rw [hw]; exact prd_set hr 14 (.slice sga sgn sgc) (by omega))
      have PN24 := Lib.hid (PN.out.step (X' := fun k => k < q + 1 ∨ w22.heap.size ≤ k) KK24.out (fun k _ hk => .inl (by omega)) (fun _ _ h => h))
      have hS24 : Rob (fun k => k < w22.heap.size ∨ w23.heap.size ≤ k) (fun u => SlAt shSig u sga sgn sgc sg) w24 := by rw [hw]; exact hS.step (Keep.set (Keep.refl (fun k => k = q) w23) (.inr rfl) 14 (.slice sga sgn sgc)) (fun k _ hk => by show k < w22.heap.size; omega) (fun k _ hk => by show k < w22.heap.size; omega)
      have PS24 := Lib.hid hS24
      have hsz23 : w24.heap.size = w23.heap.size := by rw [hw]; simp [World.setCell]
      have HB24 := Lib.hid (show q + 1 ≤ w22.heap.size ∧ w23.heap.size ≤ w24.heap.size from ⟨by omega, by omega⟩)
      clear hr ho kc a22 C22 R22 Q22 KC22 T22 hE hS hS24 hpr PN KK24
      simp only [oneF, List.headD_cons]
      go_upto_region 17 with (fail)
      rw [← hw]
      clear hw e1 e2
      have hlt24 := rVal_lt s10 1
      have C24 := Lib.hid (rbyte_got p text s10 w24 R24.out)
      have a24 : w24.cell? ⟨w.heap.size, 0, none⟩ = some (.pointer (some ⟨p, 0, none⟩)) := by rw [blk_cell ((Q24.out.block _ (blk_lt KR.out) (by omega)).trans KR.out)]; rfl
      have TK := Lib.hid (fun hm => T24.out.ok (x := ((rVal s10 1 : Nat) : Int)) (pr_num s10 1) hm)
      have TN := Lib.hid (fun hm => no_msg (T24.out.bad (x := ((rVal s10 1 : Nat) : Int)) (pr_num s10 1) hm))
      generalize rNext s10 1 = s11 at *
      generalize rVal s10 1 = n2 at *
      go_wp2_with fail
      refine C24.out.mono ?_
      rintro e w25 ⟨rfl, hr, ho⟩
      have KC25 := Lib.hid ((ho.block _ (blk_lt KC24.out) (by omega)).trans KC24.out)
      have Q25 := Lib.hid (Q24.out.trans (keep_mono14 (Y := fun k => k = p ∨ k = q) ho (fun k h => .inl h)) (fun _ _ h => h))
      have R25 := Lib.hid hr
      have QC25 := Lib.hid (keep_mono14 (Y := fun k => k = p ∨ k = q) ho (fun k h => .inl h))
      have hsz25 := ho.size
      have a25 : w25.cell? ⟨w.heap.size, 0, none⟩ = some (.pointer (some ⟨p, 0, none⟩)) := by rw [blk_cell ((Q25.out.block _ (blk_lt KR.out) (by omega)).trans KR.out)]; rfl
      have CM := Lib.hid (fun ok => must_any ok p text s11 w25 R25.out)
      clear hr ho a24 C24 R24 Q24 KC24 T24
      go_wp2_with fail
      refine (CM.out _).mono ?_
      rintro e w26 ⟨hb, he⟩
      have KC26 := Lib.hid (blk_below KC25.out hb)
      have Q26 := Lib.hid (Q25.out.trans (Keep.of_below (X := fun k => k = p ∨ k = q) hb) (fun _ _ h => h))
      have QC26 := Lib.hid (QC25.out.trans (Keep.of_below (X := fun k => k = p ∨ k = q) hb) (fun _ _ h => h))
      have R26 := Lib.hid (prd_below R25.out hb)
      have hsz26 := hb.size
      clear hb a25 CM R25 Q25 KC25
      cases hm : (decide ((n2 : Int) ≤ 10) && !s11.bad) with
      | false =>
        rw [hm, if_neg (by decide)] at he
        subst he
        go_wp2_with fail
        exact ⟨rfl, HFN.out _ Q26.out, .inl ⟨rfl, TN.out (by simpa using hm)⟩⟩
      | true =>
      rw [hm, if_pos rfl] at he
      subst he
      have hN26 : n2 ≤ 10 := by
        rw [Bool.and_eq_true] at hm
        have := of_decide_eq_true hm.1
        omega
      have T26 := Lib.hid (TK.out (by simpa using hm))
      clear hm TK TN
      go_wp2_with fail
      obtain ⟨ii26, hi26, hx26, hy26, hv26⟩ := info_parts info_change
      have T26' := Lib.hid (show To (pMsg true) ⟨t, false⟩ (pThen (pRep (pChange true) n2) _) s11 from T26.out)
      have HB26 := Lib.hid (show q + 1 ≤ w26.heap.size by have := Q26.out.size; omega)
      clear T26
      go_loopw [73] (fun i wr => ∃ k : Nat, ∃ acc : List Ch, ∃ s' : R, ∃ v : Value, k ≤ n2 ∧ i = .int .i64 k ∧ acc.length = k ∧ Hid (Pr (pRep (pChange true) k) s11 acc s') ∧ Hid (PRd wr p text s') ∧ Hid (RowIn shChange 86 w26.heap.size wr v acc) ∧ Hid (wr.heap[q]? = some (.cells #[.int .i64 (k0 : Int), .int .i64 (e0 : Int), .int .i64 (v0 : Int), .int .i64 (l0 : Int), .int .i64 qc, .int .i64 qs, .int .i64 qk, .string qt, .float .f64 qb, .int .i64 qi, .int .i64 c0, .float .f64 b0, .string tx, .slice nxa N1 nxc, .slice sga sgn sgc, v, .slice none 0 0] 35 (0, 0))) ∧ Hid (Keep (fun k => k = p ∨ k = q) w26 wr)) (fun i _ => n2 - (intOf i).toNat)
      case atStart => exact ⟨0, [], s11, _, by omega, rfl, rfl, Lib.hid (Pr.ret _ _), R26, Lib.hid RowIn.nil, KC26, Lib.hid (Keep.refl _ _)⟩
      case round =>
        clear R26 KC26
        obtain ⟨k, acc, s', v, hk, rfl, hacc, HP, HR, HO, HC, HK⟩ := hrel
        have hsz := HK.out.size
        have hB := HB26.out
        by_cases hlk : k < n2
        · have hd : decide ((k : Int) < (n2 : Int)) = true := by simp; omega
          obtain ⟨xs, M, o1, o2, o3, o4⟩ := HO.out
          have KW := Lib.hid (Q26.out.trans HK.out (fun _ _ h => h))
          have y0 : wr.cell? ⟨w.heap.size, 0, none⟩ = some (.pointer (some ⟨p, 0, none⟩)) := by rw [blk_cell ((KW.out.block _ (blk_lt KR.out) (by omega)).trans KR.out)]; rfl
          have y1 : wr.cell? ⟨q, 15, none⟩ = some v := by rw [blk_cell HC.out]; rfl
          have hqr := blk_lt HC.out
          rw [hacc] at o1
          have HL := Lib.hid hacc
          have CS := Lib.hid (fun (u : World) (hu : u.heap = wr.heap) => rchange_any p text s' u (prd_block HR.out (by rw [hu])))
          have HKQ := Lib.hid (fun (u w6 : World) (hu : u.heap = wr.heap) (ho : Keep (fun k => k = p) u w6) => ((ho.block q (by rw [hu]; exact hqr) (by omega)).trans ((congrArg (fun h => h[q]?) hu).trans HC.out)))
          have HOW := Lib.hid (fun (u w6 : World) (hu : u.heap = wr.heap) (ho : Keep (fun k => k = p) u w6) => (owns_keep (owns_heap o1 hu) ho (fun k hk hc => by have := (o1.lt k hk).1; omega) : w6.ownsRow w26.heap.size 86 5 v k xs))
          have HOL := Lib.hid (fun k hk => (o1.lt k hk))
          have HO2 := Lib.hid (fun (w9 : World) (ho : Keep (fun k => k = p) wr w9) => (o2.step (X' := fun k => ¬ M k) ho (fun k _ hc hm => by have := (o3 k hm).1; omega) (fun _ _ h => h)))
          have HO3 := Lib.hid o3; have HO4 := Lib.hid o4
          have HPN := Lib.hid (fun (w6 : World) (ho : Keep (fun k => k = p) wr.drew w6) => HFN.out _ (KW.out.trans (keep_mono14 (Y := fun k => k = p ∨ k = q) (keep_then (Keep.of_below (below_drewN (Below.refl _ _) 1)) ho) (fun k h => .inl h)) (fun _ _ h => h)))
          have HNN := Lib.hid (fun h => no_msg (T26'.out.no (No.rep HP.out h hlk)))
          have HPP := Lib.hid (fun y s2 h => HP.out.snoc (x := y) (s2 := s2) h)
          clear o1 o2 o3 o4 hacc HO HP
          go_upto_region 21 with (fail)
          go_region_law (first | (refine step_calls_or rfl 78 #[.agg #[.pointer (some ⟨p, 0, none⟩)]] (by go_simp) (CS.out _ rfl) ?_; rintro e w6 ⟨ho6, h6⟩; rcases h6 with ⟨he, hno⟩ | ⟨y, s2, cs, he, hps, hr6, hE6⟩; (exact .inr ⟨_, he, rfl, HPN.out _ ho6, .inl ⟨rfl, HNN.out hno⟩⟩); obtain ⟨sa, sn, sc, rfl, -⟩ := change_open hE6.self; refine .inl ⟨.agg #[.int .i64 y.fr, .int .i64 y.v, .slice sa sn sc, .int .i64 y.sg.1, .string y.sg.2], he, ?_⟩; clear he; have k6 := Lib.hid (HKQ.out wr.drew w6 rfl ho6); have y6 : w6.cell? ⟨q, 15, none⟩ = some v := (by rw [blk_cell k6.out]; rfl); have y7 : ∀ o, (w6.alloc o).cell? ⟨q, 15, none⟩ = some v := fun o => (by rw [blk_cell (blk_below k6.out (below_alloc w6 o))]; rfl); have own6 := Lib.hid (HOW.out wr.drew w6 rfl ho6); have l6 := Lib.hid ho6.size; have O6 := Lib.hid ho6; have R6 := Lib.hid hr6; have E6 := Lib.hid hE6; have P6 := Lib.hid hps; clear ho6 hr6 hE6 hps) | (refine step_append_lies _ rfl (.tmp 76) (.tmp 79) 32 rfl w26.heap.size 86 ii26 (.agg #[.int .i64 0, .int .i64 0, .slice none 0 0, .int .i64 0, .string ⟨#[]⟩]) 5 64 Tryz.underlying32 hi26 hx26 hy26 hv26 rfl (by decide) v k xs (by rfl) (by exact owns_old own6.out (below_alloc _ _)) ⟨w6.heap.size, 0, none⟩ 1 1 [.int .i64 y.fr, .int .i64 y.v, .slice sa sn sc, .int .i64 y.sg.1, .string y.sg.2] (by rfl) rfl (by exact World.news_of_block (blk_alloc _ _)) (by simp [Value.oneCell']) (by decide) (by simp only [maxLen]; omega) (by omega) (by have := l6.out; simp at *; omega) _ rfl ?_; intro g cap w8 hown8 hg8 hor8 hlt8; have kc8 := Lib.hid ((hg8.block q (by have := l6.out; simp at *; omega) (fun hc => by have := (HOL.out q hc.symm).1; omega)).trans (blk_below k6.out (below_alloc w6 _))); have m8 : w8.cell? ⟨q, 15, none⟩ = some v := (by rw [blk_cell kc8.out]; rfl); have m9 : w8.frozen? ⟨q, 15, none⟩ = false := blk_frozen kc8.out 15))
          all_goals
            have O7 := keep_then (Keep.of_below (below_drewN (Below.refl wr.heap.size wr) 1)) O6.out
            have K6 := HK.out.trans (keep_mono14 (Y := fun k => k = p ∨ k = q) O7 (fun k h => .inl h)) (fun _ _ h => h)
            have hqo : ∀ g0, v.ownBlock = some g0 → w26.heap.size ≤ g0 ∧ g0 < wr.heap.size := HOL.out
            have hs7 : wr.heap.size ≤ w6.heap.size := l6.out
            have hs8 : (w6.alloc (.cells #[.int .i64 y.fr, .int .i64 y.v, .slice sa sn sc, .int .i64 y.sg.1, .string y.sg.2] 86)).heap.size = w6.heap.size + 1 := by simp
            have FC := Lib.hid (show (w8.setCell ⟨q, 15, none⟩ (.slice (some ⟨g, 0, none⟩) (k + 1) cap)).heap[q]? = some (.cells #[.int .i64 (k0 : Int), .int .i64 (e0 : Int), .int .i64 (v0 : Int), .int .i64 (l0 : Int), .int .i64 qc, .int .i64 qs, .int .i64 qk, .string qt, .float .f64 qb, .int .i64 qi, .int .i64 c0, .float .f64 b0, .string tx, .slice nxa N1 nxc, .slice sga sgn sgc, .slice (some ⟨g, 0, none⟩) (k + 1) cap, .slice none 0 0] 35 (0, 0)) from (blk_set kc8.out 15 (.slice (some ⟨g, 0, none⟩) (k + 1) cap)).trans (by simp only [List.setIfInBounds_toArray, List.set_cons_succ, List.set_cons_zero]))
            have FK := Lib.hid (Keep.set (Keep.grown (K6.alloc (.cells #[.int .i64 y.fr, .int .i64 y.v, .slice sa sn sc, .int .i64 y.sg.1, .string y.sg.2] 86)) hg8 (fun g0 hg => .inl (hqo g0 hg).1)) (.inr (.inr rfl)) 15 (.slice (some ⟨g, 0, none⟩) (k + 1) cap))
            have FR := Lib.hid (prd_set (prd_block (prd_below R6.out (below_alloc w6 (.cells #[.int .i64 y.fr, .int .i64 y.v, .slice sa sn sc, .int .i64 y.sg.1, .string y.sg.2] 86))) (hg8.block p (by simp; omega) (fun hc => by have := hqo p hc.symm; omega))) 15 (.slice (some ⟨g, 0, none⟩) (k + 1) cap) (show ¬ q = p by omega))
            have RI := RowIn.snoc (S := shChange) (T := 86) (B := w26.heap.size) (w5 := w6.alloc (.cells #[.int .i64 y.fr, .int .i64 y.v, .slice sa sn sc, .int .i64 y.sg.1, .string y.sg.2] 86)) (w8 := w8) (v := v) (v' := .slice (some ⟨g, 0, none⟩) (k + 1) cap) (l := acc) (xs := xs) (cs := [.int .i64 y.fr, .int .i64 y.v, .slice sa sn sc, .int .i64 y.sg.1, .string y.sg.2]) (M := M) (E0 := wr.heap.size) (E1 := w6.heap.size) (by rw [HL.out]; exact owns_old own6.out (below_alloc _ _)) ((HO2.out w6 O7).step (X' := fun k => ¬ M k) (Keep.of_below (X := fun _ => False) (below_alloc _ _)) (fun _ _ h => h.elim) (fun _ _ h => h)) (fun g0 hg => ⟨(HO3.out g0 hg).1, by have := (HO3.out g0 hg).2; omega⟩) (fun g0 hg => ⟨HO4.out g0 hg, (hqo g0 hg).2⟩) rfl (E6.out.step (X' := fun k => k < wr.heap.size ∨ w6.heap.size ≤ k) (Keep.of_below (X := fun _ => False) (below_alloc _ _)) (fun _ _ h => h.elim) (fun g0 hg hx => by show g0 < wr.heap.size; omega)) (by omega) (by omega) (by rw [HL.out]; exact hown8) hg8 (hor8.elim (fun h => .inl (show some g = v.ownBlock from h.symm)) (fun h => .inr (congrArg some h)))
            have FI := Lib.hid (RI.keep (Keep.set (Keep.refl (fun k => k = q) w8) (.inr rfl) 15 (.slice (some ⟨g, 0, none⟩) (k + 1) cap)) (fun k hk => by omega))
            have FP := Lib.hid (HPP.out _ _ P6.out)
            have FL := HL.out
            clear O7 K6 RI kc8 m8 m9 hown8 hg8 hor8 own6 k6 y6 y7 hs8 E6 O6 R6 P6
            go_wp2_with fail
            go_roundw
            case rel => exact ⟨k + 1, _, s2, _, by omega, by go_num, by simp [FL], FP, FR, FI, FC, FK⟩
            case measure => simp [intOf]; omega
        · have hd : decide ((k : Int) < (n2 : Int)) = false := by simp; omega
          obtain rfl : k = n2 := by omega
          obtain ⟨cha, vn, chc, rfl, hvn⟩ := HO.out.form
          obtain rfl : vn = k := by omega
          clear hvn
          have PCH := Lib.hid (HO.out.rob hacc (show vn * 64 ≤ 140737488355328 by omega))
          have T27 := Lib.hid (T26'.out.step HP.out)
          have Q27 := Lib.hid (Q26.out.trans HK.out (fun _ _ h => h))
          have QK27 := HK
          have R27 := HR; have KC27 := HC
          clear HR HK HC HP HO T26' Q26
          obtain ⟨N2, hN2⟩ : ∃ z : Nat, z = vn := ⟨_, rfl⟩
          subst hN2
          obtain ⟨chs, hchs⟩ : ∃ z : List Ch, z = acc := ⟨_, rfl⟩
          subst hchs
          obtain ⟨s12, hs12⟩ : ∃ z : R, z = s' := ⟨_, rfl⟩
          subst hs12
          obtain ⟨w27, hw27⟩ : ∃ z : World, z = wr := ⟨_, rfl⟩
          subst hw27
          have hlt27 := rVal_lt s12 1
          have C27 := Lib.hid (rbyte_got p text s12 w27 R27.out)
          have a27 : w27.cell? ⟨w.heap.size, 0, none⟩ = some (.pointer (some ⟨p, 0, none⟩)) := by rw [blk_cell ((Q27.out.block _ (blk_lt KR.out) (by omega)).trans KR.out)]; rfl
          have TK := Lib.hid (fun hm => T27.out.ok (x := ((rVal s12 1 : Nat) : Int)) (pr_num s12 1) hm)
          have TN := Lib.hid (fun hm => no_msg (T27.out.bad (x := ((rVal s12 1 : Nat) : Int)) (pr_num s12 1) hm))
          generalize rNext s12 1 = s13 at *
          generalize rVal s12 1 = n3 at *
          go_wp2_with fail
          refine C27.out.mono ?_
          rintro e w28 ⟨rfl, hr, ho⟩
          have KC28 := Lib.hid ((ho.block _ (blk_lt KC27.out) (by omega)).trans KC27.out)
          have Q28 := Lib.hid (Q27.out.trans (keep_mono14 (Y := fun k => k = p ∨ k = q) ho (fun k h => .inl h)) (fun _ _ h => h))
          have R28 := Lib.hid hr
          have QC28 := Lib.hid (keep_mono14 (Y := fun k => k = p ∨ k = q) ho (fun k h => .inl h))
          have hsz28 := ho.size
          have a28 : w28.cell? ⟨w.heap.size, 0, none⟩ = some (.pointer (some ⟨p, 0, none⟩)) := by rw [blk_cell ((Q28.out.block _ (blk_lt KR.out) (by omega)).trans KR.out)]; rfl
          have CM := Lib.hid (fun ok => must_any ok p text s13 w28 R28.out)
          clear hr ho a27 C27 R27 Q27 KC27 T27
          go_wp2_with fail
          refine (CM.out _).mono ?_
          rintro e w29 ⟨hb, he⟩
          have KC29 := Lib.hid (blk_below KC28.out hb)
          have Q29 := Lib.hid (Q28.out.trans (Keep.of_below (X := fun k => k = p ∨ k = q) hb) (fun _ _ h => h))
          have QC29 := Lib.hid (QC28.out.trans (Keep.of_below (X := fun k => k = p ∨ k = q) hb) (fun _ _ h => h))
          have R29 := Lib.hid (prd_below R28.out hb)
          have hsz29 := hb.size
          clear hb a28 CM R28 Q28 KC28
          cases hm : (decide ((n3 : Int) ≤ 60) && !s13.bad) with
          | false =>
            rw [hm, if_neg (by decide)] at he
            subst he
            go_wp2_with fail
            exact ⟨rfl, HFN.out _ Q29.out, .inl ⟨rfl, TN.out (by simpa using hm)⟩⟩
          | true =>
          rw [hm, if_pos rfl] at he
          subst he
          have hN29 : n3 ≤ 60 := by
            rw [Bool.and_eq_true] at hm
            have := of_decide_eq_true hm.1
            omega
          have T29 := Lib.hid (TK.out (by simpa using hm))
          clear hm TK TN
          go_wp2_with fail
          obtain ⟨ii29, hi29, hx29, hy29, hv29⟩ := info_parts info_link13
          have T29' := Lib.hid (show To (pMsg true) ⟨t, false⟩ (pThen (pRep (pLink true) n3) _) s13 from T29.out)
          have HB29 := Lib.hid (show q + 1 ≤ w29.heap.size by have := Q29.out.size; omega)
          clear T29
          go_loopw [91] (fun i wr => ∃ k : Nat, ∃ acc : List Lk, ∃ s' : R, ∃ v : Value, k ≤ n3 ∧ i = .int .i64 k ∧ acc.length = k ∧ Hid (Pr (pRep (pLink true) k) s13 acc s') ∧ Hid (PRd wr p text s') ∧ Hid (RowIn shLink 93 w29.heap.size wr v acc) ∧ Hid (wr.heap[q]? = some (.cells #[.int .i64 (k0 : Int), .int .i64 (e0 : Int), .int .i64 (v0 : Int), .int .i64 (l0 : Int), .int .i64 qc, .int .i64 qs, .int .i64 qk, .string qt, .float .f64 qb, .int .i64 qi, .int .i64 c0, .float .f64 b0, .string tx, .slice nxa N1 nxc, .slice sga sgn sgc, .slice cha N2 chc, v] 35 (0, 0))) ∧ Hid (Keep (fun k => k = p ∨ k = q) w29 wr)) (fun i _ => n3 - (intOf i).toNat)
          case atStart => exact ⟨0, [], s13, _, by omega, rfl, rfl, Lib.hid (Pr.ret _ _), R29, Lib.hid RowIn.nil, KC29, Lib.hid (Keep.refl _ _)⟩
          case round =>
            clear R29 KC29
            obtain ⟨k, acc, s', v, hk, rfl, hacc, HP, HR, HO, HC, HK⟩ := hrel
            have hsz := HK.out.size
            have hB := HB29.out
            by_cases hlk : k < n3
            · have hd : decide ((k : Int) < (n3 : Int)) = true := by simp; omega
              obtain ⟨xs, M, o1, o2, o3, o4⟩ := HO.out
              have KW := Lib.hid (Q29.out.trans HK.out (fun _ _ h => h))
              have y0 : wr.cell? ⟨w.heap.size, 0, none⟩ = some (.pointer (some ⟨p, 0, none⟩)) := by rw [blk_cell ((KW.out.block _ (blk_lt KR.out) (by omega)).trans KR.out)]; rfl
              have y1 : wr.cell? ⟨q, 16, none⟩ = some v := by rw [blk_cell HC.out]; rfl
              have hqr := blk_lt HC.out
              rw [hacc] at o1
              have HL := Lib.hid hacc
              have CS := Lib.hid (fun (u : World) (hu : u.heap = wr.heap) => rlink_any p text s' u (prd_block HR.out (by rw [hu])))
              have HKQ := Lib.hid (fun (u w6 : World) (hu : u.heap = wr.heap) (ho : Keep (fun k => k = p) u w6) => ((ho.block q (by rw [hu]; exact hqr) (by omega)).trans ((congrArg (fun h => h[q]?) hu).trans HC.out)))
              have HOW := Lib.hid (fun (u w6 : World) (hu : u.heap = wr.heap) (ho : Keep (fun k => k = p) u w6) => (owns_keep (owns_heap o1 hu) ho (fun k hk hc => by have := (o1.lt k hk).1; omega) : w6.ownsRow w29.heap.size 93 3 v k xs))
              have HOL := Lib.hid (fun k hk => (o1.lt k hk))
              have HO2 := Lib.hid (fun (w9 : World) (ho : Keep (fun k => k = p) wr w9) => (o2.step (X' := fun k => ¬ M k) ho (fun k _ hc hm => by have := (o3 k hm).1; omega) (fun _ _ h => h)))
              have HO3 := Lib.hid o3; have HO4 := Lib.hid o4
              have HPN := Lib.hid (fun (w6 : World) (ho : Keep (fun k => k = p) wr.drew w6) => HFN.out _ (KW.out.trans (keep_mono14 (Y := fun k => k = p ∨ k = q) (keep_then (Keep.of_below (below_drewN (Below.refl _ _) 1)) ho) (fun k h => .inl h)) (fun _ _ h => h)))
              have HNN := Lib.hid (fun h => no_msg (T29'.out.no (No.rep HP.out h hlk)))
              have HPP := Lib.hid (fun y s2 h => HP.out.snoc (x := y) (s2 := s2) h)
              clear o1 o2 o3 o4 hacc HO HP
              go_upto_region 27 with (fail)
              go_region_law (first | (refine step_calls_or rfl 79 #[.agg #[.pointer (some ⟨p, 0, none⟩)]] (by go_simp) (CS.out _ rfl) ?_; rintro e w6 ⟨ho6, h6⟩; rcases h6 with ⟨he, hno⟩ | ⟨y, s2, cs, he, hps, hr6, hE6⟩; (exact .inr ⟨_, he, rfl, HPN.out _ ho6, .inl ⟨rfl, HNN.out hno⟩⟩); obtain ⟨le, lm, ls, ma, mn, mc, sa, sn, sc, rfl, rfl, -⟩ := link_open hE6.self; refine .inl ⟨.agg #[.int .i64 le, .slice ma mn mc, .slice sa sn sc], he, ?_⟩; clear he; have k6 := Lib.hid (HKQ.out wr.drew w6 rfl ho6); have y6 : w6.cell? ⟨q, 16, none⟩ = some v := (by rw [blk_cell k6.out]; rfl); have y7 : ∀ o, (w6.alloc o).cell? ⟨q, 16, none⟩ = some v := fun o => (by rw [blk_cell (blk_below k6.out (below_alloc w6 o))]; rfl); have own6 := Lib.hid (HOW.out wr.drew w6 rfl ho6); have l6 := Lib.hid ho6.size; have O6 := Lib.hid ho6; have R6 := Lib.hid hr6; have E6 := Lib.hid hE6; have P6 := Lib.hid hps; clear ho6 hr6 hE6 hps) | (refine step_append_lies _ rfl (.tmp 94) (.tmp 97) 33 rfl w29.heap.size 93 ii29 (.agg #[.int .i64 0, .slice none 0 0, .slice none 0 0]) 3 56 Tryz.underlying33 hi29 hx29 hy29 hv29 rfl (by decide) v k xs (by rfl) (by exact owns_old own6.out (below_alloc _ _)) ⟨w6.heap.size, 0, none⟩ 1 1 [.int .i64 le, .slice ma mn mc, .slice sa sn sc] (by rfl) rfl (by exact World.news_of_block (blk_alloc _ _)) (by simp [Value.oneCell']) (by decide) (by simp only [maxLen]; omega) (by omega) (by have := l6.out; simp at *; omega) _ rfl ?_; intro g cap w8 hown8 hg8 hor8 hlt8; have kc8 := Lib.hid ((hg8.block q (by have := l6.out; simp at *; omega) (fun hc => by have := (HOL.out q hc.symm).1; omega)).trans (blk_below k6.out (below_alloc w6 _))); have m8 : w8.cell? ⟨q, 16, none⟩ = some v := (by rw [blk_cell kc8.out]; rfl); have m9 : w8.frozen? ⟨q, 16, none⟩ = false := blk_frozen kc8.out 16))
              all_goals
                have O7 := keep_then (Keep.of_below (below_drewN (Below.refl wr.heap.size wr) 1)) O6.out
                have K6 := HK.out.trans (keep_mono14 (Y := fun k => k = p ∨ k = q) O7 (fun k h => .inl h)) (fun _ _ h => h)
                have hqo : ∀ g0, v.ownBlock = some g0 → w29.heap.size ≤ g0 ∧ g0 < wr.heap.size := HOL.out
                have hs7 : wr.heap.size ≤ w6.heap.size := l6.out
                have hs8 : (w6.alloc (.cells #[.int .i64 le, .slice ma mn mc, .slice sa sn sc] 93)).heap.size = w6.heap.size + 1 := by simp
                have FC := Lib.hid (show (w8.setCell ⟨q, 16, none⟩ (.slice (some ⟨g, 0, none⟩) (k + 1) cap)).heap[q]? = some (.cells #[.int .i64 (k0 : Int), .int .i64 (e0 : Int), .int .i64 (v0 : Int), .int .i64 (l0 : Int), .int .i64 qc, .int .i64 qs, .int .i64 qk, .string qt, .float .f64 qb, .int .i64 qi, .int .i64 c0, .float .f64 b0, .string tx, .slice nxa N1 nxc, .slice sga sgn sgc, .slice cha N2 chc, .slice (some ⟨g, 0, none⟩) (k + 1) cap] 35 (0, 0)) from (blk_set kc8.out 16 (.slice (some ⟨g, 0, none⟩) (k + 1) cap)).trans (by simp only [List.setIfInBounds_toArray, List.set_cons_succ, List.set_cons_zero]))
                have FK := Lib.hid (Keep.set (Keep.grown (K6.alloc (.cells #[.int .i64 le, .slice ma mn mc, .slice sa sn sc] 93)) hg8 (fun g0 hg => .inl (hqo g0 hg).1)) (.inr (.inr rfl)) 16 (.slice (some ⟨g, 0, none⟩) (k + 1) cap))
                have FR := Lib.hid (prd_set (prd_block (prd_below R6.out (below_alloc w6 (.cells #[.int .i64 le, .slice ma mn mc, .slice sa sn sc] 93))) (hg8.block p (by simp; omega) (fun hc => by have := hqo p hc.symm; omega))) 16 (.slice (some ⟨g, 0, none⟩) (k + 1) cap) (show ¬ q = p by omega))
                have RI := RowIn.snoc (S := shLink) (T := 93) (B := w29.heap.size) (w5 := w6.alloc (.cells #[.int .i64 le, .slice ma mn mc, .slice sa sn sc] 93)) (w8 := w8) (v := v) (v' := .slice (some ⟨g, 0, none⟩) (k + 1) cap) (l := acc) (xs := xs) (cs := [.int .i64 le, .slice ma mn mc, .slice sa sn sc]) (M := M) (E0 := wr.heap.size) (E1 := w6.heap.size) (by rw [HL.out]; exact owns_old own6.out (below_alloc _ _)) ((HO2.out w6 O7).step (X' := fun k => ¬ M k) (Keep.of_below (X := fun _ => False) (below_alloc _ _)) (fun _ _ h => h.elim) (fun _ _ h => h)) (fun g0 hg => ⟨(HO3.out g0 hg).1, by have := (HO3.out g0 hg).2; omega⟩) (fun g0 hg => ⟨HO4.out g0 hg, (hqo g0 hg).2⟩) rfl (E6.out.step (X' := fun k => k < wr.heap.size ∨ w6.heap.size ≤ k) (Keep.of_below (X := fun _ => False) (below_alloc _ _)) (fun _ _ h => h.elim) (fun g0 hg hx => by show g0 < wr.heap.size; omega)) (by omega) (by omega) (by rw [HL.out]; exact hown8) hg8 (hor8.elim (fun h => .inl (show some g = v.ownBlock from h.symm)) (fun h => .inr (congrArg some h)))
                have FI := Lib.hid (RI.keep (Keep.set (Keep.refl (fun k => k = q) w8) (.inr rfl) 16 (.slice (some ⟨g, 0, none⟩) (k + 1) cap)) (fun k hk => by omega))
                have FP := Lib.hid (HPP.out _ _ P6.out)
                have FL := HL.out
                clear O7 K6 RI kc8 m8 m9 hown8 hg8 hor8 own6 k6 y6 y7 hs8 E6 O6 R6 P6
                go_wp2_with fail
                go_roundw
                case rel => exact ⟨k + 1, _, s2, _, by omega, by go_num, by simp [FL], FP, FR, FI, FC, FK⟩
                case measure => simp [intOf]; omega
            · have hd : decide ((k : Int) < (n3 : Int)) = false := by simp; omega
              obtain rfl : k = n3 := by omega
              obtain ⟨lka, vn, lkc, rfl, hvn⟩ := HO.out.form
              obtain rfl : vn = k := by omega
              clear hvn
              have PLK := Lib.hid (HO.out.rob hacc (show vn * 56 ≤ 140737488355328 by omega))
              have T30 := Lib.hid (T29'.out.step HP.out)
              have Q30 := Lib.hid (Q29.out.trans HK.out (fun _ _ h => h))
              have QK30 := HK
              have R30 := HR; have KC30 := HC
              clear HR HK HC HP HO T29' Q29
              obtain ⟨N3, hN3⟩ : ∃ z : Nat, z = vn := ⟨_, rfl⟩
              subst hN3
              obtain ⟨lks, hlks⟩ : ∃ z : List Lk, z = acc := ⟨_, rfl⟩
              subst hlks
              obtain ⟨s14, hs14⟩ : ∃ z : R, z = s' := ⟨_, rfl⟩
              subst hs14
              obtain ⟨w30, hw30⟩ : ∃ z : World, z = wr := ⟨_, rfl⟩
              subst hw30
              have K30 := Lib.hid ((QC26.out.trans QK27.out (fun _ _ h => h)).trans (QC29.out.trans QK30.out (fun _ _ h => h)) (fun _ _ h => h))
              have PN30 := Lib.hid (PN24.out.step (X' := fun k => k < q + 1 ∨ w22.heap.size ≤ k) K30.out (fun k _ hk => .inl (by omega)) (fun _ _ h => h))
              have PS30 := Lib.hid (PS24.out.step (X' := fun k => k < w22.heap.size ∨ w23.heap.size ≤ k) K30.out (fun k _ hk => .inl (by have := HB24.out; omega)) (fun _ _ h => h))
              have PC30 := Lib.hid (PCH.out.step (X' := fun k => k < w26.heap.size ∨ w27.heap.size ≤ k) (QC29.out.trans QK30.out (fun _ _ h => h)) (fun k _ hk => .inl (by have := HB26.out; omega)) (fun _ _ h => h))
              obtain ⟨m, hm⟩ : ∃ m : Mg, m = ⟨k0, e0, v0, l0, ⟨qc, qs, qk, qt, qb, qi⟩, c0, b0, tx, nx, sg, chs, lks⟩ := ⟨_, rfl⟩
              have hmi : MsgIn w30 ⟨k0, e0, v0, l0, ⟨qc, qs, qk, qt, qb, qi⟩, c0, b0, tx, nx, sg, chs, lks⟩ nxa N1 nxc sga sgn sgc cha N2 chc lka N3 lkc := ⟨I1.out, I6.out, I8.out, I10.out, HQOK.out, HRC.out, HRB.out, (show tx.size ≤ 140737488351232 by have := HTS.out; omega), PN30.out.self, PS30.out.self, PC30.out.self, PLK.out.self⟩
              have HMI := Lib.hid hmi
              have HRM := Lib.hid (read_end (T30.out.1 _ _ (Pr.ret _ _)))
              clear hmi hm T30 QC26 QK27 QC29 QK30
              have HKB := Lib.hid (show kindB ⟨k0, e0, v0, l0, ⟨qc, qs, qk, qt, qb, qi⟩, c0, b0, tx, nx, sg, chs, lks⟩ = (decide ((1 : Int) ≤ (k0 : Int)) && decide ((k0 : Int) ≤ 10)) from rfl)
              have HFT := Lib.hid (fun (u : World) (hu : Below w30.heap.size w30 u) => fits13_any ⟨k0, e0, v0, l0, ⟨qc, qs, qk, qt, qb, qi⟩, c0, b0, tx, nx, sg, chs, lks⟩ nxa N1 nxc sga sgn sgc cha N2 chc lka N3 lkc u (HMI.out.old hu))
              have HEN := Lib.hid (fun (u : World) (hu : Below w30.heap.size w30 u) => end_any p text s14 u (prd_below R30.out hu))
              have CM := Lib.hid (fun (ok : Bool) (u : World) (hu : Below w30.heap.size w30 u) => must_any ok p text s14 u (prd_below R30.out hu))
              have hpan := HFN.out
              have HPN := Lib.hid (fun (u : World) (hu : Below w30.heap.size w30 u) => HFN.out _ (Q30.out.trans (Keep.of_below (X := fun k => k = p ∨ k = q) hu) (fun _ _ h => h)))
              clear hpan
              have a30 : w30.cell? ⟨w.heap.size, 0, none⟩ = some (.pointer (some ⟨p, 0, none⟩)) := by rw [blk_cell ((Q30.out.block _ (blk_lt KR.out) (by omega)).trans KR.out)]; rfl
              have x0 : w30.cell? ⟨q, 0, none⟩ = some (.int .i64 (k0 : Int)) := by rw [blk_cell KC30.out]; rfl
              have hlr := World.block_lt a30
              have hlq := World.block_lt x0
              have HEB := Lib.hid (show endE s14 = 0 → s14.bad = false from fun h => by
                cases hb : s14.bad with
                | false => rfl
                | true => unfold endE at h; rw [if_pos hb] at h; cases h)
              generalize endE s14 = EE at *
              by_cases hE0 : EE = 0
              · subst hE0
                have HGB := Lib.hid (HEB.out rfl)
                by_cases hk1 : (1 : Int) ≤ (k0 : Int)
                · by_cases hk2 : (k0 : Int) ≤ 10
                  · have d1 : decide ((1 : Int) ≤ (k0 : Int)) = true := decide_eq_true hk1
                    have d2 : decide ((k0 : Int) ≤ 10) = true := decide_eq_true hk2
                    have HRM2 := Lib.hid (show readMg t = if fitsP ⟨k0, e0, v0, l0, ⟨qc, qs, qk, qt, qb, qi⟩, c0, b0, tx, nx, sg, chs, lks⟩ = true then some ⟨k0, e0, v0, l0, ⟨qc, qs, qk, qt, qb, qi⟩, c0, b0, tx, nx, sg, chs, lks⟩ else none by rw [HRM.out, HKB.out, d1, d2]; rfl)
                    clear hk1 hk2 HRM HKB HEB
                    have x1 : w30.cell? ⟨q, 1, none⟩ = some (.int .i64 (e0 : Int)) := by rw [blk_cell KC30.out]; rfl
                    have x2 : w30.cell? ⟨q, 2, none⟩ = some (.int .i64 (v0 : Int)) := by rw [blk_cell KC30.out]; rfl
                    have x3 : w30.cell? ⟨q, 3, none⟩ = some (.int .i64 (l0 : Int)) := by rw [blk_cell KC30.out]; rfl
                    have x4 : w30.cell? ⟨q, 4, none⟩ = some (.int .i64 qc) := by rw [blk_cell KC30.out]; rfl
                    have x5 : w30.cell? ⟨q, 5, none⟩ = some (.int .i64 qs) := by rw [blk_cell KC30.out]; rfl
                    have x6 : w30.cell? ⟨q, 6, none⟩ = some (.int .i64 qk) := by rw [blk_cell KC30.out]; rfl
                    have x7 : w30.cell? ⟨q, 7, none⟩ = some (.string qt) := by rw [blk_cell KC30.out]; rfl
                    have x8 : w30.cell? ⟨q, 8, none⟩ = some (.float .f64 qb) := by rw [blk_cell KC30.out]; rfl
                    have x9 : w30.cell? ⟨q, 9, none⟩ = some (.int .i64 qi) := by rw [blk_cell KC30.out]; rfl
                    have x10 : w30.cell? ⟨q, 10, none⟩ = some (.int .i64 c0) := by rw [blk_cell KC30.out]; rfl
                    have x11 : w30.cell? ⟨q, 11, none⟩ = some (.float .f64 b0) := by rw [blk_cell KC30.out]; rfl
                    have x12 : w30.cell? ⟨q, 12, none⟩ = some (.string tx) := by rw [blk_cell KC30.out]; rfl
                    have x13 : w30.cell? ⟨q, 13, none⟩ = some (.slice nxa N1 nxc) := by rw [blk_cell KC30.out]; rfl
                    have x14 : w30.cell? ⟨q, 14, none⟩ = some (.slice sga sgn sgc) := by rw [blk_cell KC30.out]; rfl
                    have x15 : w30.cell? ⟨q, 15, none⟩ = some (.slice cha N2 chc) := by rw [blk_cell KC30.out]; rfl
                    have x16 : w30.cell? ⟨q, 16, none⟩ = some (.slice lka N3 lkc) := by rw [blk_cell KC30.out]; rfl

                    cases hfb : fitsP ⟨k0, e0, v0, l0, ⟨qc, qs, qk, qt, qb, qi⟩, c0, b0, tx, nx, sg, chs, lks⟩ with
                    | false =>
                      have HNR := Lib.hid (show readMg t = none by rw [HRM2.out, hfb]; rfl)
                      rw [hfb] at HFT
                      clear hfb
                      go_upto_region 29 with (fail)
                      refine wp_region_parts (by kernel_rfl) ?_
                      refine wpAny_seg (Below w30.heap.size w30) 0 19 _ (by kernel_rfl) rfl rfl (below_drewN (Below.refl _ _) 1) ?_
                      repeat (refine wpQuiet_step (fun K hK => ?_); go_simp; first | (refine hK _ ?_; clear hK K) | (apply Exists.intro; refine ⟨fun w' hw' => ?_, hK _ ?_⟩; (first | (go_at_call 80; exact Calls.quiet_below_drawn hw' (HEN.out _ hw')) | (go_at_call 60; exact Calls.quiet_below hw' (HFT.out _ hw')) | (with_reducible rfl) | (obtain ⟨cc, dd⟩ := bcell hw'; go_simp; rfl)); clear hK K))
                      refine wpQuiet_nil ?_
                      intro w31 h31
                      refine wpAny_bar 19 _ (by kernel_rfl) rfl rfl (fun K hK => ?_)
                      refine step_calls_or rfl 76 #[.agg #[.pointer (some ⟨p, 0, none⟩)], .bool false] (by go_simp) (CM.out false _ h31) ?_
                      rintro e w32 ⟨b32, he⟩
                      exact .inr ⟨_, he, rfl, HPN.out _ (bthen h31 b32), .inl ⟨rfl, HNR.out⟩⟩
                    | true =>
                      have HRR := Lib.hid (show readMg t = some ⟨k0, e0, v0, l0, ⟨qc, qs, qk, qt, qb, qi⟩, c0, b0, tx, nx, sg, chs, lks⟩ by rw [HRM2.out, hfb]; rfl)
                      rw [hfb] at HFT
                      clear hfb HRM2
                      go_upto_region 29 with (fail)
                      refine wp_region_parts (by kernel_rfl) ?_
                      refine wpAny_seg (Below w30.heap.size w30) 0 19 _ (by kernel_rfl) rfl rfl (below_drewN (Below.refl _ _) 1) ?_
                      repeat (refine wpQuiet_step (fun K hK => ?_); go_simp; first | (refine hK _ ?_; clear hK K) | (apply Exists.intro; refine ⟨fun w' hw' => ?_, hK _ ?_⟩; (first | (go_at_call 80; exact Calls.quiet_below_drawn hw' (HEN.out _ hw')) | (go_at_call 60; exact Calls.quiet_below hw' (HFT.out _ hw')) | (with_reducible rfl) | (obtain ⟨cc, dd⟩ := bcell hw'; go_simp; rfl)); clear hK K))
                      refine wpQuiet_nil ?_
                      intro w31 h31
                      refine wpAny_bar 19 _ (by kernel_rfl) rfl rfl (fun K hK => ?_)
                      refine step_calls_or rfl 76 #[.agg #[.pointer (some ⟨p, 0, none⟩)], .bool true] (by go_simp) (CM.out true _ h31) ?_
                      rintro e w32 ⟨b32, he⟩
                      rw [HGB.out] at he
                      refine .inl ⟨_, he, hK _ _ ?_⟩
                      clear hK K he
                      refine wpAny_end rfl ?_
                      show Exit.then _ _ Exit.normal (Act.put _ (some 120) (Value.tuple #[])) _
                      simp only [Act.put, List.setIfInBounds_toArray, List.set_cons_succ, List.set_cons_zero]
                      have B32 := Lib.hid (bthen h31 b32)
                      have KC32 := Lib.hid (blk_below KC30.out B32.out)
                      have KS32 := Lib.hid (blk_below ((Q30.out.block _ (blk_lt KS.out) (by omega)).trans KS.out) B32.out)
                      have R32 := Lib.hid (prd_below R30.out B32.out)
                      clear h31 b32 a30 x0 x1 x2 x3 x4 x5 x6 x7 x8 x9 x10 x11 x12 x13 x14 x15 x16
                      go_upto_region 30 with (fail)
                      refine wp_region_lit ?_
                      refine ops_val rfl (w' := w32) (v := .agg #[.int .i64 (k0 : Int), .int .i64 (e0 : Int), .int .i64 (v0 : Int), .int .i64 (l0 : Int), .int .i64 qc, .int .i64 qs, .int .i64 qk, .string qt, .float .f64 qb, .int .i64 qi, .int .i64 c0, .float .f64 b0, .string tx, .slice nxa N1 nxc, .slice sga sgn sgc, .slice cha N2 chc, .slice lka N3 lkc]) (load_row _ _ (.tmp 3) Tryz.underlying35 rfl (by rw [List.size_toArray]; exact info_mg) rfl rfl KC32.out) ?_
                      simp only [Act.put, List.setIfInBounds_toArray, List.set_cons_succ, List.set_cons_zero]
                      refine wpList_store_mid rfl 35 (.tmp 2) (.tmp 121) rfl (w.heap.size + 1) 0 #[.int .i64 (k0 : Int), .int .i64 (e0 : Int), .int .i64 (v0 : Int), .int .i64 (l0 : Int), .int .i64 qc, .int .i64 qs, .int .i64 qk, .string qt, .float .f64 qb, .int .i64 qi, .int .i64 c0, .float .f64 b0, .string tx, .slice nxa N1 nxc, .slice sga sgn sgc, .slice cha N2 chc, .slice lka N3 lkc] rfl rfl (fun j hj => ⟨by rw [blk_cell KS32.out, Option.isSome_iff_exists]; exact ⟨_, Array.getElem?_eq_getElem (by simpa using hj)⟩, blk_frozen KS32.out _⟩) (by rw [List.size_toArray]; exact info_mg) (by simp [Value.oneCell']) ?_
                      obtain ⟨w33, hw33⟩ : ∃ u, u = World.setCells w32 (w.heap.size + 1) 0 (#[.int .i64 (k0 : Int), .int .i64 (e0 : Int), .int .i64 (v0 : Int), .int .i64 (l0 : Int), .int .i64 qc, .int .i64 qs, .int .i64 qk, .string qt, .float .f64 qb, .int .i64 qi, .int .i64 c0, .float .f64 b0, .string tx, .slice nxa N1 nxc, .slice sga sgn sgc, .slice cha N2 chc, .slice lka N3 lkc] : Array Value).toList := ⟨_, rfl⟩
                      have K33 := Lib.hid (show w33.heap[w.heap.size + 1]? = some (.cells #[.int .i64 (k0 : Int), .int .i64 (e0 : Int), .int .i64 (v0 : Int), .int .i64 (l0 : Int), .int .i64 qc, .int .i64 qs, .int .i64 qk, .string qt, .float .f64 qb, .int .i64 qi, .int .i64 c0, .float .f64 b0, .string tx, .slice nxa N1 nxc, .slice sga sgn sgc, .slice cha N2 chc, .slice lka N3 lkc] 35 (0, 0)) from by rw [hw33]; have := sets_blk [.int .i64 (k0 : Int), .int .i64 (e0 : Int), .int .i64 (v0 : Int), .int .i64 (l0 : Int), .int .i64 qc, .int .i64 qs, .int .i64 qk, .string qt, .float .f64 qb, .int .i64 qi, .int .i64 c0, .float .f64 b0, .string tx, .slice nxa N1 nxc, .slice sga sgn sgc, .slice cha N2 chc, .slice lka N3 lkc] w32 [] zeroMg KS32.out rfl; simpa using this)
                      have B33 := Lib.hid (show Below (w.heap.size + 1) w30 w33 from by rw [hw33]; exact sets_old (Nat.le_refl _) _ (B32.out.mono (by omega)))
                      have KF := Lib.hid (show Keep (fun k => k = p) w w33 from by rw [hw33]; exact keep_sets (.inl (by omega)) _ (HPN.out w32 B32.out))
                      have KW := Lib.hid (show Keep (fun k => k = w.heap.size + 1) w30 w33 from by rw [hw33]; exact keep_sets (X := fun k => k = w.heap.size + 1) (.inr rfl) _ (Keep.of_below B32.out))
                      rw [← hw33]
                      clear hw33
                      simp only [Act.put, List.setIfInBounds_toArray, List.set_cons_succ, List.set_cons_zero]
                      go_wp2_with fail
                      have hld := run_loadVar_row (P := Tryz.prog) w33 (w.heap.size + 1) 35 35 #[.int .i64 (k0 : Int), .int .i64 (e0 : Int), .int .i64 (v0 : Int), .int .i64 (l0 : Int), .int .i64 qc, .int .i64 qs, .int .i64 qk, .string qt, .float .f64 qb, .int .i64 qi, .int .i64 c0, .float .f64 b0, .string tx, .slice nxa N1 nxc, .slice sga sgn sgc, .slice cha N2 chc, .slice lka N3 lkc] (0, 0) _ K33.out Tryz.underlying35 rfl (by kernel_rfl)
                      generalize hV : (Value.agg #[.int .i64 (k0 : Int), .int .i64 (e0 : Int), .int .i64 (v0 : Int), .int .i64 (l0 : Int), .int .i64 qc, .int .i64 qs, .int .i64 qk, .string qt, .float .f64 qb, .int .i64 qi, .int .i64 c0, .float .f64 b0, .string tx, .slice nxa N1 nxc, .slice sga sgn sgc, .slice cha N2 chc, .slice lka N3 lkc]) = V at hld
                      refine bodyPost_ret (v := V) (by simp [results, Tryz.results29, asAddr, hld]) rfl ?_
                      rw [← hV]
                      refine ⟨KF.out, .inr ⟨⟨k0, e0, v0, l0, ⟨qc, qs, qk, qt, qb, qi⟩, c0, b0, tx, nx, sg, chs, lks⟩, [.int .i64 (k0 : Int), .int .i64 (e0 : Int), .int .i64 (v0 : Int), .int .i64 (l0 : Int), .int .i64 qc, .int .i64 qs, .int .i64 qk, .string qt, .float .f64 qb, .int .i64 qi, .int .i64 c0, .float .f64 b0, .string tx, .slice nxa N1 nxc, .slice sga sgn sgc, .slice cha N2 chc, .slice lka N3 lkc], rfl, HRR.out, fun u hu => msg_make ?_⟩⟩
                      have h22 := hsz22; have h26 := HB26.out; have h29 := HB29.out
                      exact ⟨I1.out, I6.out, I8.out, I10.out, HQOK.out, HRC.out, HRB.out, (show tx.size ≤ 140737488351232 by have := HTS.out; omega),
                        (PN30.out.step (X' := fun k => k < w.heap.size) KW.out (fun k _ hk => .inl (by omega)) (fun k _ hk => .inl (by omega))) u hu,
                        (PS30.out.step (X' := fun k => k < w.heap.size) KW.out (fun k _ hk => .inl (by omega)) (fun k _ hk => .inl (by omega))) u hu,
                        (PC30.out.step (X' := fun k => k < w.heap.size) KW.out (fun k _ hk => .inl (by omega)) (fun k _ hk => .inl (by omega))) u hu,
                        (PLK.out.step (X' := fun k => k < w.heap.size) KW.out (fun k _ hk => .inl (by omega)) (fun k _ hk => .inl (by omega))) u hu⟩
                  · have d1 : decide ((1 : Int) ≤ (k0 : Int)) = true := decide_eq_true hk1
                    have d2 : decide ((k0 : Int) ≤ 10) = false := decide_eq_false hk2
                    have HNR := Lib.hid (show readMg t = none by rw [HRM.out, HKB.out, d1, d2]; rfl)
                    clear hk1 hk2 HRM
                    go_upto_region 29 with (fail)
                    refine wp_region_parts (by kernel_rfl) ?_
                    refine wpAny_seg (Below w30.heap.size w30) 0 19 _ (by kernel_rfl) rfl rfl (below_drewN (Below.refl _ _) 1) ?_
                    repeat (refine wpQuiet_step (fun K hK => ?_); go_simp; first | (refine hK _ ?_; clear hK K) | (apply Exists.intro; refine ⟨fun w' hw' => ?_, hK _ ?_⟩; (first | (go_at_call 80; exact Calls.quiet_below_drawn hw' (HEN.out _ hw')) | (with_reducible rfl) | (obtain ⟨cc, dd⟩ := bcell hw'; go_simp; rfl)); clear hK K))
                    refine wpQuiet_nil ?_
                    intro w31 h31
                    refine wpAny_bar 19 _ (by kernel_rfl) rfl rfl (fun K hK => ?_)
                    refine step_calls_or rfl 76 #[.agg #[.pointer (some ⟨p, 0, none⟩)], .bool false] (by go_simp) (CM.out false _ h31) ?_
                    rintro e w32 ⟨b32, he⟩
                    exact .inr ⟨_, he, rfl, HPN.out _ (bthen h31 b32), .inl ⟨rfl, HNR.out⟩⟩
                · have d1 : decide ((1 : Int) ≤ (k0 : Int)) = false := decide_eq_false hk1
                  have HNR := Lib.hid (show readMg t = none by rw [HRM.out, HKB.out, d1]; rfl)
                  clear hk1 HRM
                  go_upto_region 29 with (fail)
                  refine wp_region_parts (by kernel_rfl) ?_
                  refine wpAny_seg (Below w30.heap.size w30) 0 19 _ (by kernel_rfl) rfl rfl (below_drewN (Below.refl _ _) 1) ?_
                  repeat (refine wpQuiet_step (fun K hK => ?_); go_simp; first | (refine hK _ ?_; clear hK K) | (apply Exists.intro; refine ⟨fun w' hw' => ?_, hK _ ?_⟩; (first | (go_at_call 80; exact Calls.quiet_below_drawn hw' (HEN.out _ hw')) | (with_reducible rfl) | (obtain ⟨cc, dd⟩ := bcell hw'; go_simp; rfl)); clear hK K))
                  refine wpQuiet_nil ?_
                  intro w31 h31
                  refine wpAny_bar 19 _ (by kernel_rfl) rfl rfl (fun K hK => ?_)
                  refine step_calls_or rfl 76 #[.agg #[.pointer (some ⟨p, 0, none⟩)], .bool false] (by go_simp) (CM.out false _ h31) ?_
                  rintro e w32 ⟨b32, he⟩
                  exact .inr ⟨_, he, rfl, HPN.out _ (bthen h31 b32), .inl ⟨rfl, HNR.out⟩⟩
              · have hee : (EE == 0) = false := by simpa using hE0
                have HNR := Lib.hid (show readMg t = none by rw [HRM.out, decide_eq_false hE0]; rfl)
                clear hE0
                go_upto_region 29 with (fail)
                refine wp_region_parts (by kernel_rfl) ?_
                refine wpAny_seg (Below w30.heap.size w30) 0 19 _ (by kernel_rfl) rfl rfl (below_drewN (Below.refl _ _) 1) ?_
                repeat (refine wpQuiet_step (fun K hK => ?_); go_simp; first | (refine hK _ ?_; clear hK K) | (apply Exists.intro; refine ⟨fun w' hw' => ?_, hK _ ?_⟩; (first | (go_at_call 80; exact Calls.quiet_below_drawn hw' (HEN.out _ hw')) | (with_reducible rfl) | (obtain ⟨cc, dd⟩ := bcell hw'; go_simp; rfl)); clear hK K))
                refine wpQuiet_nil ?_
                intro w31 h31
                refine wpAny_bar 19 _ (by kernel_rfl) rfl rfl (fun K hK => ?_)
                refine step_calls_or rfl 76 #[.agg #[.pointer (some ⟨p, 0, none⟩)], .bool false] (by go_simp) (CM.out false _ h31) ?_
                rintro e w32 ⟨b32, he⟩
                exact .inr ⟨_, he, rfl, HPN.out _ (bthen h31 b32), .inl ⟨rfl, HNR.out⟩⟩
end Go.Proofs.YtijeieamodjgbaaGreat
