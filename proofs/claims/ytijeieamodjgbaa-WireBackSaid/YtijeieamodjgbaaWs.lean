
/- Wire: the reader's walks: change. -/
import Derived.Test.YtijeieamodjgbaaWr
namespace Go.Proofs.Ytijeieamodjgbaa
set_option maxRecDepth 100000
open Go.RowKit Go.Deep
set_option linter.unusedVariables false
set_option linter.unusedSimpArgs false
attribute [local go_sem] run_store_float

/-- A row that is being read: all of it lies from B on. -/
def RowIn {α : Type} (S : Sh α) (T : TypeId) (B : Nat) (w : World) (v : Value) (l : List α) : Prop :=
  ∃ xs : List Value, ∃ M : Nat → Prop, w.ownsRow B T S.k v l.length xs ∧ rowOf S (fun k => ¬ M k) w l xs ∧ (∀ k, M k → B ≤ k ∧ k < w.heap.size) ∧ ∀ k, v.ownBlock = some k → ¬ M k
section
variable {α : Type} {S : Sh α} {T : TypeId} {B : Nat} {w w5 w8 : World} {v v' : Value} {l : List α}
theorem RowIn.nil : RowIn S T B w (.slice none 0 0) [] := ⟨[], fun _ => False, World.ownsRow_nil _ _ _ _, rfl, fun _ h => h.elim, fun _ _ h => h⟩
theorem RowIn.keep {Y : Nat → Prop} (h : RowIn S T B w v l) (hk : Keep Y w w5) (hY : ∀ k, Y k → k < B) : RowIn S T B w5 v l := by
  obtain ⟨xs, M, h1, h2, h3, h4⟩ := h
  exact ⟨xs, M, owns_keep h1 hk (fun k hk' hy => by have := (h1.lt k hk').1; have := hY k hy; omega), h2.step hk (fun k _ hy hm => by have := (h3 k hm).1; have := hY k hy; omega) (fun _ _ h => h), fun k hm => ⟨(h3 k hm).1, Nat.lt_of_lt_of_le (h3 k hm).2 hk.size⟩, h4⟩
theorem RowIn.snoc {xs cs : List Value} {M : Nat → Prop} {E0 E1 : Nat} {y : α} (ho : w5.ownsRow B T S.k v l.length xs) (hr : rowOf S (fun k => ¬ M k) w5 l xs) (hM : ∀ k, M k → B ≤ k ∧ k < w5.heap.size) (hno : ∀ k, v.ownBlock = some k → ¬ M k ∧ k < E0)
    (hc : cs.length = S.k) (hy : Rob (fun k => k < E0 ∨ E1 ≤ k) (fun u => S.E u y cs) w5) (hB : B ≤ E0) (hE : E1 ≤ w5.heap.size) (ho8 : w8.ownsRow B T S.k v' (l.length + 1) (xs ++ cs)) (hg : w5.grownBy w8 v.ownBlock) (hor : v'.ownBlock = v.ownBlock ∨ v'.ownBlock = some w5.heap.size) :
    RowIn S T B w8 v' (l ++ [y]) := by
  have K : Keep (fun k => v.ownBlock = some k) w5 w8 := (Keep.refl _ w5).grown hg (fun k hk => .inr hk)
  refine ⟨xs ++ cs, fun k => M k ∨ (E0 ≤ k ∧ k < E1), by rw [List.length_append]; exact ho8, ?_, fun k hk => ?_, fun k hk hm => ?_⟩
  · refine rowOf.snoc (hr.step K (fun k _ hk hm => (hno k hk).1 hm) (fun k _ hx hm => hx (.inl hm))) hc (hy.step K (fun k _ hk => .inl (hno k hk).2) (fun k _ hx => ?_))
    by_cases h1 : E0 ≤ k
    · by_cases h2 : k < E1
      · exact absurd (.inr ⟨h1, h2⟩) hx
      · exact .inr (by omega)
    · exact .inl (by omega)
  · have := K.size
    rcases hk with hk | ⟨h1, h2⟩
    · have := hM k hk; exact ⟨this.1, by omega⟩
    · exact ⟨by omega, by omega⟩
  · rcases hor with h | h
    · rw [h] at hk
      rcases hm with hm | ⟨h1, h2⟩
      · exact (hno k hk).1 hm
      · have := (hno k hk).2; omega
    · rw [h] at hk
      injection hk with hk
      rcases hm with hm | ⟨h1, h2⟩
      · have := (hM k hm).2; omega
      · omega
theorem RowIn.rob {a : Option Addr} {n c : Nat} (h : RowIn S T B w (.slice a n c) l) (hn : l.length = n) (hb : n * S.bs ≤ 140737488355328) : Rob (fun k => k < B ∨ w.heap.size ≤ k) (fun u => SlAt S u a n c l) w := fun u hu => by
  obtain ⟨xs, M, h1, h2, h3, h4⟩ := h
  subst hn
  exact sl_of_row (owns_keep h1 hu (fun k hk hx => by have := h1.lt k hk; omega)) (h2.step (X' := fun k => ¬ M k) hu (fun k _ hx hm => by have := h3 k hm; omega) (fun _ _ h => h)) hb
end
theorem RowIn.form {α : Type} {S : Sh α} {T : TypeId} {B : Nat} {w : World} {v : Value} {l : List α} (h : RowIn S T B w v l) : ∃ a n c, v = .slice a n c ∧ n = l.length := by
  obtain ⟨xs, M, h1, _⟩ := h
  obtain ⟨a, c, rfl⟩ := owns_form h1
  exact ⟨a, _, c, rfl, rfl⟩
theorem keep_mono14 {X Y : Nat → Prop} {w w' : World} (h : Keep X w w') (hX : ∀ k, X k → Y k) : Keep Y w w' := ⟨h.os, h.tape, h.output, h.size, fun k hk hy => h.block k hk (fun hx => hy (hX k hx))⟩
theorem rob_slice {α : Type} {S : Sh α} {X : Nat → Prop} {w : World} {l : List α} {cs : List Value} (h : Rob X (fun u => S.slice.E u l cs) w) : ∃ a n c, cs = [.slice a n c] ∧ Rob X (fun u => SlAt S u a n c l) w := by
  obtain ⟨a, n, c, rfl, _⟩ := h.self
  refine ⟨a, n, c, rfl, fun u hu => ?_⟩
  obtain ⟨a', n', c', he, hs⟩ := h u hu
  injection he with he
  injection he with h1 h2 h3
  subst h1 h2 h3
  exact hs
theorem cert_make {w : World} {y : Ce} {a : Option Addr} {n c : Nat} (h1 : i64 y.v) (h2 : i64 y.s) (h3 : y.q.Ok) (h4 : SlAt shSig w a n c y.sg) : shCert.E w y [.int .i64 y.v, .int .i64 y.s, .int .i64 y.q.c, .int .i64 y.q.s, .int .i64 y.q.kind, .string y.q.key, .float .f64 y.q.b, .int .i64 y.q.id, .slice a n c] :=
  ⟨[.int .i64 y.v], _, rfl, ⟨rfl, h1⟩, [.int .i64 y.s], _, rfl, ⟨rfl, h2⟩, y.q.cs, [.slice a n c], rfl, req_rob y.q h3 (fun _ => True) w w (Keep.refl _ _), a, n, c, rfl, h4⟩
theorem change_make {w : World} {y : Ch} {a : Option Addr} {n c : Nat} (h1 : i64 y.fr) (h2 : i64 y.v) (h3 : SlAt shCert w a n c y.ce) (h4 : i64 y.sg.1) (h5 : y.sg.2.size ≤ 1125899906842624) : shChange.E w y [.int .i64 y.fr, .int .i64 y.v, .slice a n c, .int .i64 y.sg.1, .string y.sg.2] :=
  ⟨[.int .i64 y.fr], _, rfl, ⟨rfl, h1⟩, [.int .i64 y.v], _, rfl, ⟨rfl, h2⟩, [.slice a n c], _, rfl, ⟨a, n, c, rfl, h3⟩, [.int .i64 y.sg.1], [.string y.sg.2], rfl, ⟨rfl, h4⟩, rfl, h5⟩
theorem pr_cert {s s3 s4 : R} {q : Rq} {sg : List Sg} (hq : Pr pReq (rNext (rNext s 1) 2) q s3) (hs : Pr (pSigs true) s3 sg s4) : Pr (pCert true) s ⟨(rVal s 1 : Nat), (rVal (rNext s 1) 2 : Nat), q, sg⟩ s4 := by
  unfold pCert
  exact (pr_num s 1).then ((pr_num _ 2).then (hq.then (hs.then (Pr.ret _ _))))
theorem no_cert1 {s : R} (h : No pReq (rNext (rNext s 1) 2)) : No (pCert true) s := by
  unfold pCert
  exact No.step (pr_num s 1) (No.step (pr_num _ 2) h.then)
theorem no_cert2 {s s3 : R} {q : Rq} (hq : Pr pReq (rNext (rNext s 1) 2) q s3) (h : No (pSigs true) s3) : No (pCert true) s := by
  unfold pCert
  exact No.step (pr_num s 1) (No.step (pr_num _ 2) (No.step hq h.then))
theorem pr_change {s s' : R} {ce : List Ce} (hn : rVal (rNext (rNext s 1) 1) 1 ≤ 4) (h : Pr (pRep (pCert true) (rVal (rNext (rNext s 1) 1) 1)) (rNext (rNext (rNext s 1) 1) 1) ce s') : Pr (pChange true) s ⟨(rVal s 1 : Nat), (rVal (rNext s 1) 1 : Nat), ce, sgV s'⟩ (sgN s') := by
  unfold pChange
  exact (pr_num s 1).then ((pr_num _ 1).then ((pr_num _ 1).then (((show Pr (pRep (pCert true) ((rVal (rNext (rNext s 1) 1) 1 : Nat) : Int).toNat) _ ce s' from h).then (Pr.map (f := fun sg => (⟨(rVal s 1 : Nat), (rVal (rNext s 1) 1 : Nat), ce, sg⟩ : Ch)) (pr_sig s'))).if (by simp; omega))))
theorem no_change1 {s : R} (h : (decide ((rVal (rNext (rNext s 1) 1) 1 : Int) ≤ 4) && !(rNext (rNext (rNext s 1) 1) 1).bad) = false) : No (pChange true) s := by
  unfold pChange
  refine No.step (pr_num s 1) (No.step (pr_num _ 1) ?_)
  cases hb : (rNext (rNext (rNext s 1) 1) 1).bad with
  | true => exact ((pr_num _ 1).bad hb).then
  | false =>
    rw [hb] at h
    exact No.step (pr_num _ 1) (No.if (by simp at h ⊢; omega))
theorem no_if {α : Type} {p : Ps α} {s : R} {b : Bool} (h : No p s) : No (pIf b p) s := by
  rcases h with h | h
  · exact .inl h
  · right
    unfold pIf
    split
    · exact h
    · rfl
theorem no_change2 {s : R} (h : No (pRep (pCert true) (rVal (rNext (rNext s 1) 1) 1)) (rNext (rNext (rNext s 1) 1) 1)) : No (pChange true) s := by
  unfold pChange
  exact No.step (pr_num s 1) (No.step (pr_num _ 1) (No.step (pr_num _ 1) (no_if (No.then (show No (pRep (pCert true) ((rVal (rNext (rNext s 1) 1) 1 : Nat) : Int).toNat) _ from h)))))
theorem rVal_i64 (s : R) (k : Nat) (hk : k ≤ 2) : i64 ((rVal s k : Nat) : Int) := by
  have h := rVal_lt s k
  have : 256 ^ k ≤ 256 ^ 2 := Nat.pow_le_pow_right (by omega) hk
  unfold i64
  omega
theorem info_cert : (Try.prog.info? 118).map (fun i => (i.zero, i.size, i.bytes)) = some (some (.agg #[.int .i64 0, .int .i64 0, .int .i64 0, .int .i64 0, .int .i64 0, .string ⟨#[]⟩, .float .f64 0, .int .i64 0, .slice none 0 0]), 9, 96) := by kernel_rfl

set_option maxHeartbeats 4000000 in
theorem rchange_any (p : Nat) (text : ByteArray) (s : R) (w : World) (h : PRd w p text s) :
    Calls Try.prog 127 #[.agg #[.pointer (some ⟨p, 0, none⟩)]] w (GotP (pChange true) shChange aggF w p text s) := by
  obtain ⟨ii, hi, hz0, hz1, hz2⟩ := info_parts info_cert
  obtain ⟨w1, hw1⟩ : ∃ u, u = w.alloc (.cells #[.pointer (some ⟨p, 0, none⟩)] 125 (0, 0)) := ⟨_, rfl⟩
  obtain ⟨w2, hw2⟩ : ∃ u, u = w1.alloc (.cells #[.int .i64 0, .int .i64 0, .slice none 0 0, .int .i64 0, .string ⟨#[]⟩] 106 (0, 0)) := ⟨_, rfl⟩
  have b1 : Below w.heap.size w w1 := by rw [hw1]; exact below_alloc _ _
  have hzz : w1.heap.size = w.heap.size + 1 := by rw [hw1]; simp
  have b2 : Below w1.heap.size w1 w2 := by rw [hw2]; exact below_alloc _ _
  have K1 := Lib.hid (show w2.heap[w.heap.size]? = some (.cells #[.pointer (some ⟨p, 0, none⟩)] 125 (0, 0)) from blk_below (by rw [hw1]; exact blk_alloc _ _) b2)
  have K2 := Lib.hid (show w2.heap[w.heap.size + 1]? = some (.cells #[.int .i64 0, .int .i64 0, .slice none 0 0, .int .i64 0, .string ⟨#[]⟩] 106 (0, 0)) by rw [← hzz, hw2]; exact blk_alloc _ _)
  have B2 := Lib.hid (bthen b1 b2)
  have hp := prd_lt h
  have C1 := Lib.hid (rbyte_got p text s w2 (prd_below h B2.out))
  have PS := Lib.hid (fun ce s' hn h => pr_change (s := s) (s' := s') (ce := ce) hn h)
  have NS1 := Lib.hid (fun h => no_change1 (s := s) h)
  have NS2 := Lib.hid (fun h => no_change2 (s := s) h)
  have I1 := Lib.hid (rVal_i64 s 1 (by decide))
  have I2 := Lib.hid (rVal_i64 (rNext s 1) 1 (by decide))
  have hlt := rVal_lt (rNext (rNext s 1) 1) 1
  have C2 := Lib.hid (fun w h => rbyte_got p text (rNext s 1) w h)
  have C3 := Lib.hid (fun w h => rbyte_got p text (rNext (rNext s 1) 1) w h)
  have CM := Lib.hid (fun ok w h => must_any ok p text (rNext (rNext (rNext s 1) 1) 1) w h)
  have a0 : w2.cell? ⟨w.heap.size, 0, none⟩ = some (.pointer (some ⟨p, 0, none⟩)) := by rw [blk_cell K1.out]; rfl
  generalize rVal (rNext (rNext s 1) 1) 1 = N3 at *
  generalize rNext (rNext (rNext s 1) 1) 1 = s3 at *
  generalize rNext (rNext s 1) 1 = s2 at *
  generalize rVal (rNext s 1) 1 = N2 at *
  generalize rNext s 1 = s1 at *
  generalize rVal s 1 = N1 at *
  clear h b1 b2 hzz
  go_enter Try.func127, Try.ntmps127
  go_upto_region 1 with (fail)
  rw [← hw1, ← hw2]
  clear hw1 hw2
  go_wp2_with fail
  refine C1.out.mono ?_
  rintro e w3 ⟨rfl, hr3, ho3⟩
  have hz3 := ho3.size
  have hsz2 := B2.out.size
  have hz20 := blk_lt K2.out
  have k1 := (ho3.block _ (blk_lt K1.out) (by omega)).trans K1.out
  have k2 := (ho3.block _ (blk_lt K2.out) (by omega)).trans K2.out
  obtain ⟨w4, hw4⟩ : ∃ u, u = w3.alloc (.cells #[.int .i64 (N1 : Int), .int .i64 0, .slice none 0 0, .int .i64 0, .string ⟨#[]⟩] 106 (0, 0)) := ⟨_, rfl⟩
  have b4 : Below w3.heap.size w3 w4 := by rw [hw4]; exact below_alloc _ _
  have hz4 : w4.heap.size = w3.heap.size + 1 := by rw [hw4]; simp
  have KC4 := Lib.hid (show w4.heap[w3.heap.size]? = some (.cells #[.int .i64 (N1 : Int), .int .i64 0, .slice none 0 0, .int .i64 0, .string ⟨#[]⟩] 106 (0, 0)) by rw [hw4]; exact blk_alloc _ _)
  have KR := Lib.hid (blk_below k1 b4)
  have KS := Lib.hid (blk_below k2 b4)
  have R4 := Lib.hid (prd_below hr3 b4)
  have O4 := Lib.hid (keep_then (keep_then (Keep.of_below B2.out) ho3) (Keep.of_below b4))
  have hpq : p < w3.heap.size := by omega
  have hHq : w.heap.size + 1 < w3.heap.size := by omega
  have c0 : w4.cell? ⟨w.heap.size, 0, none⟩ = some (.pointer (some ⟨p, 0, none⟩)) := by rw [blk_cell KR.out]; rfl
  have CC2 := Lib.hid (C2.out w4 R4.out)
  clear hr3 ho3 k1 k2 b4 a0 C1 K1 K2 C2
  go_upto_region 2 with (fail)
  rw [← hw4]
  clear hw4
  generalize w3.heap.size = q at *
  go_wp2_with fail
  refine CC2.out.mono ?_
  rintro e w5 ⟨rfl, hr5, ho5⟩
  have kc5 := (ho5.block _ (blk_lt KC4.out) (by omega)).trans KC4.out
  obtain ⟨w6, hw6⟩ : ∃ u, u = w5.setCell ⟨q, 1, none⟩ (.int .i64 (N2 : Int)) := ⟨_, rfl⟩
  have KC6 := Lib.hid (show w6.heap[q]? = some (.cells #[.int .i64 (N1 : Int), .int .i64 (N2 : Int), .slice none 0 0, .int .i64 0, .string ⟨#[]⟩] 106 (0, 0)) by rw [hw6, blk_set kc5 1 _]; rfl)
  have Q6 := Lib.hid (show Keep (fun k => k = p ∨ k = q) w4 w6 by rw [hw6]; exact (keep_mono14 ho5 (fun k h => .inl h)).set (.inr (.inr rfl)) _ _)
  have R6 := Lib.hid (show PRd w6 p text s2 by rw [hw6]; exact prd_set hr5 _ _ (by omega))
  have kr6 := (Q6.out.block _ (blk_lt KR.out) (by omega)).trans KR.out
  have d0 : w6.cell? ⟨w.heap.size, 0, none⟩ = some (.pointer (some ⟨p, 0, none⟩)) := by rw [blk_cell kr6]; rfl
  have e1 : w5.cell? ⟨q, 1, none⟩ = some (.int .i64 0) := by rw [blk_cell kc5]; rfl
  have e2 : w5.frozen? ⟨q, 1, none⟩ = false := blk_frozen kc5 1
  have CC3 := Lib.hid (C3.out w6 R6.out)
  clear hr5 ho5 kc5 kr6 c0 CC2 C3 KC4
  go_upto_region 3 with (fail)
  rw [← hw6]
  clear hw6 e1 e2
  go_wp2_with fail
  refine CC3.out.mono ?_
  rintro e w7 ⟨rfl, hr7, ho7⟩
  have Q7 := Lib.hid (Q6.out.trans (keep_mono14 (Y := fun k => k = p ∨ k = q) ho7 (fun k h => .inl h)) (fun _ _ h => h))
  have KC7 := Lib.hid ((ho7.block _ (blk_lt KC6.out) (by omega)).trans KC6.out)
  have R7 := Lib.hid hr7
  have kr7 := (Q7.out.block _ (blk_lt KR.out) (by omega)).trans KR.out
  have f0 : w7.cell? ⟨w.heap.size, 0, none⟩ = some (.pointer (some ⟨p, 0, none⟩)) := by rw [blk_cell kr7]; rfl
  clear hr7 ho7 kr7 d0 CC3 R6 Q6 KC6
  go_wp2_with fail
  refine (CM.out _ w7 R7.out).mono ?_
  rintro e w8 ⟨b8, he⟩
  have R8 := Lib.hid (prd_below R7.out b8)
  have Q8 := Lib.hid (Q7.out.trans (Keep.of_below (X := fun k => k = p ∨ k = q) b8) (fun _ _ h => h))
  have KC8 := Lib.hid (blk_below KC7.out b8)
  have HFN := Lib.hid (fun (u : World) (hu : Keep (fun k => k = p ∨ k = q) w4 u) => (O4.out.trans (X := fun k => k = p) hu (fun k hk h => h.elim id (fun h => by omega)) : Keep (fun k => k = p) w u))
  clear b8 f0 CM R7 Q7 KC7
  cases hm : (decide ((N3 : Int) ≤ 4) && !s3.bad) with
  | false =>
    rw [hm, if_neg (by decide)] at he
    subst he
    go_wp2_with fail
    exact ⟨rfl, HFN.out _ Q8.out, .inl ⟨rfl, NS1.out hm⟩⟩
  | true =>
  rw [hm, if_pos rfl] at he
  subst he
  rw [Bool.and_eq_true] at hm
  have hN : N3 ≤ 4 := by have := of_decide_eq_true hm.1; omega
  clear hm NS1 hlt
  go_wp2_with fail
  go_loopw [22] (fun i wr => ∃ k : Nat, ∃ acc : List Ce, ∃ s' : R, ∃ v : Value, k ≤ N3 ∧ i = .int .i64 k ∧ acc.length = k ∧ Hid (Pr (pRep (pCert true) k) s3 acc s') ∧ Hid (PRd wr p text s') ∧ Hid (RowIn shCert 118 (q + 1) wr v acc) ∧ Hid (wr.heap[q]? = some (.cells #[.int .i64 (N1 : Int), .int .i64 (N2 : Int), v, .int .i64 0, .string ⟨#[]⟩] 106 (0, 0))) ∧ Hid (Keep (fun k => k = p ∨ k = q) w4 wr)) (fun i _ => N3 - (intOf i).toNat)
  case atStart => exact ⟨0, [], s3, _, by omega, rfl, rfl, Lib.hid (Pr.ret _ _), R8, Lib.hid RowIn.nil, KC8, Q8⟩
  case round =>
    clear R8 Q8 KC8
    obtain ⟨k, acc, s', v, hk, rfl, hacc, HP, HR, HO, HC, HK⟩ := hrel
    obtain ⟨va, vn, vc, rfl, hvn⟩ := HO.out.form
    have HR1 := Lib.hid ((HK.out.block _ (blk_lt KR.out) (by omega)).trans KR.out)
    have hsz := HK.out.size
    by_cases hlk : k < N3
    · have hd : decide ((k : Int) < (N3 : Int)) = true := by simp; omega
      have y0 : wr.cell? ⟨w.heap.size, 0, none⟩ = some (.pointer (some ⟨p, 0, none⟩)) := by rw [blk_cell HR1.out]; rfl
      have PC := Lib.hid (fun q sg s3 s4 h1 h2 => pr_cert (s := s') (s3 := s3) (s4 := s4) (q := q) (sg := sg) h1 h2)
      have NC1 := Lib.hid (fun h => no_cert1 (s := s') h)
      have NC2 := Lib.hid (fun q s3 h1 h => no_cert2 (s := s') (s3 := s3) (q := q) h1 h)
      have J1 := Lib.hid (rVal_i64 s' 1 (by decide))
      have J2 := Lib.hid (rVal_i64 (rNext s' 1) 2 (by decide))
      have D1 := Lib.hid (rbyte_got p text s' wr HR.out)
      have D2 := Lib.hid (fun w h => rword_got p text (rNext s' 1) w h)
      have D3 := Lib.hid (fun w h => rreq_any p text (rNext (rNext s' 1) 2) w h)
      generalize rNext (rNext s' 1) 2 = t2 at *
      generalize rVal (rNext s' 1) 2 = M2 at *
      generalize rNext s' 1 = t1 at *
      generalize rVal s' 1 = M1 at *
      go_wp2_with fail
      refine D1.out.mono ?_
      rintro e u3 ⟨rfl, hr3, ho3⟩
      have hu3 := ho3.size
      obtain ⟨u4, hw4⟩ : ∃ u, u = u3.alloc (.cells #[.int .i64 (M1 : Int), .int .i64 0, .int .i64 0, .int .i64 0, .int .i64 0, .string ⟨#[]⟩, .float .f64 0, .int .i64 0, .slice none 0 0] 118 (0, 0)) := ⟨_, rfl⟩
      have b4 : Below u3.heap.size u3 u4 := by rw [hw4]; exact below_alloc _ _
      have hu4 : u4.heap.size = u3.heap.size + 1 := by rw [hw4]; simp
      have X4 := Lib.hid (show u4.heap[u3.heap.size]? = some (.cells #[.int .i64 (M1 : Int), .int .i64 0, .int .i64 0, .int .i64 0, .int .i64 0, .string ⟨#[]⟩, .float .f64 0, .int .i64 0, .slice none 0 0] 118 (0, 0)) by rw [hw4]; exact blk_alloc _ _)
      have V4 := Lib.hid (keep_then ho3 (Keep.of_below b4))
      have R4' := Lib.hid (prd_below hr3 b4)
      have hqc : q < wr.heap.size := blk_lt HC.out
      have kr4 := (V4.out.block _ (blk_lt HR1.out) (by omega)).trans HR1.out
      have y1 : u4.cell? ⟨w.heap.size, 0, none⟩ = some (.pointer (some ⟨p, 0, none⟩)) := by rw [blk_cell kr4]; rfl
      have DD2 := Lib.hid (D2.out u4 R4'.out)
      clear hr3 ho3 b4 kr4 y0 D1 D2
      go_upto_region 8 with (fail)
      rw [← hw4]
      clear hw4
      generalize u3.heap.size = cb at *
      go_wp2_with fail
      refine DD2.out.mono ?_
      rintro e u5 ⟨rfl, hr5, ho5⟩
      have hu5 := ho5.size
      have x5 := (ho5.block _ (blk_lt X4.out) (by omega)).trans X4.out
      obtain ⟨u6, hw6⟩ : ∃ u, u = u5.setCell ⟨cb, 1, none⟩ (.int .i64 (M2 : Int)) := ⟨_, rfl⟩
      have hu6 : u6.heap.size = u5.heap.size := by rw [hw6]; simp [World.setCell]
      have X6 := Lib.hid (show u6.heap[cb]? = some (.cells #[.int .i64 (M1 : Int), .int .i64 (M2 : Int), .int .i64 0, .int .i64 0, .int .i64 0, .string ⟨#[]⟩, .float .f64 0, .int .i64 0, .slice none 0 0] 118 (0, 0)) by rw [hw6, blk_set x5 1 _]; rfl)
      have V6 := Lib.hid (show Keep (fun k => k = p) wr u6 by rw [hw6]; exact (keep_then V4.out ho5).set (.inl (by omega)) _ _)
      have R6 := Lib.hid (show PRd u6 p text t2 by rw [hw6]; exact prd_set hr5 _ _ (by omega))
      have kr6 := (V6.out.block _ (blk_lt HR1.out) (by omega)).trans HR1.out
      have y2 : u6.cell? ⟨w.heap.size, 0, none⟩ = some (.pointer (some ⟨p, 0, none⟩)) := by rw [blk_cell kr6]; rfl
      have e1 : u5.cell? ⟨cb, 1, none⟩ = some (.int .i64 0) := by rw [blk_cell x5]; rfl
      have e2 : u5.frozen? ⟨cb, 1, none⟩ = false := blk_frozen x5 1
      have DD3 := Lib.hid (D3.out u6 R6.out)
      clear hr5 ho5 x5 kr6 y1 DD2 D3 X4 V4
      go_upto_region 9 with (fail)
      rw [← hw6]
      clear hw6 e1 e2
      go_wp2_with fail
      refine DD3.out.mono ?_
      rintro e u7 ⟨ho7, h7⟩
      rcases h7 with ⟨rfl, hno⟩ | ⟨⟨qc, qs, qk, qt, qb, qi⟩, t3, cs, rfl, hpr, hr7, hE7⟩
      · have HQ := Lib.hid (HFN.out _ (HK.out.trans (keep_mono14 (Y := fun k => k = p ∨ k = q) (keep_then V6.out ho7) (fun k h => .inl h)) (fun _ _ h => h)))
        have HNO := Lib.hid (NS2.out (No.rep HP.out (NC1.out hno) hlk))
        clear hno
        go_wp2_with fail
        exact ⟨rfl, HQ.out, .inl ⟨rfl, HNO.out⟩⟩
      obtain ⟨rfl, hqok⟩ := req_open hE7.self
      have hu7 := ho7.size
      have x7 := (ho7.block _ (blk_lt X6.out) (by omega)).trans X6.out
      obtain ⟨u8, hw8⟩ : ∃ u, u = ((((((u7.setCell ⟨cb, 2, none⟩ (.int .i64 qc)).setCell ⟨cb, 3, none⟩ (.int .i64 qs)).setCell ⟨cb, 4, none⟩ (.int .i64 qk)).setCell ⟨cb, 5, none⟩ (.string qt)).setCell ⟨cb, 6, none⟩ (.float .f64 qb)).setCell ⟨cb, 7, none⟩ (.int .i64 qi)) := ⟨_, rfl⟩
      have hu8 : u8.heap.size = u7.heap.size := by rw [hw8]; simp [World.setCell]
      have X8 := Lib.hid (show u8.heap[cb]? = some (.cells #[.int .i64 (M1 : Int), .int .i64 (M2 : Int), .int .i64 qc, .int .i64 qs, .int .i64 qk, .string qt, .float .f64 qb, .int .i64 qi, .slice none 0 0] 118 (0, 0)) by rw [hw8]; exact (blk_set (blk_set (blk_set (blk_set (blk_set (blk_set x7 2 (.int .i64 qc)) 3 (.int .i64 qs)) 4 (.int .i64 qk)) 5 (.string qt)) 6 (.float .f64 qb)) 7 (.int .i64 qi)).trans (by simp only [List.setIfInBounds_toArray, List.set_cons_succ, List.set_cons_zero]))
      have V8 := Lib.hid (show Keep (fun k => k = p) wr u8 by rw [hw8]; exact (Keep.set (Keep.set (Keep.set (Keep.set (Keep.set (Keep.set (keep_then V6.out ho7) (.inl (by omega)) 2 (.int .i64 qc)) (.inl (by omega)) 3 (.int .i64 qs)) (.inl (by omega)) 4 (.int .i64 qk)) (.inl (by omega)) 5 (.string qt)) (.inl (by omega)) 6 (.float .f64 qb)) (.inl (by omega)) 7 (.int .i64 qi)))
      have R8 := Lib.hid (show PRd u8 p text t3 by rw [hw8]; exact (prd_set (prd_set (prd_set (prd_set (prd_set (prd_set hr7 2 (.int .i64 qc) (by omega)) 3 (.int .i64 qs) (by omega)) 4 (.int .i64 qk) (by omega)) 5 (.string qt) (by omega)) 6 (.float .f64 qb) (by omega)) 7 (.int .i64 qi) (by omega)))
      have kr8 := (V8.out.block _ (blk_lt HR1.out) (by omega)).trans HR1.out
      have y3 : u8.cell? ⟨w.heap.size, 0, none⟩ = some (.pointer (some ⟨p, 0, none⟩)) := by rw [blk_cell kr8]; rfl
      have e2 : u7.cell? ⟨cb, 2, none⟩ = some (.int .i64 0) := by rw [blk_cell x7]; rfl
      have f2 : u7.frozen? ⟨cb, 2, none⟩ = false := blk_frozen x7 2
      have e3 : u7.cell? ⟨cb, 3, none⟩ = some (.int .i64 0) := by rw [blk_cell x7]; rfl
      have f3 : u7.frozen? ⟨cb, 3, none⟩ = false := blk_frozen x7 3
      have e4 : u7.cell? ⟨cb, 4, none⟩ = some (.int .i64 0) := by rw [blk_cell x7]; rfl
      have f4 : u7.frozen? ⟨cb, 4, none⟩ = false := blk_frozen x7 4
      have e5 : u7.cell? ⟨cb, 5, none⟩ = some (.string ⟨#[]⟩) := by rw [blk_cell x7]; rfl
      have f5 : u7.frozen? ⟨cb, 5, none⟩ = false := blk_frozen x7 5
      have e6 : u7.cell? ⟨cb, 6, none⟩ = some (.float .f64 0) := by rw [blk_cell x7]; rfl
      have f6 : u7.frozen? ⟨cb, 6, none⟩ = false := blk_frozen x7 6
      have e7 : u7.cell? ⟨cb, 7, none⟩ = some (.int .i64 0) := by rw [blk_cell x7]; rfl
      have f7 : u7.frozen? ⟨cb, 7, none⟩ = false := blk_frozen x7 7
      have HQOK := Lib.hid hqok
      have HPR := Lib.hid hpr
      have DD4 := Lib.hid (rsigs_any p text t3 u8 R8.out)
      clear hr7 ho7 x7 kr8 hE7 hqok hpr y2 DD3 X6 V6
      simp only [Rq.cs, aggF]
      go_upto_region 10 with (fail)
      rw [← hw8]
      clear hw8 e2 e3 e4 e5 e6 e7 f2 f3 f4 f5 f6 f7
      go_wp2_with fail
      refine DD4.out.mono ?_
      rintro e u9 ⟨ho9, h9⟩
      rcases h9 with ⟨rfl, hno⟩ | ⟨sg, t4, cs, rfl, hps, hr9, hE9⟩
      · have HQ := Lib.hid (HFN.out _ (HK.out.trans (keep_mono14 (Y := fun k => k = p ∨ k = q) (keep_then V8.out ho9) (fun k h => .inl h)) (fun _ _ h => h)))
        have HNO := Lib.hid (NS2.out (No.rep HP.out (NC2.out _ _ HPR.out hno) hlk))
        clear hno
        go_wp2_with fail
        exact ⟨rfl, HQ.out, .inl ⟨rfl, HNO.out⟩⟩
      obtain ⟨sa, sn, sc, rfl, hS9⟩ := rob_slice hE9
      have hu9 := ho9.size
      have x9 := (ho9.block _ (blk_lt X8.out) (by omega)).trans X8.out
      obtain ⟨u10, hw10⟩ : ∃ u, u = u9.setCell ⟨cb, 8, none⟩ (.slice sa sn sc) := ⟨_, rfl⟩
      have hu10 : u10.heap.size = u9.heap.size := by rw [hw10]; simp [World.setCell]
      have X10 := Lib.hid (show u10.heap[cb]? = some (.cells #[.int .i64 (M1 : Int), .int .i64 (M2 : Int), .int .i64 qc, .int .i64 qs, .int .i64 qk, .string qt, .float .f64 qb, .int .i64 qi, .slice sa sn sc] 118 (0, 0)) by rw [hw10]; exact (blk_set x9 8 _).trans (by simp only [List.setIfInBounds_toArray, List.set_cons_succ, List.set_cons_zero]))
      have V10 := Lib.hid (show Keep (fun k => k = p) wr u10 by rw [hw10]; exact Keep.set (keep_then V8.out ho9) (.inl (by omega)) _ _)
      have R10 := Lib.hid (show PRd u10 p text t4 by rw [hw10]; exact prd_set hr9 _ _ (by omega))
      have S10 := Lib.hid (show Rob (fun k => k < u8.heap.size ∨ u9.heap.size ≤ k) (fun u => SlAt shSig u sa sn sc sg) u10 by rw [hw10]; exact hS9.step (Keep.set (Keep.refl (fun k => k = cb) u9) (.inr rfl) 8 (.slice sa sn sc)) (fun k _ hk => by omega) (fun k _ hk => by omega))
      have g1 : u9.cell? ⟨cb, 8, none⟩ = some (.slice none 0 0) := by rw [blk_cell x9]; rfl
      have g2 : u9.frozen? ⟨cb, 8, none⟩ = false := blk_frozen x9 8
      have HPY := Lib.hid (PC.out _ _ _ _ HPR.out hps)
      clear hr9 ho9 x9 hE9 hps hS9 y3 DD4 X8 V8 R8 HPR
      simp only [oneF, List.headD_cons]
      go_upto_region 11 with (fail)
      rw [← hw10]
      clear hw10 g1 g2
      obtain ⟨xs, M, o1, o2, o3, o4⟩ := HO.out
      obtain rfl : vn = k := by omega
      clear hvn
      rw [hacc] at o1
      have HO10 := Lib.hid (owns_keep o1 V10.out (fun k hk hc => by have := (o1.lt k hk).1; omega))
      have HR10 := Lib.hid (o2.step (X' := fun k => ¬ M k) V10.out (fun k _ hc hm => by have := (o3 k hm).1; omega) (fun _ _ h => h))
      have kc10 := (V10.out.block _ hqc (by omega)).trans HC.out
      have z2 : u10.cell? ⟨q, 2, none⟩ = some (.slice va vn vc) := by rw [blk_cell kc10]; rfl
      have x0 : u10.cell? ⟨cb, 0, none⟩ = some (.int .i64 (M1 : Int)) := by rw [blk_cell X10.out]; rfl
      have x1 : u10.cell? ⟨cb, 1, none⟩ = some (.int .i64 (M2 : Int)) := by rw [blk_cell X10.out]; rfl
      have x2 : u10.cell? ⟨cb, 2, none⟩ = some (.int .i64 qc) := by rw [blk_cell X10.out]; rfl
      have x3 : u10.cell? ⟨cb, 3, none⟩ = some (.int .i64 qs) := by rw [blk_cell X10.out]; rfl
      have x4 : u10.cell? ⟨cb, 4, none⟩ = some (.int .i64 qk) := by rw [blk_cell X10.out]; rfl
      have x5 : u10.cell? ⟨cb, 5, none⟩ = some (.string qt) := by rw [blk_cell X10.out]; rfl
      have x6 : u10.cell? ⟨cb, 6, none⟩ = some (.float .f64 qb) := by rw [blk_cell X10.out]; rfl
      have x7 : u10.cell? ⟨cb, 7, none⟩ = some (.int .i64 qi) := by rw [blk_cell X10.out]; rfl
      have x8 : u10.cell? ⟨cb, 8, none⟩ = some (.slice sa sn sc) := by rw [blk_cell X10.out]; rfl
      obtain ⟨u11, hw11⟩ : ∃ u, u = u10.alloc (.cells #[.int .i64 (M1 : Int), .int .i64 (M2 : Int), .int .i64 qc, .int .i64 qs, .int .i64 qk, .string qt, .float .f64 qb, .int .i64 qi, .slice sa sn sc] 118 (0, 0)) := ⟨_, rfl⟩
      have b11 : Below u10.heap.size u10 u11 := by rw [hw11]; exact below_alloc _ _
      have hu11 : u11.heap.size = u10.heap.size + 1 := by rw [hw11]; simp
      have k11 : u11.heap[u9.heap.size]? = some (.cells #[.int .i64 (M1 : Int), .int .i64 (M2 : Int), .int .i64 qc, .int .i64 qs, .int .i64 qk, .string qt, .float .f64 qb, .int .i64 qi, .slice sa sn sc] 118 (0, 0)) := by rw [hw11, ← hu10]; exact blk_alloc _ _
      have HO11 := Lib.hid (owns_old HO10.out b11)
      have HR11 := Lib.hid (HR10.out.step (X' := fun k => ¬ M k) (Keep.of_below (X := fun _ => False) b11) (fun _ _ h => h.elim) (fun _ _ h => h))
      have R11 := Lib.hid (prd_below R10.out b11)
      have S11 := Lib.hid (S10.out.step (X' := fun k => k < u8.heap.size ∨ u9.heap.size ≤ k) (Keep.of_below (X := fun _ => False) b11) (fun _ _ h => h.elim) (fun _ _ h => h))
      have KC11 := Lib.hid (blk_below kc10 b11)
      have V11 := Lib.hid (keep_then V10.out (Keep.of_below b11))
      have hnews : ∀ ad, some (⟨u9.heap.size, 0, none⟩ : Addr) = some ad → ∀ j u, ([.int .i64 (M1 : Int), .int .i64 (M2 : Int), .int .i64 qc, .int .i64 qs, .int .i64 qk, .string qt, .float .f64 qb, .int .i64 qi, .slice sa sn sc] : List Value)[j]? = some u → u11.cell? (ad.add j) = some u := fun ad had j u hj => by
        injection had with had
        subst had
        rw [Addr.add_lit, blk_cell k11, ← hj]
        simp
      have HNW := Lib.hid hnews
      have hm1 : vn + 1 ≤ maxLen := by unfold maxLen; omega
      have hm2 : (vn + 1) * 96 ≤ 140737488355328 := by omega
      have hB11 : q + 1 ≤ u11.heap.size := by omega
      have HO3 := Lib.hid o3; have HO4 := Lib.hid o4
      have HOL := Lib.hid (fun k hk => (o1.lt k hk))
      clear b11 k11 kc10 hnews o1 o2 o3 o4 HO HO10 HR10 S10 R10 V10
      go_wp2_with (first | (at_builtin; rw [← hw11]; clear hw11; refine wpList_append_any_at _ rfl (.tmp 39) (.tmp 41) 104 rfl (q + 1) 118 ii (.agg #[.int .i64 0, .int .i64 0, .int .i64 0, .int .i64 0, .int .i64 0, .string ⟨#[]⟩, .float .f64 0, .int .i64 0, .slice none 0 0]) 9 96 Try.underlying104 hi hz0 hz1 hz2 rfl (by decide) (.slice va vn vc) vn xs rfl HO11.out (some ⟨u9.heap.size, 0, none⟩) 1 1 [.int .i64 (M1 : Int), .int .i64 (M2 : Int), .int .i64 qc, .int .i64 qs, .int .i64 qk, .string qt, .float .f64 qb, .int .i64 qi, .slice sa sn sc] rfl rfl (by simp) HNW.out (by simp [Value.oneCell']) hm1 hm2 hB11 ?_) | fail)
      intro v' w8 ho8 hg8 hor8
      obtain ⟨a8, c8, rfl⟩ := owns_form ho8
      have hqo : (Value.slice va vn vc).ownBlock ≠ some q := fun hc => by have := (HOL.out q hc).1; omega
      have hpo : (Value.slice va vn vc).ownBlock ≠ some p := fun hc => by have := (HOL.out p hc).1; omega
      have kc12 := (hg8.block q (blk_lt KC11.out) (fun hc => hqo hc.symm)).trans KC11.out
      have R12 := prd_block R11.out (hg8.block p (by omega) (fun hc => hpo hc.symm))
      have RI := RowIn.snoc (S := shCert) (B := q + 1) (E0 := u8.heap.size) (E1 := u9.heap.size) (y := (⟨M1, M2, ⟨qc, qs, qk, qt, qb, qi⟩, sg⟩ : Ce)) (cs := [.int .i64 (M1 : Int), .int .i64 (M2 : Int), .int .i64 qc, .int .i64 qs, .int .i64 qk, .string qt, .float .f64 qb, .int .i64 qi, .slice sa sn sc]) (by rw [hacc]; exact HO11.out) HR11.out (fun k hk => ⟨(HO3.out k hk).1, by have := (HO3.out k hk).2; omega⟩) (fun k hk => ⟨HO4.out k hk, by have := (HOL.out k hk).2; omega⟩) rfl (S11.out.mono fun u hu => cert_make J1.out J2.out HQOK.out hu) (by omega) (by omega) (by rw [hacc]; exact ho8) hg8 (by rw [hu11, hu10]; exact hor8)
      have V12 : Keep (fun k => k = p ∨ k = q) w4 w8 := HK.out.trans (Keep.grown (keep_mono14 (Y := fun k => k = p ∨ (Value.slice va vn vc).ownBlock = some k) V11.out (fun k h => .inl h)) hg8 (fun k hk => .inr (.inr hk))) (fun k hk h => h.elim .inl (fun h => by have := (HOL.out k h).1; omega))
      have m8 : w8.cell? ⟨q, 2, none⟩ = some (.slice va vn vc) := by rw [blk_cell kc12]; rfl
      have m9 : w8.frozen? ⟨q, 2, none⟩ = false := blk_frozen kc12 2
      have FC := Lib.hid (show (w8.setCell ⟨q, 2, none⟩ (.slice a8 (vn + 1) c8)).heap[q]? = some (.cells #[.int .i64 (N1 : Int), .int .i64 (N2 : Int), .slice a8 (vn + 1) c8, .int .i64 0, .string ⟨#[]⟩] 106 (0, 0)) by rw [blk_set kc12 2 _]; rfl)
      have FK := Lib.hid (V12.set (.inr (.inr rfl)) 2 (.slice a8 (vn + 1) c8))
      have FR := Lib.hid (prd_set R12 2 (.slice a8 (vn + 1) c8) (g := q) (by omega))
      have FI := Lib.hid (RI.keep (Keep.set (Keep.refl (fun k => k = q) w8) (.inr rfl) 2 (.slice a8 (vn + 1) c8)) (fun k hk => by omega))
      have FP := Lib.hid (HP.out.snoc HPY.out)
      have lq8 := blk_lt kc12
      clear kc12 R12 RI V12 ho8 hg8 hor8 HO11 HR11 R11 S11 KC11 V11 HNW hqo hpo HOL HO3 HO4 x0 x1 x2 x3 x4 x5 x6 x7 x8 z2 X10 HPY HP HK HC
      go_wp2_with fail
      go_roundw
      case rel => exact ⟨vn + 1, _, t4, _, by omega, by go_num, by simp [hacc], FP, FR, FI, FC, FK⟩
      case measure => simp [intOf]; omega
    · have hd : decide ((k : Int) < (N3 : Int)) = false := by simp; omega
      obtain rfl : k = N3 := by omega
      obtain rfl : vn = k := by omega
      clear hvn
      have D1 := Lib.hid (rsig_got p text s' wr HR.out)
      have PY := Lib.hid (PS.out acc s' hN HP.out)
      have y0 : wr.cell? ⟨w.heap.size, 0, none⟩ = some (.pointer (some ⟨p, 0, none⟩)) := by rw [blk_cell HR1.out]; rfl
      have HSS := Lib.hid ((HK.out.block _ (blk_lt KS.out) (by omega)).trans KS.out)
      have G1 := Lib.hid (sgV_i64 s'); have G2 := Lib.hid (sgV_len s')
      generalize sgV s' = V at *
      generalize sgN s' = s5 at *
      obtain ⟨sx, st⟩ := V
      go_wp2_with fail
      refine D1.out.mono ?_
      rintro e u3 ⟨rfl, hr3, ho3⟩
      have hpw : q < wr.heap.size := blk_lt HC.out
      have kc3 := (ho3.block _ hpw (by omega)).trans HC.out
      have ks3 := (ho3.block _ (blk_lt HSS.out) (by omega)).trans HSS.out
      obtain ⟨u4, hw4⟩ : ∃ u, u = (u3.setCell ⟨q, 3, none⟩ (.int .i64 sx)).setCell ⟨q, 4, none⟩ (.string st) := ⟨_, rfl⟩
      have KC4 := Lib.hid (show u4.heap[q]? = some (.cells #[.int .i64 (N1 : Int), .int .i64 (N2 : Int), .slice va vn vc, .int .i64 sx, .string st] 106 (0, 0)) by rw [hw4]; exact (blk_set (blk_set kc3 3 (.int .i64 sx)) 4 (.string st)).trans (by simp only [List.setIfInBounds_toArray, List.set_cons_succ, List.set_cons_zero]))
      have KS4 := Lib.hid (show u4.heap[w.heap.size + 1]? = some (.cells #[.int .i64 0, .int .i64 0, .slice none 0 0, .int .i64 0, .string ⟨#[]⟩] 106 (0, 0)) by rw [hw4]; exact blk_set_other (blk_set_other ks3 q 3 _ (by omega)) q 4 _ (by omega))
      have Q4 := Lib.hid (show Keep (fun k => k = p ∨ k = q) wr u4 by rw [hw4]; exact Keep.set (Keep.set (keep_mono14 (Y := fun k => k = p ∨ k = q) ho3 (fun k h => .inl h)) (.inr (.inr rfl)) 3 (.int .i64 sx)) (.inr (.inr rfl)) 4 (.string st))
      have R4 := Lib.hid (show PRd u4 p text s5 by rw [hw4]; exact prd_set (prd_set hr3 3 (.int .i64 sx) (by omega)) 4 (.string st) (by omega))
      have e3 : u3.cell? ⟨q, 3, none⟩ = some (.int .i64 0) := by rw [blk_cell kc3]; rfl
      have e4 : u3.cell? ⟨q, 4, none⟩ = some (.string ⟨#[]⟩) := by rw [blk_cell kc3]; rfl
      have z3 : u3.frozen? ⟨q, 3, none⟩ = false := blk_frozen kc3 3
      have z4 : u3.frozen? ⟨q, 4, none⟩ = false := blk_frozen kc3 4
      clear hr3 ho3 kc3 ks3 y0 D1
      go_upto_region 14 with (fail)
      rw [← hw4]
      clear hw4 e3 e4 z3 z4
      have c0 : u4.cell? ⟨q, 0, none⟩ = some (.int .i64 (N1 : Int)) := by rw [blk_cell KC4.out]; rfl
      have c1 : u4.cell? ⟨q, 1, none⟩ = some (.int .i64 (N2 : Int)) := by rw [blk_cell KC4.out]; rfl
      have c2 : u4.cell? ⟨q, 2, none⟩ = some (.slice va vn vc) := by rw [blk_cell KC4.out]; rfl
      have c3 : u4.cell? ⟨q, 3, none⟩ = some (.int .i64 sx) := by rw [blk_cell KC4.out]; rfl
      have c4 : u4.cell? ⟨q, 4, none⟩ = some (.string st) := by rw [blk_cell KC4.out]; rfl
      have d0 : u4.cell? ⟨w.heap.size + 1, 0, none⟩ = some (.int .i64 0) := by rw [blk_cell KS4.out]; rfl
      have d1 : u4.cell? ⟨w.heap.size + 1, 1, none⟩ = some (.int .i64 0) := by rw [blk_cell KS4.out]; rfl
      have d2 : u4.cell? ⟨w.heap.size + 1, 2, none⟩ = some (.slice none 0 0) := by rw [blk_cell KS4.out]; rfl
      have d3 : u4.cell? ⟨w.heap.size + 1, 3, none⟩ = some (.int .i64 0) := by rw [blk_cell KS4.out]; rfl
      have d4 : u4.cell? ⟨w.heap.size + 1, 4, none⟩ = some (.string ⟨#[]⟩) := by rw [blk_cell KS4.out]; rfl
      have zz : ∀ o, u4.frozen? ⟨w.heap.size + 1, o, none⟩ = false := fun o => blk_frozen KS4.out o
      go_wp2_with fail
      refine bodyPost_ret (v := .agg #[.int .i64 (N1 : Int), .int .i64 (N2 : Int), .slice va vn vc, .int .i64 sx, .string st]) (by simp [results, Try.results127, go_sem, d0, d1, d2, d3, d4]) rfl ?_
      have Q5 := HFN.out _ (HK.out.trans Q4.out (fun _ _ h => h))
      have hne : ¬ w.heap.size + 1 = p := by omega
      have hle : w.heap.size ≤ w.heap.size + 1 ∨ w.heap.size + 1 = p := .inl (by omega)
      refine ⟨Keep.set (Keep.set (Keep.set (Keep.set (Keep.set Q5 hle _ _) hle _ _) hle _ _) hle _ _) hle _ _, .inr ⟨⟨N1, N2, acc, (sx, st)⟩, s5, [.int .i64 (N1 : Int), .int .i64 (N2 : Int), .slice va vn vc, .int .i64 sx, .string st], rfl, PY.out, prd_set (prd_set (prd_set (prd_set (prd_set R4.out _ _ hne) _ _ hne) _ _ hne) _ _ hne) _ _ hne, ?_⟩⟩
      have RB := HO.out.rob (by omega) (show vn * 96 ≤ 140737488355328 by omega)
      have KK : Keep (fun k => k = p ∨ k = q ∨ k = w.heap.size + 1) wr u4 := keep_mono14 Q4.out (fun k h => h.elim .inl (fun h => .inr (.inl h)))
      have hx : ∀ (X : Nat → Prop), wr.heap.size ≤ w.heap.size + 1 ∨ (fun k => k = p ∨ k = q ∨ k = w.heap.size + 1) (w.heap.size + 1) := fun _ => .inr (.inr (.inr rfl))
      refine (RB.step (Keep.set (Keep.set (Keep.set (Keep.set (Keep.set KK (hx (fun _ => True)) _ _) (hx (fun _ => True)) _ _) (hx (fun _ => True)) _ _) (hx (fun _ => True)) _ _) (hx (fun _ => True)) _ _) (fun k _ hk => .inl (by omega)) (fun k _ hk => .inl (by omega))).mono fun u hu => change_make I1.out I2.out hu G1.out G2.out
end Go.Proofs.Ytijeieamodjgbaa
