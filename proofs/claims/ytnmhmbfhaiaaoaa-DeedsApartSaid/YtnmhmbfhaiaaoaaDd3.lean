
/- Right and Null of requests, both layers. -/
import Derived.Test.YtnmhmbfhaiaaoaaDd2
namespace Go.Proofs.Ytnmhmbfhaiaaoaa
set_option maxRecDepth 100000
open Go.RowKit
set_option linter.unusedVariables false
set_option linter.unusedSimpArgs false

def rqV (c s kind : Int) (key : ByteArray) (b : Nat) (id : Int) : Array Value := #[.int .i64 c, .int .i64 s, .int .i64 kind, .string key, .float .f64 b, .int .i64 id]
/-- A request in a box, and its cells in whatever later world. -/
def RqBox (w : World) (c s kind : Int) (key : ByteArray) (b : Nat) (id : Int) (w' : World) : Prop :=
  (w'.cell? ⟨w.heap.size, 0, none⟩ = some (.int .i64 c) ∧ w'.cell? ⟨w.heap.size, 1, none⟩ = some (.int .i64 s) ∧ w'.cell? ⟨w.heap.size, 2, none⟩ = some (.int .i64 kind) ∧ w'.cell? ⟨w.heap.size, 3, none⟩ = some (.string key) ∧ w'.cell? ⟨w.heap.size, 4, none⟩ = some (.float .f64 b) ∧ w'.cell? ⟨w.heap.size, 5, none⟩ = some (.int .i64 id)) ∧ Below w.heap.size w w'
theorem rq_box (w : World) (c s kind : Int) (key : ByteArray) (b : Nat) (id : Int) : ∀ w', Below (w.alloc (.cells #[.int .i64 c, .int .i64 s, .int .i64 kind, .string key, .float .f64 b, .int .i64 id] 30)).heap.size (w.alloc (.cells #[.int .i64 c, .int .i64 s, .int .i64 kind, .string key, .float .f64 b, .int .i64 id] 30)) w' → RqBox w c s kind key b id w' := fun w' hb => by
  have := blk_below (blk_alloc _ _) hb
  exact ⟨⟨by rw [blk_cell this]; rfl, by rw [blk_cell this]; rfl, by rw [blk_cell this]; rfl, by rw [blk_cell this]; rfl, by rw [blk_cell this]; rfl, by rw [blk_cell this]; rfl⟩, bthen (below_alloc _ _) hb⟩

set_option maxHeartbeats 1000000 in
theorem qright_any (c s kind : Int) (key : ByteArray) (b : Nat) (id : Int) (w : World) (hk : key.size ≤ 140737488351232) :
    Calls Try.prog 14 #[.agg #[.int .i64 c, .int .i64 s, .int .i64 kind, .string key, .float .f64 b, .int .i64 id]] w fun r w' => r = .returned (.bool (rightQ c s kind key b id)) ∧ Below w.heap.size w w' := by
  obtain ⟨x, hx⟩ : ∃ x, x = rightQ c s kind key b id := ⟨_, rfl⟩
  rw [← hx]
  have HX := Lib.hid hx
  have CD := Lib.hid (fun (w : World) => dright_any kind key b id w hk)
  have CW := Lib.hid within_any
  obtain ⟨ob, hob⟩ : ∃ ob, ob = opB kind key b id := ⟨_, rfl⟩
  rw [← hob] at CD
  have HO := Lib.hid hob
  clear hx hob
  by_cases h1 : 1 ≤ c ∧ c ≤ 8
  · have CW1 := within_any c 1 8
    rw [decide_eq_true h1] at CW1
    replace CW1 := Lib.hid CW1
    by_cases h2 : 1 ≤ s ∧ s ≤ 1048576
    · have CW2 := within_any s 1 1048576
      rw [decide_eq_true h2] at CW2
      replace CW2 := Lib.hid CW2
      have HR := Lib.hid (show x = ob by rw [HX.out, HO.out, rightQ, decide_eq_true h1, decide_eq_true h2]; rfl)
      clear h1 h2 HX HO CW
      go_enter Try.func14, Try.ntmps14
      go_wp2_with fail
      refine (CW1.out _).mono ?_
      rintro r w1 ⟨rfl, rfl⟩
      go_wp2_with fail
      refine (CW2.out _).mono ?_
      rintro r w1 ⟨rfl, rfl⟩
      go_wp2_with fail
      refine (CD.out _).mono ?_
      rintro r w2 ⟨rfl, b2⟩
      have B2 := Lib.hid (bthen (below_alloc _ _) b2)
      clear b2
      go_wp2_with fail
      go_ret
      exact ⟨by rw [HR.out]; rfl, B2.out⟩
    · have CW2 := within_any s 1 1048576
      rw [decide_eq_false h2] at CW2
      replace CW2 := Lib.hid CW2
      have HR := Lib.hid (show x = false by rw [HX.out, rightQ, decide_eq_true h1, decide_eq_false h2]; rfl)
      clear h1 h2 HX HO CW
      go_enter Try.func14, Try.ntmps14
      go_wp2_with fail
      refine (CW1.out _).mono ?_
      rintro r w1 ⟨rfl, rfl⟩
      go_wp2_with fail
      refine (CW2.out _).mono ?_
      rintro r w1 ⟨rfl, rfl⟩
      go_wp2_with fail
      go_ret
      exact ⟨by rw [HR.out]; rfl, below_alloc _ _⟩
  · have CW1 := within_any c 1 8
    rw [decide_eq_false h1] at CW1
    replace CW1 := Lib.hid CW1
    have HR := Lib.hid (show x = false by rw [HX.out, rightQ, decide_eq_false h1]; rfl)
    clear h1 HX HO CW
    go_enter Try.func14, Try.ntmps14
    go_wp2_with fail
    refine (CW1.out _).mono ?_
    rintro r w1 ⟨rfl, rfl⟩
    go_wp2_with fail
    go_ret
    exact ⟨by rw [HR.out]; rfl, below_alloc _ _⟩

set_option maxHeartbeats 1000000 in
theorem qrright_any (c s kind : Int) (key : ByteArray) (b : Nat) (hb : b < 18446744073709551616) (id : Int) (w : World) (hk : key.size ≤ 140737488351232) :
    Calls Try.prog 15 #[.agg #[.int .i64 c, .int .i64 s, .int .i64 kind, .string key, .float .f64 b, .int .i64 id]] w fun r w' => r = .returned (.bool (rightQ c s kind key b id)) ∧ Below w.heap.size w w' := by
  obtain ⟨x, hx⟩ : ∃ x, x = rightQ c s kind key b id := ⟨_, rfl⟩
  rw [← hx]
  have HX := Lib.hid hx
  have CD := Lib.hid (fun (w : World) => oref_any kind key b hb id w hk)
  obtain ⟨ob, hob⟩ : ∃ ob, ob = opB kind key b id := ⟨_, rfl⟩
  rw [← hob] at CD
  have HO := Lib.hid hob
  have B0 := Lib.hid (below_alloc w (.cells #[.int .i64 c, .int .i64 s, .int .i64 kind, .string key, .float .f64 b, .int .i64 id] 30))
  clear hx hob
  go_enter Try.func15, Try.ntmps15
  go_wp2_with (go_at_call 49; refine (CD.out _).mono ?_; rintro r w1 ⟨rfl, b1⟩; have B0 := Lib.hid (bthen B0.out b1); clear b1)
  all_goals
    go_ret
    refine ⟨?_, B0.out⟩
    rw [HX.out]
    have e1 := HO.out
    go_light
    clear HX HO
    first | (simp_all [rightQ]; done) | (simp_all [rightQ]; omega)

theorem null_no {c s kind : Int} {key : ByteArray} {b : Nat} {id : Int} (h : ¬ (c = 0 ∧ s = 0 ∧ kind = 0 ∧ id = 0 ∧ key.size = 0)) : nullQ c s kind key b id = false := by
  unfold nullQ
  cases hn : noneB b with
  | false => simp
  | true =>
    cases hd : (decide (c = 0) && decide (s = 0) && decide (kind = 0) && decide (id = 0) && decide (key.size = 0)) with
    | false => rfl
    | true => exact absurd (by simp only [Bool.and_eq_true, decide_eq_true_eq] at hd; exact ⟨hd.1.1.1.1, hd.1.1.1.2, hd.1.1.2, hd.1.2, hd.2⟩) h
theorem key_nil {key : ByteArray} (h : key.size = 0) : key = ⟨#[]⟩ := by
  obtain ⟨⟨l⟩⟩ := key
  have : l = [] := List.eq_nil_of_length_eq_zero h
  rw [this]

set_option maxHeartbeats 2000000 in
theorem qrnull_any (c s kind : Int) (key : ByteArray) (b : Nat) (hb : b < 18446744073709551616) (id : Int) (w : World) :
    Calls Try.prog 17 #[.agg #[.int .i64 c, .int .i64 s, .int .i64 kind, .string key, .float .f64 b, .int .i64 id]] w fun r w' => r = .returned (.bool (nullQ c s kind key b id)) ∧ Below w.heap.size w w' := by
  have CP := Lib.hid (fun (w : World) => plain_any kind key b hb id w)
  by_cases hc : c = 0
  · subst hc
    by_cases hs : s = 0
    · subst hs
      by_cases hkd : kind = 0
      · subst hkd
        by_cases hke : key.size = 0
        · obtain rfl := key_nil hke
          have HC := Lib.hid (rq_box w 0 0 0 ⟨#[]⟩ b id)
          by_cases hid : id = 0
          · subst hid
            have HX := Lib.hid (show nullQ 0 0 0 ⟨#[]⟩ b 0 = noneB b by simp [nullQ, ByteArray.size])
            rw [HX.out]
            cases hn : noneB b with
            | true =>
              rw [hn] at CP
              clear hn HX
              go_enter Try.func17, Try.ntmps17
              go_wp2_with fail
              refine (CP.out _).mono ?_
              rintro r w1 ⟨rfl, b1⟩
              obtain ⟨⟨x0, x1, x2, x3, x4, x5⟩, hb1⟩ := HC.out _ b1
              have HB1 := Lib.hid hb1
              clear b1 hb1
              go_wp2_with fail
              go_ret
              exact ⟨rfl, HB1.out⟩
            | false =>
              rw [hn] at CP
              clear hn HX
              go_enter Try.func17, Try.ntmps17
              go_wp2_with fail
              refine (CP.out _).mono ?_
              rintro r w1 ⟨rfl, b1⟩
              obtain ⟨⟨x0, x1, x2, x3, x4, x5⟩, hb1⟩ := HC.out _ b1
              have HB1 := Lib.hid hb1
              clear b1 hb1
              go_wp2_with fail
              go_ret
              exact ⟨rfl, HB1.out⟩
          · rw [null_no (by rintro ⟨_, _, _, h, _⟩; exact hid h)]
            have hid' : (id == 0) = false := by simpa using hid
            cases hn : noneB b with
            | true =>
              rw [hn] at CP
              clear hn
              go_enter Try.func17, Try.ntmps17
              go_wp2_with fail
              refine (CP.out _).mono ?_
              rintro r w1 ⟨rfl, b1⟩
              obtain ⟨⟨x0, x1, x2, x3, x4, x5⟩, hb1⟩ := HC.out _ b1
              have HB1 := Lib.hid hb1
              clear b1 hb1
              go_wp2_with fail
              go_ret
              exact ⟨rfl, HB1.out⟩
            | false =>
              rw [hn] at CP
              clear hn
              go_enter Try.func17, Try.ntmps17
              go_wp2_with fail
              refine (CP.out _).mono ?_
              rintro r w1 ⟨rfl, b1⟩
              obtain ⟨⟨x0, x1, x2, x3, x4, x5⟩, hb1⟩ := HC.out _ b1
              have HB1 := Lib.hid hb1
              clear b1 hb1
              go_wp2_with fail
              go_ret
              exact ⟨rfl, HB1.out⟩
        · rw [null_no (by rintro ⟨_, _, _, _, h⟩; exact hke h)]
          have hke' : key.toList.isEmpty = false := by rw [str_empty]; simpa using hke
          go_enter Try.func17, Try.ntmps17
          go_wp2_with fail
          go_ret
          exact ⟨rfl, below_alloc _ _⟩
      · rw [null_no (by rintro ⟨_, _, h, _⟩; exact hkd h)]
        have hkd' : (kind == 0) = false := by simpa using hkd
        go_enter Try.func17, Try.ntmps17
        go_wp2_with fail
        go_ret
        exact ⟨rfl, below_alloc _ _⟩
    · rw [null_no (by rintro ⟨_, h, _⟩; exact hs h)]
      have hs' : (s == 0) = false := by simpa using hs
      go_enter Try.func17, Try.ntmps17
      go_wp2_with fail
      go_ret
      exact ⟨rfl, below_alloc _ _⟩
  · rw [null_no (by rintro ⟨h, _⟩; exact hc h)]
    have hc' : (c == 0) = false := by simpa using hc
    go_enter Try.func17, Try.ntmps17
    go_wp2_with fail
    go_ret
    exact ⟨rfl, below_alloc _ _⟩

theorem or64 (x y : Int) (hx : -9223372036854775808 ≤ x ∧ x ≤ 9223372036854775807) (hy : -9223372036854775808 ≤ y ∧ y ≤ 9223372036854775807) : (bits .or .i64 x y = 0 ↔ x = 0 ∧ y = 0) ∧ (-9223372036854775808 ≤ bits .or .i64 x y ∧ bits .or .i64 x y ≤ 9223372036854775807) := by
  have key : ∀ n : Nat, n < 18446744073709551616 → (IntKind.i64.wrap (n : Int) = 0 ↔ n = 0) ∧ (-9223372036854775808 ≤ IntKind.i64.wrap (n : Int) ∧ IntKind.i64.wrap (n : Int) ≤ 9223372036854775807) := by
    intro n hn
    simp only [IntKind.wrap, IntKind.bits, IntKind.signed, Bool.true_and, ge_iff_le, decide_eq_true_eq]
    split <;> omega
  have hb : bits .or .i64 x y = IntKind.i64.wrap ((BitVec.ofInt 64 x ||| BitVec.ofInt 64 y).toNat : Int) := rfl
  have hlt : (BitVec.ofInt 64 x ||| BitVec.ofInt 64 y).toNat < 18446744073709551616 := (BitVec.ofInt 64 x ||| BitVec.ofInt 64 y).isLt
  obtain ⟨k1, k2⟩ := key _ hlt
  rw [hb]
  refine ⟨?_, k2⟩
  rw [k1]
  have hz : ∀ z : Int, -9223372036854775808 ≤ z ∧ z ≤ 9223372036854775807 → ((BitVec.ofInt 64 z).toNat = 0 ↔ z = 0) := by
    intro z hz
    rw [BitVec.toNat_ofInt]
    omega
  rw [BitVec.toNat_or, ← hz x hx, ← hz y hy]
  constructor
  · intro h
    have := Nat.or_eq_zero_iff.1 h
    exact this
  · rintro ⟨h1, h2⟩
    rw [h1, h2]; rfl

set_option maxHeartbeats 1000000 in
theorem qnull_any (c s kind : Int) (key : ByteArray) (b : Nat) (id : Int) (w : World) (hc : i64 c) (hs : i64 s) (hkd : i64 kind) (hid : i64 id) :
    Calls Try.prog 16 #[.agg #[.int .i64 c, .int .i64 s, .int .i64 kind, .string key, .float .f64 b, .int .i64 id]] w fun r w' => r = .returned (.bool (nullQ c s kind key b id)) ∧ Below w.heap.size w w' := by
  obtain ⟨o1, o2⟩ := or64 c s hc hs
  obtain ⟨o3, o4⟩ := or64 _ kind o2 hkd
  obtain ⟨o5, o6⟩ := or64 _ id o4 hid
  rw [o3, o1] at o5
  by_cases h : c = 0 ∧ s = 0 ∧ kind = 0 ∧ id = 0
  · obtain ⟨rfl, rfl, rfl, rfl⟩ := h
    have t1 : (bits BinOp.or IntKind.i64 0 0) = 0 := o1.2 ⟨rfl, rfl⟩
    by_cases hke : key.size = 0
    · obtain rfl := key_nil hke
      have HX := Lib.hid (show nullQ 0 0 0 ⟨#[]⟩ b 0 = noneB b by simp [nullQ, ByteArray.size])
      rw [HX.out]
      have HN := Lib.hid (show ((canonB b : Int) == 0) = noneB b by rw [Bool.eq_iff_iff]; simp [noneB])
      generalize noneB b = nb at *
      clear hke hc hs hkd hid o1 o2 o3 o4 o5 o6 HX
      go_enter Try.func16, Try.ntmps16
      go_wp2_with (go_at_call 39; refine (rbits2_any _ _).mono ?_; rintro r w1 ⟨rfl, rfl⟩)
      go_ret
      exact ⟨by rw [← HN.out]; rfl, below_alloc _ _⟩
    · rw [null_no (by rintro ⟨_, _, _, _, h⟩; exact hke h)]
      have hke' : key.toList.isEmpty = false := by rw [str_empty]; simpa using hke
      clear hke hc hs hkd hid o1 o2 o3 o4 o5 o6
      go_enter Try.func16, Try.ntmps16
      go_wp2_with fail
      go_ret
      exact ⟨rfl, below_alloc _ _⟩
  · have hT : (bits BinOp.or IntKind.i64 (bits BinOp.or IntKind.i64 (bits BinOp.or IntKind.i64 c s) kind) id == 0) = false := by
      simp only [beq_eq_false_iff_ne, ne_eq]
      intro hz
      obtain ⟨⟨⟨h1, h2⟩, h3⟩, h4⟩ := o5.1 hz
      exact h ⟨h1, h2, h3, h4⟩
    rw [null_no (by rintro ⟨h1, h2, h3, h4, _⟩; exact h ⟨h1, h2, h3, h4⟩)]
    clear h hc hs hkd hid o1 o2 o3 o4 o5 o6
    go_enter Try.func16, Try.ntmps16
    go_wp2_with fail
    go_ret
    exact ⟨rfl, below_alloc _ _⟩
end Go.Proofs.Ytnmhmbfhaiaaoaa
