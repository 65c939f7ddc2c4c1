
/- Same, Request and Whole of requests; ResultText and SameResult, both layers. -/
import Derived.Test.YtnmhmbfhaiaaoaaDt
import Derived.Deep.QuietTactic
import Derived.BigQuiet

namespace Go.Proofs.Ytnmhmbfhaiaaoaa
set_option maxRecDepth 100000
open Go.RowKit
set_option linter.unusedVariables false
set_option linter.unusedSimpArgs false

theorem str_inj (s t : ByteArray) : s.toList = t.toList ↔ s = t := by
  rw [ByteArray.toList_eq, ByteArray.toList_eq]
  exact ⟨Go.WideShapes.bytes_inj, fun h => by rw [h]⟩
theorem str_beq (s t : ByteArray) : (s.toList == t.toList) = decide (s = t) := by
  rw [Bool.eq_iff_iff]; simp [str_inj]
/-- A request. -/
structure Rq where
  c : Int
  s : Int
  kind : Int
  key : ByteArray
  b : Nat
  id : Int
def Rq.v (r : Rq) : Value := .agg #[.int .i64 r.c, .int .i64 r.s, .int .i64 r.kind, .string r.key, .float .f64 r.b, .int .i64 r.id]
structure Rq.Ok (r : Rq) : Prop where
  c : i64 r.c
  s : i64 r.s
  kind : i64 r.kind
  id : i64 r.id
  b : r.b < 18446744073709551616
  key : r.key.size ≤ 140737488351232
def Rq.text (r : Rq) : ByteArray := rqText r.c r.s r.kind r.key r.b r.id
def Rq.err (r : Rq) : Int := rqErr r.c r.s r.kind r.key r.b r.id
theorem text_rq (r : Rq) (h : r.Ok) (w : World) : Calls Try.prog 12 #[r.v] w fun e w' => e = .returned (.tuple #[.string r.text, .int .i64 r.err]) ∧ Below w.heap.size w w' := qtext_any _ _ _ _ _ _ w h.c h.s h.kind h.id h.b h.key
theorem rtext_rq (r : Rq) (h : r.Ok) (w : World) : Calls Try.prog 13 #[r.v] w fun e w' => e = .returned (.tuple #[.string r.text, .int .i64 r.err]) ∧ Below w.heap.size w w' := qrtext_any _ _ _ _ _ _ w h.c h.s h.kind h.id h.b h.key
/-- A request's cells at a place. -/
def RqAt (w : World) (p : Nat) (c s kind : Int) (key : ByteArray) (b : Nat) (id : Int) : Prop :=
  w.cell? ⟨p, 0, none⟩ = some (.int .i64 c) ∧ w.cell? ⟨p, 1, none⟩ = some (.int .i64 s) ∧ w.cell? ⟨p, 2, none⟩ = some (.int .i64 kind) ∧ w.cell? ⟨p, 3, none⟩ = some (.string key) ∧ w.cell? ⟨p, 4, none⟩ = some (.float .f64 b) ∧ w.cell? ⟨p, 5, none⟩ = some (.int .i64 id)
theorem rqAt_blk {w : World} {p : Nat} {c s kind : Int} {key : ByteArray} {b : Nat} {id : Int} {t : TypeId} {fr : Nat × Nat} (h : w.heap[p]? = some (.cells #[.int .i64 c, .int .i64 s, .int .i64 kind, .string key, .float .f64 b, .int .i64 id] t fr)) : RqAt w p c s kind key b id :=
  ⟨by rw [blk_cell h]; rfl, by rw [blk_cell h]; rfl, by rw [blk_cell h]; rfl, by rw [blk_cell h]; rfl, by rw [blk_cell h]; rfl, by rw [blk_cell h]; rfl⟩
/-- Two requests in their boxes, in whatever later world. -/
theorem rq_box2 (w : World) (c s kind : Int) (key : ByteArray) (b : Nat) (id : Int) (c' s' kind' : Int) (key' : ByteArray) (b' : Nat) (id' : Int) : ∀ w1, Below ((w.alloc (.cells #[.int .i64 c, .int .i64 s, .int .i64 kind, .string key, .float .f64 b, .int .i64 id] 30)).alloc (.cells #[.int .i64 c', .int .i64 s', .int .i64 kind', .string key', .float .f64 b', .int .i64 id'] 30)).heap.size ((w.alloc (.cells #[.int .i64 c, .int .i64 s, .int .i64 kind, .string key, .float .f64 b, .int .i64 id] 30)).alloc (.cells #[.int .i64 c', .int .i64 s', .int .i64 kind', .string key', .float .f64 b', .int .i64 id'] 30)) w1 →
    (RqAt w1 w.heap.size c s kind key b id ∧ RqAt w1 (w.heap.size + 1) c' s' kind' key' b' id') ∧ Below w.heap.size w w1 := fun w1 hb => by
  have h1 := blk_below (blk_below (blk_alloc w _) (below_alloc _ _)) hb
  have h2 := blk_below (blk_alloc (w.alloc (.cells #[.int .i64 c, .int .i64 s, .int .i64 kind, .string key, .float .f64 b, .int .i64 id] 30)) _) hb
  rw [show (w.alloc (.cells #[.int .i64 c, .int .i64 s, .int .i64 kind, .string key, .float .f64 b, .int .i64 id] 30)).heap.size = w.heap.size + 1 by simp] at h2
  exact ⟨⟨rqAt_blk h1, rqAt_blk h2⟩, bthen (below_alloc _ _) (bthen (below_alloc _ _) hb)⟩
/-- Are two one request? -/
def sameQ (x y : Rq) : Bool := decide (x.text = y.text) && decide (x.err = 0) && decide (y.err = 0)

set_option maxHeartbeats 1000000 in
theorem same_rq (x y : Rq) (hx : x.Ok) (hy : y.Ok) (w : World) : Calls Try.prog 18 #[x.v, y.v] w fun e w' => e = .returned (.bool (sameQ x y)) ∧ Below w.heap.size w w' := by
  have C1 := Lib.hid (fun w => text_rq x hx w)
  have C2 := Lib.hid (fun w => text_rq y hy w)
  unfold sameQ
  generalize x.text = S at *
  generalize y.text = T at *
  generalize x.err = e1 at *
  generalize y.err = e2 at *
  clear hx hy
  obtain ⟨c, s, kind, key, b, id⟩ := x
  obtain ⟨c', s', kind', key', b', id'⟩ := y
  unfold Rq.v at *
  dsimp only at *
  have HC := Lib.hid (rq_box2 w c s kind key b id c' s' kind' key' b' id')
  go_enter Try.func18, Try.ntmps18
  go_wp2_with fail
  refine (C1.out _).mono ?_
  rintro r w1 ⟨rfl, b1⟩
  have B1 := Lib.hid b1
  obtain ⟨⟨-, x0, x1, x2, x3, x4, x5⟩, -⟩ := HC.out _ b1
  clear b1
  go_wp2_with fail
  refine (C2.out _).mono ?_
  rintro r w2 ⟨rfl, b2⟩
  have B := Lib.hid (HC.out _ (bthen B1.out b2)).2
  clear b2 x0 x1 x2 x3 x4 x5 C1 C2 HC B1
  go_wp2_with fail
  all_goals
    go_ret
    refine ⟨?_, B.out⟩
    simp only [str_beq, str_inj] at *
    clear B
    first | (simp_all [beq_dec]; done) | (simp_all [beq_dec]; omega) | (simp_all [beq_dec]; grind)

set_option maxHeartbeats 1000000 in
theorem rsame_rq (x y : Rq) (hx : x.Ok) (hy : y.Ok) (w : World) : Calls Try.prog 19 #[x.v, y.v] w fun e w' => e = .returned (.bool (sameQ x y)) ∧ Below w.heap.size w w' := by
  have C1 := Lib.hid (fun w => rtext_rq x hx w)
  have C2 := Lib.hid (fun w => rtext_rq y hy w)
  unfold sameQ
  generalize x.text = S at *
  generalize y.text = T at *
  generalize x.err = e1 at *
  generalize y.err = e2 at *
  clear hx hy
  obtain ⟨c, s, kind, key, b, id⟩ := x
  obtain ⟨c', s', kind', key', b', id'⟩ := y
  unfold Rq.v at *
  dsimp only at *
  have HC := Lib.hid (rq_box2 w c s kind key b id c' s' kind' key' b' id')
  go_enter Try.func19, Try.ntmps19
  go_wp2_with fail
  refine (C1.out _).mono ?_
  rintro r w1 ⟨rfl, b1⟩
  have B1 := Lib.hid b1
  obtain ⟨⟨-, x0, x1, x2, x3, x4, x5⟩, -⟩ := HC.out _ b1
  clear b1
  go_wp2_with fail
  refine (C2.out _).mono ?_
  rintro r w2 ⟨rfl, b2⟩
  have B := Lib.hid (HC.out _ (bthen B1.out b2)).2
  clear b2 x0 x1 x2 x3 x4 x5 C1 C2 HC B1
  go_wp2_with fail
  all_goals
    go_ret
    refine ⟨?_, B.out⟩
    simp only [str_beq, str_inj] at *
    clear B
    first | (simp_all [beq_dec]; done) | (simp_all [beq_dec]; omega) | (simp_all [beq_dec]; grind)

/-- Do two agree in each field? -/
def wholeB (x y : Rq) : Bool := decide (x.c = y.c) && decide (x.s = y.s) && decide (x.kind = y.kind) && decide (x.key = y.key) && decide (x.id = y.id) && decide (canonB x.b = canonB y.b)
theorem bits02_q (b : Nat) (hb : b < 18446744073709551616) (w : World) : Calls Try.prog 45 #[.float .f64 b] w fun r w' => r = .returned (.int .u64 (canonB b)) ∧ w' = w :=
  (bits02_any b hb w).mono (by rintro r w' ⟨rfl, rfl⟩; exact ⟨rfl, rfl⟩)
theorem wholeB_no {x y : Rq} (h : ¬ (x.c = y.c ∧ x.s = y.s ∧ x.kind = y.kind ∧ x.key = y.key ∧ x.id = y.id)) : wholeB x y = false := by
  cases hw : wholeB x y with
  | false => rfl
  | true =>
    simp only [wholeB, Bool.and_eq_true, decide_eq_true_eq] at hw
    exact absurd ⟨hw.1.1.1.1.1, hw.1.1.1.1.2, hw.1.1.1.2, hw.1.1.2, hw.1.2⟩ h
set_option maxHeartbeats 1000000 in
theorem whole_no (x y : Rq) (h : ¬ (x.c = y.c ∧ x.s = y.s ∧ x.kind = y.kind ∧ x.key = y.key ∧ x.id = y.id)) (w : World) : Calls Try.prog 21 #[x.v, y.v] w fun e w' => e = .returned (.bool false) ∧ Below w.heap.size w w' := by
  obtain ⟨c, s, kind, key, b, id⟩ := x
  obtain ⟨c', s', kind', key', b', id'⟩ := y
  unfold Rq.v
  dsimp only at *
  by_cases hc : c = c'
  · subst hc
    by_cases hs : s = s'
    · subst hs
      by_cases hkd : kind = kind'
      · subst hkd
        by_cases hke : key = key'
        · subst hke
          have hid : ¬ id = id' := fun hh => h ⟨rfl, rfl, rfl, rfl, hh⟩
          have hid' : (id == id') = false := by simpa using hid
          clear h hid
          have HC := Lib.hid (rq_box2 w c s kind key b id c s kind key b' id')
          go_enter Try.func21, Try.ntmps21
          go_wp2_with fail
          obtain ⟨⟨⟨x0, x1, x2, x3, x4, x5⟩, y0, y1, y2, y3, y4, y5⟩, -⟩ := HC.out _ (Below.refl _ _)
          go_quiet (fail)
          clear x0 x1 x2 x3 x4 x5 y0 y1 y2 y3 y4 y5
          go_wp2_with fail
          go_ret
          exact ⟨rfl, (HC.out _ (below_drewN (Below.refl _ _) _)).2⟩
        · have hke' : (key.toList == key'.toList) = false := by rw [str_beq]; simpa using hke
          clear h hke
          have HC := Lib.hid (rq_box2 w c s kind key b id c s kind key' b' id')
          go_enter Try.func21, Try.ntmps21
          go_wp2_with fail
          obtain ⟨⟨⟨x0, x1, x2, x3, x4, x5⟩, y0, y1, y2, y3, y4, y5⟩, -⟩ := HC.out _ (Below.refl _ _)
          go_quiet (fail)
          clear x0 x1 x2 x3 x4 x5 y0 y1 y2 y3 y4 y5
          go_wp2_with fail
          go_ret
          exact ⟨rfl, (HC.out _ (below_drewN (Below.refl _ _) _)).2⟩
      · have hkd' : (kind == kind') = false := by simpa using hkd
        clear h hkd
        have HC := Lib.hid (rq_box2 w c s kind key b id c s kind' key' b' id')
        go_enter Try.func21, Try.ntmps21
        go_wp2_with fail
        obtain ⟨⟨⟨x0, x1, x2, x3, x4, x5⟩, y0, y1, y2, y3, y4, y5⟩, -⟩ := HC.out _ (Below.refl _ _)
        go_quiet (fail)
        clear x0 x1 x2 x3 x4 x5 y0 y1 y2 y3 y4 y5
        go_wp2_with fail
        go_ret
        exact ⟨rfl, (HC.out _ (below_drewN (Below.refl _ _) _)).2⟩
    · have hs' : (s == s') = false := by simpa using hs
      clear h hs
      have HC := Lib.hid (rq_box2 w c s kind key b id c s' kind' key' b' id')
      go_enter Try.func21, Try.ntmps21
      go_wp2_with fail
      obtain ⟨⟨⟨x0, x1, x2, x3, x4, x5⟩, y0, y1, y2, y3, y4, y5⟩, -⟩ := HC.out _ (Below.refl _ _)
      go_quiet (fail)
      clear x0 x1 x2 x3 x4 x5 y0 y1 y2 y3 y4 y5
      go_wp2_with fail
      go_ret
      exact ⟨rfl, (HC.out _ (below_drewN (Below.refl _ _) _)).2⟩
  · have hc' : (c == c') = false := by simpa using hc
    clear h hc
    have HC := Lib.hid (rq_box2 w c s kind key b id c' s' kind' key' b' id')
    go_enter Try.func21, Try.ntmps21
    go_wp2_with fail
    obtain ⟨⟨⟨x0, x1, x2, x3, x4, x5⟩, y0, y1, y2, y3, y4, y5⟩, -⟩ := HC.out _ (Below.refl _ _)
    go_quiet (fail)
    clear x0 x1 x2 x3 x4 x5 y0 y1 y2 y3 y4 y5
    go_wp2_with fail
    go_ret
    exact ⟨rfl, (HC.out _ (below_drewN (Below.refl _ _) _)).2⟩
set_option maxHeartbeats 1000000 in
theorem whole_rq (x y : Rq) (hx : x.b < 18446744073709551616) (hy : y.b < 18446744073709551616) (w : World) : Calls Try.prog 21 #[x.v, y.v] w fun e w' => e = .returned (.bool (wholeB x y)) ∧ Below w.heap.size w w' := by
  by_cases h : x.c = y.c ∧ x.s = y.s ∧ x.kind = y.kind ∧ x.key = y.key ∧ x.id = y.id
  · have C1 := Lib.hid (fun w => bits02_q x.b hx w)
    have C2 := Lib.hid (fun w => bits02_q y.b hy w)
    have HZ := Lib.hid (show wholeB x y = decide (canonB x.b = canonB y.b) by simp [wholeB, h])
    rw [HZ.out]
    obtain ⟨c, s, kind, key, b, id⟩ := x
    obtain ⟨c', s', kind', key', b', id'⟩ := y
    unfold Rq.v
    dsimp only at *
    obtain ⟨rfl, rfl, rfl, rfl, rfl⟩ := h
    clear hx hy HZ
    have HC := Lib.hid (rq_box2 w c s kind key b id c s kind key b' id)
    have HT := Lib.hid (show ((canonB b : Int) == (canonB b' : Int)) = decide (canonB b = canonB b') by rw [Bool.eq_iff_iff]; simp only [beq_iff_eq, decide_eq_true_eq]; omega)
    generalize canonB b = cb at *
    generalize canonB b' = cb' at *
    go_enter Try.func21, Try.ntmps21
    go_wp2_with fail
    obtain ⟨⟨⟨x0, x1, x2, x3, x4, x5⟩, y0, y1, y2, y3, y4, y5⟩, -⟩ := HC.out _ (Below.refl _ _)
    go_quiet (first | (go_at_call 45; exact Calls.quiet_of_same (C1.out _)) | (go_at_call 45; exact Calls.quiet_of_same (C2.out _)))
    clear x0 x1 x2 x3 x4 x5 y0 y1 y2 y3 y4 y5
    go_wp2_with fail
    go_ret
    refine ⟨by rw [← HT.out]; rfl, (HC.out _ (below_drewN (Below.refl _ _) _)).2⟩
  · rw [wholeB_no h]
    exact whole_no x y h w
end Go.Proofs.Ytnmhmbfhaiaaoaa
