
/- Walks of the reference's tracker: New, At, Add. -/
import Derived.Test.YtdeomokhjmnfhaaRt
namespace Go.Proofs.Ytdeomokhjmnfhaa
open Go.RowKit
set_option linter.unusedVariables false

def LNewPost (w0 : World) (e : Int) (l : List Int) (w : World) (r : Ending) (w' : World) : Prop :=
  Below w.heap.size w w' ∧ ((rightB e l = true ∧ e = 0 ∧ ∃ X q, r = .returned (.tuple #[.pointer (some ⟨q, 0, none⟩), .int .i64 0]) ∧ w.heap.size ≤ q ∧ (∀ k, X k ↔ w0.heap.size ≤ k) ∧ RTrk X w' w.heap.size q none (e, l) []) ∨
    (¬ (rightB e l = true ∧ e = 0) ∧ r = .returned (.tuple #[.pointer none, .int .i64 1])))

set_option maxHeartbeats 1000000 in
theorem lnew_any (e : Int) (a : Option Addr) (n c : Nat) (l : List Int) (w0 w : World) (h : SlAt Sh.int w0 a n c l) (hb0 : Below w0.heap.size w0 w) (he : i64 e) :
    Calls Try.prog 19 #[.agg #[.int .i64 e, .slice a n c]] w (LNewPost w0 e l w) := by
  obtain ⟨w1, hw1⟩ : ∃ w1, w1 = w.alloc (.cells #[.int .i64 e, .slice a n c] 24) := ⟨_, rfl⟩
  have b1 : Below w.heap.size w w1 := by rw [hw1]; exact below_alloc _ _
  have k1 : w1.heap[w.heap.size]? = some (.cells #[.int .i64 e, .slice a n c] 24 (0, 0)) := by rw [hw1]; exact blk_alloc _ _
  have x0 : w1.cell? ⟨w.heap.size, 0, none⟩ = some (.int .i64 e) := by rw [blk_cell k1]; rfl
  have x1 : w1.cell? ⟨w.heap.size, 1, none⟩ = some (.slice a n c) := by rw [blk_cell k1]; rfl
  have CR := Lib.hid (rright_any e a n c l w1 (ints_of_sl (h.old (bthen hb0 b1))))
  have HB := Lib.hid b1
  have HI := Lib.hid h
  have HB0 := Lib.hid hb0
  clear h b1 hb0
  go_enter Try.func19, Try.ntmps19
  go_wp2_with fail
  rw [← hw1]
  clear hw1 k1
  refine CR.out.mono ?_
  rintro r w2 ⟨rfl, b2⟩
  have y0 := below_cell b2 x0
  have y1 := below_cell b2 x1
  have HB2 := Lib.hid (bthen HB.out b2)
  clear b2 x0 x1 CR HB
  cases hr : rightB e l with
  | false =>
    go_wp2_with fail
    go_ret2
    exact ⟨HB2.out, .inr ⟨(fun hc => by rw [hr] at hc; cases hc.1), rfl⟩⟩
  | true =>
    by_cases h0 : e = 0
    · subst h0
      go_wp2_with fail
      go_ret2
      have hz0 := HB0.out.size
      have hz2 := HB2.out.size
      refine ⟨bthen HB2.out (below_alloc _ _), .inl ⟨hr, rfl, fun k => w0.heap.size ≤ k, w2.heap.size, rfl, hz2, fun _ => Iff.rfl, ⟨hz2, by simp, fun k hk => ?_, fun k hk => ?_, .slice none 0 0, [], a, n, c, blk_alloc _ _, he, slRob HI.out (bthen (bthen HB0.out HB2.out) (below_alloc _ _)) (fun k hk => hk), World.ownsRow_nil _ _ _ _, rfl, rfl⟩⟩⟩
      · rcases hk with rfl | hk
        · show w0.heap.size ≤ w2.heap.size; omega
        · cases hk
      · show w0.heap.size ≤ k
        simp at hk; omega
    · have h0' : (e != 0) = true := by simpa using h0
      go_wp2_with fail
      go_ret2
      exact ⟨HB2.out, .inr ⟨(fun hc => h0 hc.2), rfl⟩⟩

def RAtPost (x : Int) (c0 : Cf) (L : List Lk) (w : World) (r : Ending) (w' : World) : Prop :=
  Below w.heap.size w w' ∧ ((∃ k e l a n c, x = (k : Nat) ∧ (c0 :: L.map (·.1))[k]? = some (e, l) ∧ r = .returned (.tuple #[.agg #[.int .i64 e, .slice a n c], .bool true]) ∧ SlAt Sh.int w' a n c l ∧ i64 e) ∨
    ((x < 0 ∨ (L.length : Int) + 1 ≤ x) ∧ r = .returned (.tuple #[.agg #[.int .i64 0, .slice none 0 0], .bool false])))

set_option maxHeartbeats 1000000 in
theorem rat_any (X : Nat → Prop) (B q : Nat) (ol : Option Nat) (c0 : Cf) (L : List Lk) (x : Int) (w : World) (h : RTrk X w B q ol c0 L) (hL : L.length ≤ 1000) :
    Calls Try.prog 41 #[.pointer (some ⟨q, 0, none⟩), .int .i64 x] w (RAtPost x c0 L w) := by
  obtain ⟨a0, n0, k0, al, cl, hp, he0, hI, hS⟩ := h.view hL
  obtain ⟨e0, l0⟩ := c0
  obtain ⟨wa, hwa⟩ : ∃ wa, wa = w.alloc (.cells #[.int .i64 0, .slice none 0 0] 24) := ⟨_, rfl⟩
  have ba : Below w.heap.size w wa := by rw [hwa]; exact below_alloc _ _
  have kx : wa.heap[w.heap.size]? = some (.cells #[.int .i64 0, .slice none 0 0] 24 (0, 0)) := by rw [hwa]; exact blk_alloc _ _
  have kq := blk_below hp ba
  have p0 : wa.cell? ⟨q, 0, none⟩ = some (.int .i64 e0) := by rw [blk_cell kq]; rfl
  have p1 : wa.cell? ⟨q, 1, none⟩ = some (.slice a0 n0 k0) := by rw [blk_cell kq]; rfl
  have p2 : wa.cell? ⟨q, 2, none⟩ = some (.slice al L.length cl) := by rw [blk_cell kq]; rfl
  have HC := Lib.hid hS
  have HI := Lib.hid hI
  clear h hp hI hS ba kx kq
  rw [hwa] at p0 p1 p2
  clear hwa
  by_cases hx0 : x = 0
  · subst hx0
    go_enter Try.func41, Try.ntmps41
    go_wp2_with fail
    exact bodyPost_ret (v := .tuple #[.agg #[.int .i64 e0, .slice a0 n0 k0], .bool true]) (by simp [results, Try.results41, go_sem]) rfl ⟨below_alloc _ _, .inl ⟨0, e0, l0, a0, n0, k0, rfl, rfl, rfl, HI.out.old (below_alloc _ _), he0⟩⟩
  · have hx0' : (x == 0) = false := by simpa using hx0
    by_cases hx1 : x < 1
    · have hx2 : decide (x < 1) = true := by simpa using hx1
      go_enter Try.func41, Try.ntmps41
      go_wp2_with fail
      exact bodyPost_ret (v := .tuple #[.agg #[.int .i64 0, .slice none 0 0], .bool false]) (by simp [results, Try.results41, go_sem]) rfl ⟨below_alloc _ _, .inr ⟨.inl (by omega), rfl⟩⟩
    · have hx2 : decide (x < 1) = false := by simpa using hx1
      by_cases hx3 : (L.length : Int) < x
      · have hx4 : decide ((L.length : Int) < x) = true := by simpa using hx3
        go_enter Try.func41, Try.ntmps41
        go_wp2_with fail
        exact bodyPost_ret (v := .tuple #[.agg #[.int .i64 0, .slice none 0 0], .bool false]) (by simp [results, Try.results41, go_sem]) rfl ⟨below_alloc _ _, .inr ⟨.inr (by omega), rfl⟩⟩
      · obtain ⟨k, rfl⟩ : ∃ k : Nat, x = k + 1 := ⟨(x - 1).toNat, by omega⟩
        have hk : k < L.length := by omega
        obtain ⟨⟨⟨e, l⟩, sg⟩, hcm⟩ : ∃ y, L[k]? = some y := ⟨_, List.getElem?_eq_getElem hk⟩
        obtain ⟨b, o, a', n', c', sa, sn, sc, rfl, d0, d1, d2, he1, hs1, hg1⟩ := link_cells HC.out hcm
        have lb := World.block_lt d0
        have d0 := below_cell (below_alloc w (.cells #[.int .i64 0, .slice none 0 0] 24)) d0
        have d1 := below_cell (below_alloc w (.cells #[.int .i64 0, .slice none 0 0] 24)) d1
        have hx4 : decide ((L.length : Int) < (k : Int) + 1) = false := by simp; omega
        have hx5 : decide (L.length < k + 1) = false := by simp; omega
        have hk0 : (0 : Int) ≤ (k : Int) := by omega
        have hk1 : (k : Int) < (L.length : Int) := by omega
        have HCM := Lib.hid (show (((e0, l0) : Cf) :: L.map (·.1))[k + 1]? = some (e, l) by simp [hcm])
        have HS1 := Lib.hid hs1
        clear hcm hs1 hg1
        go_enter Try.func41, Try.ntmps41
        go_wp2_with fail
        exact bodyPost_ret (v := .tuple #[.agg #[.int .i64 e, .slice a' n' c'], .bool true]) (by simp [results, Try.results41, go_sem]) rfl ⟨below_alloc _ _, .inl ⟨k + 1, e, l, a', n', c', by simp, HCM.out, rfl, HS1.out.old (below_alloc _ _), he1⟩⟩
end Go.Proofs.Ytdeomokhjmnfhaa
