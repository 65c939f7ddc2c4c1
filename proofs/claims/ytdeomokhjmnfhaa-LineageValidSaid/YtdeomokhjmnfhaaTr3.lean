
/- Walk of the program's New. -/
import Derived.Test.YtdeomokhjmnfhaaTr2
import Derived.Test.YtdeomokhjmnfhaaLgR
namespace Go.Proofs.Ytdeomokhjmnfhaa
open Go.RowKit
set_option linter.unusedVariables false

theorem one_owned (w : World) (B e k : Nat) (xs : List Value) (hk : xs.length = k) (hB : B ≤ w.heap.size) : (w.alloc (.cells xs.toArray e)).ownsRow B e k (.slice (some ⟨w.heap.size, 0, none⟩) 1 1) 1 xs :=
  ⟨by simp [hk], .inr ⟨w.heap.size, 1, xs.toArray, rfl, hB, blk_alloc w _, Nat.le_refl _, by decide, by simp [hk], by simp [← hk]⟩⟩

theorem trk_new {w w6 : World} {e : Int} {a6 : Option Addr} {n c6 : Nat} {l : List Int} (ho : w6.ownsRow w.heap.size 3 1 (.slice a6 n c6) n (intsV l)) (hz : w.heap.size ≤ w6.heap.size) (hl : l.length = n) (he : i64 e) (hf : ∀ x ∈ l, i64 x) (hb : n * 8 ≤ 140737488355328) :
    Trk ((w6.alloc (.cells #[.int .i64 e, .slice a6 n c6] 24)).alloc (.cells #[.slice (some ⟨w6.heap.size, 0, none⟩) 1 1, .slice none 0 0] 70)) w.heap.size (w6.heap.size + 1) (some w6.heap.size) none [(e, l)] [] := by
  have o1 := one_owned w6 w.heap.size 24 2 [.int .i64 e, .slice a6 n c6] rfl hz
  have b1 := below_alloc w6 (.cells #[.int .i64 e, .slice a6 n c6] 24)
  have b2 := below_alloc (w6.alloc (.cells #[.int .i64 e, .slice a6 n c6] 24)) (.cells #[.slice (some ⟨w6.heap.size, 0, none⟩) 1 1, .slice none 0 0] 70)
  refine ⟨by omega, by simp, by simp, fun k hk => by simp, _, _, [.int .i64 e, .slice a6 n c6], [], ?_, owns_old o1 b2, rfl, ?_, World.ownsRow_nil _ _ _ _, rfl, rfl⟩
  · have := blk_alloc (w6.alloc (.cells #[.int .i64 e, .slice a6 n c6] 24)) (.cells #[.slice (some ⟨w6.heap.size, 0, none⟩) 1 1, .slice none 0 0] 70)
    simpa using this
  · refine ⟨[.int .i64 e, .slice a6 n c6], [], rfl, rfl, conf_rob (owns_old ho (bthen b1 b2)) hl (fun k hk hx => ?_) he hf hb, rfl⟩
    have := (ho.lt k hk).2
    rcases hx with hx | hx | hx
    · omega
    · injection hx with hx; omega
    · cases hx

def NewPost (B : Nat) (e : Int) (l : List Int) (w : World) (r : Ending) (w' : World) : Prop :=
  Below w.heap.size w w' ∧ ((rightB e l = true ∧ e = 0 ∧ ∃ p oc, r = .returned (.tuple #[.pointer (some ⟨p, 0, none⟩), .int .i64 0]) ∧ w.heap.size ≤ p ∧ Trk w' B p oc none [(e, l)] []) ∨
    (¬ (rightB e l = true ∧ e = 0) ∧ r = .returned (.tuple #[.pointer none, .int .i64 1])))

set_option maxHeartbeats 1000000 in
theorem new_any (e : Int) (a : Option Addr) (n c : Nat) (l : List Int) (w : World) (h : IntsAt w a n l) (hn : a = none → c = 0 ∧ n = 0) (hb : n * 8 ≤ 140737488355328) (he : i64 e) :
    Calls Try.prog 12 #[.agg #[.int .i64 e, .slice a n c]] w (NewPost w.heap.size e l w) := by
  obtain ⟨w1, hw1⟩ : ∃ w1, w1 = w.alloc (.cells #[.int .i64 e, .slice a n c] 24) := ⟨_, rfl⟩
  have b1 : Below w.heap.size w w1 := by rw [hw1]; exact below_alloc _ _
  have k1 : w1.heap[w.heap.size]? = some (.cells #[.int .i64 e, .slice a n c] 24 (0, 0)) := by rw [hw1]; exact blk_alloc _ _
  have x0 : w1.cell? ⟨w.heap.size, 0, none⟩ = some (.int .i64 e) := by rw [blk_cell k1]; rfl
  have x1 : w1.cell? ⟨w.heap.size, 1, none⟩ = some (.slice a n c) := by rw [blk_cell k1]; rfl
  have CR := Lib.hid (right_any e a n c l w1 (h.below b1))
  have CO := Lib.hid (fun (w' : World) (hb' : Below w.heap.size w w') => own_any e a n c l w' (h.below hb') hn hb)
  have HB := Lib.hid b1
  have HL := Lib.hid h.len
  have HF := Lib.hid h.fit
  clear h hn b1
  go_enter Try.func12, Try.ntmps12
  go_wp2_with fail
  rw [← hw1]
  clear hw1 k1
  refine CR.out.mono ?_
  rintro r w2 ⟨rfl, b2⟩
  have y0 := below_cell b2 x0
  have y1 := below_cell b2 x1
  have HB2 := Lib.hid (bthen HB.out b2)
  clear b2 x0 x1 CR HB
  cases hr : rightB e l with
  | false =>
    go_wp2_with fail
    go_ret2
    exact ⟨HB2.out, .inr ⟨(fun hc => by rw [hr] at hc; cases hc.1), rfl⟩⟩
  | true =>
    by_cases h0 : e = 0
    · subst h0
      go_wp2_with fail
      refine (CO.out _ HB2.out).mono ?_
      rintro r w6 ⟨a6, c6, rfl, ho6, b6⟩
      have hz2 := HB2.out.size
      have HT := Lib.hid (trk_new (owns_lower ho6 hz2) (Nat.le_trans hz2 b6.size) HL.out he HF.out hb)
      have HB6 := Lib.hid (bthen HB2.out b6)
      clear ho6 b6 CO HB2
      go_wp2_with fail
      go_ret2
      have hz6 := HB6.out.size
      exact ⟨bthen HB6.out (bthen (below_alloc _ _) (below_alloc _ _)), .inl ⟨hr, rfl, _, _, rfl, Nat.le_succ_of_le hz6, HT.out⟩⟩
    · go_wp2_with fail
      go_ret2
      exact ⟨HB2.out, .inr ⟨(fun hc => h0 hc.2), rfl⟩⟩
end Go.Proofs.Ytdeomokhjmnfhaa
