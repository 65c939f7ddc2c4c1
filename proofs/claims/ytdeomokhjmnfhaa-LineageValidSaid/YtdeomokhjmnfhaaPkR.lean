
/- Walks of the reference's writer: put, big. -/
import Derived.Test.YtdeomokhjmnfhaaPkW3
namespace Go.Proofs.Ytdeomokhjmnfhaa
open Go.RowKit
set_option linter.unusedVariables false

/-- The reference's writer in memory: its limit stands where the program has its room. -/
def RWr (w : World) (B p : Nat) (ob : Option Nat) (s : W) : Prop := WAt 90 5 w B p ob s.out (s.room + s.out.length) s.err
def RWPost (w : World) (B p : Nat) (ob : Option Nat) (s : W) (e : Ending) (w' : World) : Prop :=
  e = .returned (.tuple #[]) ∧ ∃ ob', (ob' = ob ∨ ∃ k, ob' = some k ∧ w.heap.size ≤ k) ∧ RWr w' B p ob' s ∧ Only p ob w w'
theorem RWPost.pre {w w1 : World} {B p : Nat} {ob : Option Nat} {s : W} {e : Ending} {w' : World} (hb : Below w.heap.size w w1) (h : RWPost w1 B p ob s e w') : RWPost w B p ob s e w' := by
  obtain ⟨rfl, ob', ho, h1, h2⟩ := h
  refine ⟨rfl, ob', ?_, h1, (Only.of_below hb).trans h2 (.inl rfl)⟩
  rcases ho with ho | ⟨k, hk, hl⟩
  · exact .inl ho
  · exact .inr ⟨k, hk, Nat.le_trans hb.size hl⟩

set_option maxHeartbeats 1000000 in
theorem rput_any (B p : Nat) (ob : Option Nat) (s : W) (xo : Option Addr) (m c : Nat) (bs : List UInt8) (right : Bool) (w : World) (h : RWr w B p ob s) (hb : BytesAt w xo m c bs) (hB : B ≤ w.heap.size)
    (hroom : 0 ≤ s.room ∧ s.room + s.out.length ≤ 9223372036854775807) (hsz : s.out.length + m ≤ 140737488355328) :
    Calls Try.prog 57 #[.pointer (some ⟨p, 0, none⟩), .slice xo m c, .bool right] w (RWPost w B p ob (wPut s right bs)) := by
  obtain ⟨v, h0, h1, h2, hf, ho, hob⟩ := h.cells
  obtain ⟨hbl, hxo, hbc⟩ := hb
  have hf0 := hf 0
  have hf2 := hf 2
  obtain ⟨hr1, hr2⟩ := hroom
  have H := Lib.hid h
  cases he : s.err == 0 with
  | false =>
    have hput := Lib.hid (wPut_err (s := s) (by simpa using he) right bs)
    have he2 : (s.err != 0) = true := by simp [bne, he]
    clear hf ho hob h h0 h1 hbl hxo hbc
    go_enter Try.func57, Try.ntmps57
    go_wp2_with fail
    go_end0
    rw [hput.out]
    exact ⟨rfl, ob, .inl rfl, H.out, Only.refl _ _ _⟩
  | true =>
    have he0 : s.err = 0 := by simpa using he
    have he2 : (s.err != 0) = false := by simp [bne, he]
    cases right with
    | false =>
      have hput := Lib.hid (wPut_bad he0 bs)
      clear hf ho hob h h0 h1 hbl hxo hbc he0 he
      go_enter Try.func57, Try.ntmps57
      go_wp2_with fail
      go_end0
      rw [hput.out]
      exact ⟨rfl, ob, .inl rfl, H.out.set2 4, (Only.refl _ _ _).set _ _⟩
    | true =>
      obtain ⟨a, cv, hv⟩ := owns_slice ho
      rw [hv] at h0 ho hob
      obtain ⟨X, hX⟩ : ∃ X, X = s.room + (s.out.length : Int) := ⟨_, rfl⟩
      have hwr : IntKind.i64.wrap (X - (s.out.length : Int)) = X - (s.out.length : Int) := IntWalk.i64_in _ (by omega)
      rw [← hX] at h1
      by_cases hlt : s.room < m
      · have hput := Lib.hid (show wPut s true bs = ⟨s.out, s.room, 3⟩ by rw [wPut_ok he0, wAdd_full (by rw [hbl]; exact hlt)])
        have hd : X - (s.out.length : Int) < (m : Int) := by omega
        have hd2 : decide (X - (s.out.length : Int) < (m : Int)) = true := by simpa using hd
        clear hf ho hob h hbl hxo hbc he0 he hX hv
        go_enter Try.func57, Try.ntmps57
        go_wp2_with fail
        go_quiet (fail)
        go_wp2_with fail
        go_end0
        rw [hput.out]
        exact ⟨rfl, ob, .inl rfl, (H.out.below (below_drewN (Below.refl _ _) nq)).set2 3, (Only.of_below (below_drewN (Below.refl _ _) nq)).set _ _⟩
      · have hadd := Lib.hid (show wPut s true bs = ⟨s.out ++ bs, s.room - bs.length, s.err⟩ by rw [wPut_ok he0, wAdd_room (by rw [hbl]; exact hlt)])
        have hd2 : decide (X - (s.out.length : Int) < (m : Int)) = false := by simp; omega
        have Ho := Lib.hid ho
        have k1 := Lib.hid (show (byV bs).length = m * 1 by rw [byV_len, hbl, Nat.mul_one])
        have k4 := Lib.hid (show s.out.length + m ≤ maxLen by simp only [maxLen]; omega)
        have k5 := Lib.hid (show (s.out.length + m) * 1 ≤ 140737488355328 by omega)
        have hfin : ∀ (q : Nat) (v' : Value) (w1 : World), w1.ownsRow B 5 1 v' (s.out.length + m) (byV s.out ++ byV bs) → (w.drewN q).grownBy w1 (Value.ownBlock (.slice a s.out.length cv)) → (v'.ownBlock = Value.ownBlock (.slice a s.out.length cv) ∨ v'.ownBlock = some (w.drewN q).heap.size) →
            RWPost w B p ob (wPut s true bs) (.returned (.tuple #[])) (w1.setCell ⟨p, 0, none⟩ v') ∧ w1.frozen? ⟨p, 0, none⟩ = false ∧ w1.cell? ⟨p, 0, none⟩ = some (.slice a s.out.length cv) := fun q v' w1 hown hgr hat => by
          rw [hob] at hgr hat
          have hat' : v'.ownBlock = ob ∨ ∃ k, v'.ownBlock = some k ∧ w.heap.size ≤ k := by
            rcases hat with h | h
            · exact .inl h
            · exact .inr ⟨_, h, Nat.le_refl _⟩
          have hq := h.below (below_drewN (Below.refl _ _) q)
          have hw1 := hq.set0 (out' := s.out ++ bs) hgr (by rw [List.length_append, hbl, byV_append]; exact hown) hat'
          have hp : w1.heap[p]? = w.heap[p]? := hgr.block p h.lt (Ne.symm h.2.1)
          refine ⟨⟨rfl, v'.ownBlock, hat', ?_, ((Only.of_below (below_drewN (Below.refl _ _) q)).grown hgr).set _ _⟩, by rw [World.frozen?_of_block (w := w) (a := ⟨p, 0, none⟩) hp, hf0], by rw [World.cell?_of_block (w := w) (a := ⟨p, 0, none⟩) hp, h0]⟩
          rw [hadd.out]
          unfold RWr
          have e1 : s.room - (bs.length : Int) + ((s.out ++ bs).length : Int) = s.room + (s.out.length : Int) := by rw [List.length_append]; omega
          rw [e1]
          exact hw1
        have Hfin := Lib.hid hfin; have Hxo := Lib.hid hxo; have Hbc := Lib.hid hbc
        obtain ⟨ii, hi, hz0, hz1, hz2⟩ := info_parts info_u8
        clear hf ho hob hbl hxo hbc h hfin hadd H he0 he hX hv
        go_enter Try.func57, Try.ntmps57
        go_wp2_with fail
        go_quiet (fail)
        go_wp2_with (refine wpList_append_any_at _ rfl (.tmp 36) (.tmp 37) 88 rfl B 5 ii (.int .u8 0) 1 1 Try.underlying88 hi hz0 hz1 hz2 rfl (by decide) _ s.out.length (byV s.out) rfl (owns_below Ho.out (below_drewN (Below.refl _ _) nq)) xo m c (byV bs) rfl k1.out Hxo.out Hbc.out (byV_one bs) k4.out k5.out hB ?_)
        intro v' w1 hown hgr hat
        obtain ⟨g1, g2, g3⟩ := Hfin.out _ v' w1 hown hgr hat
        obtain ⟨a', c', hv'⟩ := owns_slice hown
        rw [hv'] at g1
        rw [hv']
        have G1 := Lib.hid g1
        clear hv' hown hgr hat g1 Hfin h0 h1 h2 hf0 hf2 Ho Hxo Hbc
        go_wp2_with fail
        go_end0
        exact G1.out
end Go.Proofs.Ytdeomokhjmnfhaa
