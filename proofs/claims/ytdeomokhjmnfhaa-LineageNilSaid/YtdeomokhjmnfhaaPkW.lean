
/- Walks of the program's writer: New, fail, add, Byte, Word, Done. -/
import Derived.Test.YtdeomokhjmnfhaaRows
import Derived.Test.YtdeomokhjmnfhaaPkM
import Derived.Deep.QuietTactic
import Derived.BigQuiet
namespace Go.Proofs.Ytdeomokhjmnfhaa
open Go.RowKit
set_option linter.unusedVariables false

theorem info_u8 : (Try.prog.info? 5).map (fun i => (i.zero, i.size, i.bytes)) = some (some (.int .u8 0), 1, 1) := by kernel_rfl

/-- The program's writer in memory. -/
def PWr (w : World) (B p : Nat) (ob : Option Nat) (s : W) : Prop := WAt 95 5 w B p ob s.out s.room s.err
/-- What a call on it leaves. -/
def PWPost (w : World) (B p : Nat) (ob : Option Nat) (s : W) (e : Ending) (w' : World) : Prop :=
  e = .returned (.tuple #[]) ∧ ∃ ob', (ob' = ob ∨ ∃ k, ob' = some k ∧ w.heap.size ≤ k) ∧ PWr w' B p ob' s ∧ Only p ob w w'

/-- Bytes that a slice holds. -/
def BytesAt (w : World) (xo : Option Addr) (m c : Nat) (bs : List UInt8) : Prop :=
  bs.length = m ∧ (xo = none → m = 0 ∧ c = 0) ∧ ∀ ad, xo = some ad → ∀ j u, (byV bs)[j]? = some u → w.cell? (ad.add j) = some u

set_option maxHeartbeats 400000 in
theorem wnew_any (limit : Int) (w : World) :
    Calls Try.prog 45 #[.int .i64 limit] w fun e w' => e = .returned (.pointer (some ⟨w.heap.size, 0, none⟩)) ∧ PWr w' w.heap.size w.heap.size none (wNew limit) ∧ Below w.heap.size w w' := by
  by_cases h : 0 < limit
  · have hm := Lib.hid (show max limit 0 = limit by omega)
    go_enter Try.func45, Try.ntmps45
    go_wp2
    go_ret
    refine ⟨rfl, ?_, below_alloc w _⟩
    have := WAt.made w 95 5 limit
    simpa [PWr, wNew, hm.out] using this
  · have hm := Lib.hid (show max limit 0 = 0 by omega)
    go_enter Try.func45, Try.ntmps45
    go_wp2
    go_ret
    refine ⟨rfl, ?_, below_alloc w _⟩
    have := WAt.made w 95 5 0
    simpa [PWr, wNew, hm.out] using this

set_option maxHeartbeats 400000 in
theorem wfail_any (B p : Nat) (ob : Option Nat) (s : W) (e0 : Int) (w : World) (h : PWr w B p ob s) :
    Calls Try.prog 59 #[.pointer (some ⟨p, 0, none⟩), .int .i64 e0] w (PWPost w B p ob ⟨s.out, s.room, e0⟩) := by
  obtain ⟨v, h0, h1, h2, hf, hr⟩ := h.cells
  have hf2 := hf 2
  have H := Lib.hid h; clear h hr hf
  go_enter Try.func59, Try.ntmps59
  go_wp2
  go_end0
  exact ⟨rfl, ob, .inl rfl, H.out.set2 e0, (Only.refl _ _ _).set _ _⟩

/-- What fits the room is not too much for a slice. -/
def Fits (s : W) (m : Nat) : Prop := (m : Int) ≤ s.room → s.out.length + m ≤ 140737488355328
theorem fits_of {s : W} {m : Nat} (h : s.out.length + m ≤ 140737488355328) : Fits s m := fun _ => h

set_option maxHeartbeats 400000 in
theorem wadd_any (B p : Nat) (ob : Option Nat) (s : W) (xo : Option Addr) (m c : Nat) (bs : List UInt8) (w : World) (h : PWr w B p ob s) (hb : BytesAt w xo m c bs) (hB : B ≤ w.heap.size)
    (hroom : -9223372036854775808 ≤ s.room ∧ s.room ≤ 9223372036854775807) (hsz : Fits s m) :
    Calls Try.prog 60 #[.pointer (some ⟨p, 0, none⟩), .slice xo m c] w (PWPost w B p ob (wAdd s bs)) := by
  obtain ⟨v, h0, h1, h2, hf, ho, hob⟩ := h.cells
  obtain ⟨hbl, hxo, hbc⟩ := hb
  have hf0 := hf 0
  have hf1 := hf 1
  obtain ⟨hr1, hr2⟩ := hroom
  have H := Lib.hid h
  have Hob := Lib.hid hob
  by_cases hlt : s.room < m
  · have hadd := Lib.hid (wAdd_full (s := s) (bs := bs) (by rw [hbl]; exact hlt))
    have CF := fun w h => wfail_any B p ob s 3 w h
    replace CF := Lib.hid CF
    clear hf ho hob hbl hxo hbc h
    go_enter Try.func60, Try.ntmps60
    go_wp2_with fail
    refine (CF.out _ H.out).mono ?_
    rintro e w' ⟨rfl, hpost⟩
    have Hp := Lib.hid hpost; clear hpost
    go_wp2_with fail
    go_end0
    rw [hadd.out]
    exact ⟨rfl, Hp.out⟩
  · have hadd := Lib.hid (wAdd_room (s := s) (bs := bs) (by rw [hbl]; exact hlt))
    have hsz := hsz (by omega)
    have Ho := Lib.hid ho
    have k1 := Lib.hid (show (byV bs).length = m * 1 by rw [byV_len, hbl, Nat.mul_one])
    have k4 := Lib.hid (show s.out.length + m ≤ maxLen by simp only [maxLen]; omega)
    have k5 := Lib.hid (show (s.out.length + m) * 1 ≤ 140737488355328 by omega)
    have hfin : ∀ (v' : Value) (w1 : World), w1.ownsRow B 5 1 v' (s.out.length + m) (byV s.out ++ byV bs) → w.grownBy w1 v.ownBlock → (v'.ownBlock = v.ownBlock ∨ v'.ownBlock = some w.heap.size) →
        PWPost w B p ob (wAdd s bs) (.returned (.tuple #[])) ((w1.setCell ⟨p, 0, none⟩ v').setCell ⟨p, 1, none⟩ (.int .i64 (s.room - m))) ∧ w1.frozen? ⟨p, 0, none⟩ = false ∧ w1.frozen? ⟨p, 1, none⟩ = false ∧ w1.cell? ⟨p, 1, none⟩ = some (.int .i64 s.room) ∧ w1.cell? ⟨p, 0, none⟩ = some v := fun v' w1 hown hgr hat => by
      rw [hob] at hgr hat
      have hat' : v'.ownBlock = ob ∨ ∃ k, v'.ownBlock = some k ∧ w.heap.size ≤ k := by
        rcases hat with h | h
        · exact .inl h
        · exact .inr ⟨_, h, Nat.le_refl _⟩
      have hw1 := h.set0 (out' := s.out ++ bs) hgr (by rw [List.length_append, hbl, byV_append]; exact hown) hat'
      have hp : w1.heap[p]? = w.heap[p]? := hgr.block p h.lt (Ne.symm h.2.1)
      have hp2 := World.cell?_of_block (w := w) (a := ⟨p, 1, none⟩) hp
      have hp3 := fun o => World.frozen?_of_block (w := w) (a := ⟨p, o, none⟩) hp
      refine ⟨⟨rfl, v'.ownBlock, hat', ?_, (((Only.refl _ _ _).grown hgr).set _ _).set _ _⟩, by rw [hp3, hf0], by rw [hp3, hf1], by rw [hp2, h1], by rw [World.cell?_of_block (w := w) (a := ⟨p, 0, none⟩) hp, h0]⟩
      rw [hadd.out, hbl]
      exact hw1.set1 _
    have Hfin := Lib.hid hfin; have Hxo := Lib.hid hxo; have Hbc := Lib.hid hbc
    obtain ⟨ii, hi, hz0, hz1, hz2⟩ := info_parts info_u8
    clear hf ho hob hbl hxo hbc h hfin hadd H Hob
    go_enter Try.func60, Try.ntmps60
    go_wp2_with (refine wpList_append_any_at _ rfl (.tmp 17) (.tmp 18) 88 rfl B 5 ii (.int .u8 0) 1 1 Try.underlying88 hi hz0 hz1 hz2 rfl (by decide) _ s.out.length (byV s.out) rfl Ho.out xo m c (byV bs) rfl k1.out Hxo.out Hbc.out (byV_one bs) k4.out k5.out hB ?_)
    intro v' w1 hown hgr hat
    obtain ⟨g1, g2, g3, g4, g5⟩ := Hfin.out v' w1 hown hgr hat
    obtain ⟨a', c', hv'⟩ := owns_slice hown
    rw [hv'] at g1
    rw [hv']
    have G1 := Lib.hid g1
    clear hv' hown hgr hat g1 Hfin h0 h1 h2 hf0 hf1 Ho Hxo Hbc
    go_wp2_with fail
    go_end0
    exact G1.out
end Go.Proofs.Ytdeomokhjmnfhaa
