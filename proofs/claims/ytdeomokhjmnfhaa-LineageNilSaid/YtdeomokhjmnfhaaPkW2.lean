
/- Walks of the program's writer: Byte, Word, Done. -/
import Derived.Test.YtdeomokhjmnfhaaPkW
namespace Go.Proofs.Ytdeomokhjmnfhaa
open Go.RowKit
set_option linter.unusedVariables false

theorem PWPost.pre {w w1 : World} {B p : Nat} {ob : Option Nat} {s : W} {e : Ending} {w' : World} (hb : Below w.heap.size w w1) (h : PWPost w1 B p ob s e w') : PWPost w B p ob s e w' := by
  obtain ⟨rfl, ob', ho, h1, h2⟩ := h
  refine ⟨rfl, ob', ?_, h1, (Only.of_below hb).trans h2 (.inl rfl)⟩
  rcases ho with ho | ⟨k, hk, hl⟩
  · exact .inl ho
  · exact .inr ⟨k, hk, Nat.le_trans hb.size hl⟩

theorem bytes_new (w : World) (bs : List UInt8) (vs : Array Value) (hv : vs = (byV bs).toArray) : BytesAt (w.alloc (.cells vs 5)) (some ⟨w.heap.size, 0, none⟩) bs.length bs.length bs := by
  subst hv
  refine ⟨rfl, fun h => by (cases h), fun ad had j u hu => ?_⟩
  injection had with had
  subst had
  rw [Addr.add_lit, World.cell?_alloc_at _ _ _ _ rfl]
  simpa using hu

theorem be1 {n : Int} (h0 : 0 ≤ n) (h1 : n ≤ 255) : byV (beN n.toNat 1) = [.int .u8 n] := by
  simp [byV, beN]; omega
theorem be2 {n : Int} (h0 : 0 ≤ n) (h1 : n ≤ 65535) : byV (beN n.toNat 2) = [.int .u8 (n / 256), .int .u8 (n % 256)] := by
  simp [byV, beN]; omega

/-- What a writer's call asks: room that is an int, and not too many bytes. -/
def WOk (s : W) : Prop := (-9223372036854775808 ≤ s.room ∧ s.room ≤ 9223372036854775807) ∧ -9223372036854775808 ≤ s.err ∧ s.err ≤ 9223372036854775807

set_option maxHeartbeats 400000 in
theorem wbyte_any (B p : Nat) (ob : Option Nat) (s : W) (n : Int) (w : World) (h : PWr w B p ob s) (hB : B ≤ w.heap.size) (hok : WOk s) (hsz : Fits s 1) (hn : i64 n) :
    Calls Try.prog 46 #[.pointer (some ⟨p, 0, none⟩), .int .i64 n] w (PWPost w B p ob (wPut s (decide (0 ≤ n ∧ n ≤ 255)) (beN n.toNat 1))) := by
  obtain ⟨v, h0, h1, h2, hf, ho, hob⟩ := h.cells
  have H := Lib.hid h
  clear hf ho hob h h0 h1
  obtain ⟨hn1, hn2⟩ := hn
  cases he : s.err == 0 with
  | false =>
    have hput := Lib.hid (wPut_err (s := s) (by simpa using he) (decide (0 ≤ n ∧ n ≤ 255)) (beN n.toNat 1))
    have he2 : (s.err != 0) = true := by simp [bne, he]
    go_enter Try.func46, Try.ntmps46
    go_wp2_with fail
    go_end0
    rw [hput.out]
    exact ⟨rfl, ob, .inl rfl, H.out, Only.refl _ _ _⟩
  | true =>
    have he0 : s.err = 0 := by simpa using he
    have he2 : (s.err != 0) = false := by simp [bne, he]
    have CF := Lib.hid (fun w h => wfail_any B p ob s 4 w h)
    by_cases hlo : n < 0
    · have hput := Lib.hid (show wPut s (decide (0 ≤ n ∧ n ≤ 255)) (beN n.toNat 1) = ⟨s.out, s.room, 4⟩ by
        rw [show decide (0 ≤ n ∧ n ≤ 255) = false by simp; omega, wPut_bad he0])
      clear he0 he
      go_enter Try.func46, Try.ntmps46
      go_wp2_with fail
      refine (CF.out _ H.out).mono ?_
      rintro e w' ⟨rfl, hpost⟩
      have Hp := Lib.hid hpost; clear hpost
      go_wp2_with fail
      go_end0
      rw [hput.out]
      exact ⟨rfl, Hp.out⟩
    · by_cases hhi : 255 < n
      · have hput := Lib.hid (show wPut s (decide (0 ≤ n ∧ n ≤ 255)) (beN n.toNat 1) = ⟨s.out, s.room, 4⟩ by
          rw [show decide (0 ≤ n ∧ n ≤ 255) = false by simp; omega, wPut_bad he0])
        clear he0 he
        go_enter Try.func46, Try.ntmps46
        go_wp2_with fail
        refine (CF.out _ H.out).mono ?_
        rintro e w' ⟨rfl, hpost⟩
        have Hp := Lib.hid hpost; clear hpost
        go_wp2_with fail
        go_end0
        rw [hput.out]
        exact ⟨rfl, Hp.out⟩
      · have hput := Lib.hid (show wPut s (decide (0 ≤ n ∧ n ≤ 255)) (beN n.toNat 1) = wAdd s (beN n.toNat 1) by
          rw [show decide (0 ≤ n ∧ n ≤ 255) = true by simp; omega, wPut_ok he0])
        have hb := bytes_new w (beN n.toNat 1) #[.int .u8 n] (by rw [be1 (by omega) (by omega)])
        rw [beN_len] at hb
        have CA := wadd_any B p ob s _ 1 1 (beN n.toNat 1) _ (H.out.below (below_alloc w _)) hb (by simp; omega) hok.1 hsz
        replace CA := Lib.hid CA
        have Hput := hput
        clear he0 he CF hb
        go_enter Try.func46, Try.ntmps46
        go_wp2_with fail
        refine CA.out.mono ?_
        intro e w' hpost
        replace hpost := PWPost.pre (below_alloc w _) hpost
        obtain ⟨rfl, hpost⟩ := hpost
        have Hp := Lib.hid hpost; clear hpost
        go_wp2_with fail
        go_end0
        rw [hput.out]
        exact ⟨rfl, Hp.out⟩
end Go.Proofs.Ytdeomokhjmnfhaa
