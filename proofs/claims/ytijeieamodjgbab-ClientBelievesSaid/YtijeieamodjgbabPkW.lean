
/- Walks of the program's writer: New, fail, add, Byte, Word, Done. -/
import Derived.Test.YtijeieamodjgbabRows
import Derived.Test.YtijeieamodjgbabPkM
import Derived.Deep.QuietTactic
import Derived.BigQuiet
import Derived.Lib.AppendStr

namespace Go.Proofs.Ytijeieamodjgbab
set_option maxRecDepth 100000
open Go.RowKit
set_option linter.unusedVariables false

theorem info_u8 : (Try.prog.info? 5).map (fun i => (i.zero, i.size, i.bytes)) = some (some (.int .u8 0), 1, 1) := by kernel_rfl

/-- The program's writer in memory. -/
def PWr (w : World) (B p : Nat) (ob : Option Nat) (s : W) : Prop := WAt 147 5 w B p ob s.out s.room s.err
/-- What a call on it leaves. -/
def PWPost (w : World) (B p : Nat) (ob : Option Nat) (s : W) (e : Ending) (w' : World) : Prop :=
  e = .returned (.tuple #[]) ∧ ∃ ob', (ob' = ob ∨ ∃ k, ob' = some k ∧ w.heap.size ≤ k) ∧ PWr w' B p ob' s ∧ Only p ob w w'

/-- Bytes that a slice holds. -/
def BytesAt (w : World) (xo : Option Addr) (m c : Nat) (bs : List UInt8) : Prop :=
  bs.length = m ∧ (xo = none → m = 0 ∧ c = 0) ∧ ∀ ad, xo = some ad → ∀ j u, (byV bs)[j]? = some u → w.cell? (ad.add j) = some u

set_option maxHeartbeats 400000 in
theorem wnew_any (limit : Int) (w : World) :
    Calls Try.prog 55 #[.int .i64 limit] w fun e w' => e = .returned (.pointer (some ⟨w.heap.size, 0, none⟩)) ∧ PWr w' w.heap.size w.heap.size none (wNew limit) ∧ Below w.heap.size w w' := by
  by_cases h : 0 < limit
  · have hm := Lib.hid (show max limit 0 = limit by omega)
    go_enter Try.func55, Try.ntmps55
    go_wp2
    go_ret
    refine ⟨rfl, ?_, below_alloc w _⟩
    have := WAt.made w 147 5 limit
    simpa [PWr, wNew, hm.out] using this
  · have hm := Lib.hid (show max limit 0 = 0 by omega)
    go_enter Try.func55, Try.ntmps55
    go_wp2
    go_ret
    refine ⟨rfl, ?_, below_alloc w _⟩
    have := WAt.made w 147 5 0
    simpa [PWr, wNew, hm.out] using this

set_option maxHeartbeats 400000 in
theorem wfail_any (B p : Nat) (ob : Option Nat) (s : W) (e0 : Int) (w : World) (h : PWr w B p ob s) :
    Calls Try.prog 87 #[.pointer (some ⟨p, 0, none⟩), .int .i64 e0] w (PWPost w B p ob ⟨s.out, s.room, e0⟩) := by
  obtain ⟨v, h0, h1, h2, hf, hr⟩ := h.cells
  have hf2 := hf 2
  have H := Lib.hid h; clear h hr hf
  go_enter Try.func87, Try.ntmps87
  go_wp2
  go_end0
  exact ⟨rfl, ob, .inl rfl, H.out.set2 e0, (Only.refl _ _ _).set _ _⟩

/-- What fits the room is not too much for a slice. -/
def Fits (s : W) (m : Nat) : Prop := (m : Int) ≤ s.room → s.out.length + m ≤ 140737488355328
theorem fits_of {s : W} {m : Nat} (h : s.out.length + m ≤ 140737488355328) : Fits s m := fun _ => h

set_option maxHeartbeats 400000 in
theorem wadd_any (B p : Nat) (ob : Option Nat) (s : W) (xo : Option Addr) (m c : Nat) (bs : List UInt8) (w : World) (h : PWr w B p ob s) (hb : BytesAt w xo m c bs) (hB : B ≤ w.heap.size)
    (hroom : -9223372036854775808 ≤ s.room ∧ s.room ≤ 9223372036854775807) (hsz : Fits s m) :
    Calls Try.prog 88 #[.pointer (some ⟨p, 0, none⟩), .slice xo m c] w (PWPost w B p ob (wAdd s bs)) := by
  obtain ⟨v, h0, h1, h2, hf, ho, hob⟩ := h.cells
  obtain ⟨hbl, hxo, hbc⟩ := hb
  have hf0 := hf 0
  have hf1 := hf 1
  obtain ⟨hr1, hr2⟩ := hroom
  have H := Lib.hid h
  have Hob := Lib.hid hob
  by_cases hlt : s.room < m
  · have hadd := Lib.hid (wAdd_full (s := s) (bs := bs) (by rw [hbl]; exact hlt))
    have CF := fun w h => wfail_any B p ob s 3 w h
    replace CF := Lib.hid CF
    clear hf ho hob hbl hxo hbc h
    go_enter Try.func88, Try.ntmps88
    go_wp2_with fail
    refine (CF.out _ H.out).mono ?_
    rintro e w' ⟨rfl, hpost⟩
    have Hp := Lib.hid hpost; clear hpost
    go_wp2_with fail
    go_end0
    rw [hadd.out]
    exact ⟨rfl, Hp.out⟩
  · have hadd := Lib.hid (wAdd_room (s := s) (bs := bs) (by rw [hbl]; exact hlt))
    have hsz := hsz (by omega)
    have Ho := Lib.hid ho
    have k1 := Lib.hid (show (byV bs).length = m * 1 by rw [byV_len, hbl, Nat.mul_one])
    have k4 := Lib.hid (show s.out.length + m ≤ maxLen by simp only [maxLen]; omega)
    have k5 := Lib.hid (show (s.out.length + m) * 1 ≤ 140737488355328 by omega)
    have hfin : ∀ (v' : Value) (w1 : World), w1.ownsRow B 5 1 v' (s.out.length + m) (byV s.out ++ byV bs) → w.grownBy w1 v.ownBlock → (v'.ownBlock = v.ownBlock ∨ v'.ownBlock = some w.heap.size) →
        PWPost w B p ob (wAdd s bs) (.returned (.tuple #[])) ((w1.setCell ⟨p, 0, none⟩ v').setCell ⟨p, 1, none⟩ (.int .i64 (s.room - m))) ∧ w1.frozen? ⟨p, 0, none⟩ = false ∧ w1.frozen? ⟨p, 1, none⟩ = false ∧ w1.cell? ⟨p, 1, none⟩ = some (.int .i64 s.room) ∧ w1.cell? ⟨p, 0, none⟩ = some v := fun v' w1 hown hgr hat => by
      rw [hob] at hgr hat
      have hat' : v'.ownBlock = ob ∨ ∃ k, v'.ownBlock = some k ∧ w.heap.size ≤ k := by
        rcases hat with h | h
        · exact .inl h
        · exact .inr ⟨_, h, Nat.le_refl _⟩
      have hw1 := h.set0 (out' := s.out ++ bs) hgr (by rw [List.length_append, hbl, byV_append]; exact hown) hat'
      have hp : w1.heap[p]? = w.heap[p]? := hgr.block p h.lt (Ne.symm h.2.1)
      have hp2 := World.cell?_of_block (w := w) (a := ⟨p, 1, none⟩) hp
      have hp3 := fun o => World.frozen?_of_block (w := w) (a := ⟨p, o, none⟩) hp
      refine ⟨⟨rfl, v'.ownBlock, hat', ?_, (((Only.refl _ _ _).grown hgr).set _ _).set _ _⟩, by rw [hp3, hf0], by rw [hp3, hf1], by rw [hp2, h1], by rw [World.cell?_of_block (w := w) (a := ⟨p, 0, none⟩) hp, h0]⟩
      rw [hadd.out, hbl]
      exact hw1.set1 _
    have Hfin := Lib.hid hfin; have Hxo := Lib.hid hxo; have Hbc := Lib.hid hbc
    obtain ⟨ii, hi, hz0, hz1, hz2⟩ := info_parts info_u8
    clear hf ho hob hbl hxo hbc h hfin hadd H Hob
    go_enter Try.func88, Try.ntmps88
    go_wp2_with (refine wpList_append_any_at _ rfl (.tmp 17) (.tmp 18) 137 rfl B 5 ii (.int .u8 0) 1 1 Try.underlying137 hi hz0 hz1 hz2 rfl (by decide) _ s.out.length (byV s.out) rfl Ho.out xo m c (byV bs) rfl k1.out Hxo.out Hbc.out (byV_one bs) k4.out k5.out hB ?_)
    intro v' w1 hown hgr hat
    obtain ⟨g1, g2, g3, g4, g5⟩ := Hfin.out v' w1 hown hgr hat
    obtain ⟨a', c', hv'⟩ := owns_slice hown
    rw [hv'] at g1
    rw [hv']
    have G1 := Lib.hid g1
    clear hv' hown hgr hat g1 Hfin h0 h1 h2 hf0 hf1 Ho Hxo Hbc
    go_wp2_with fail
    go_end0
    exact G1.out
end Go.Proofs.Ytijeieamodjgbab

/- Walks of the program's writer: Byte, Word, Done. -/
namespace Go.Proofs.Ytijeieamodjgbab
set_option maxRecDepth 100000
open Go.RowKit
set_option linter.unusedVariables false

theorem PWPost.pre {w w1 : World} {B p : Nat} {ob : Option Nat} {s : W} {e : Ending} {w' : World} (hb : Below w.heap.size w w1) (h : PWPost w1 B p ob s e w') : PWPost w B p ob s e w' := by
  obtain ⟨rfl, ob', ho, h1, h2⟩ := h
  refine ⟨rfl, ob', ?_, h1, (Only.of_below hb).trans h2 (.inl rfl)⟩
  rcases ho with ho | ⟨k, hk, hl⟩
  · exact .inl ho
  · exact .inr ⟨k, hk, Nat.le_trans hb.size hl⟩

theorem bytes_new (w : World) (bs : List UInt8) (vs : Array Value) (hv : vs = (byV bs).toArray) : BytesAt (w.alloc (.cells vs 5)) (some ⟨w.heap.size, 0, none⟩) bs.length bs.length bs := by
  subst hv
  refine ⟨rfl, fun h => by (cases h), fun ad had j u hu => ?_⟩
  injection had with had
  subst had
  rw [Addr.add_lit, World.cell?_alloc_at _ _ _ _ rfl]
  simpa using hu

theorem be1 {n : Int} (h0 : 0 ≤ n) (h1 : n ≤ 255) : byV (beN n.toNat 1) = [.int .u8 n] := by
  simp [byV, beN]; omega
theorem be2 {n : Int} (h0 : 0 ≤ n) (h1 : n ≤ 65535) : byV (beN n.toNat 2) = [.int .u8 (n / 256), .int .u8 (n % 256)] := by
  simp [byV, beN]; omega

/-- What a writer's call asks: room that is an int, and not too many bytes. -/
def WOk (s : W) : Prop := (-9223372036854775808 ≤ s.room ∧ s.room ≤ 9223372036854775807) ∧ -9223372036854775808 ≤ s.err ∧ s.err ≤ 9223372036854775807

set_option maxHeartbeats 400000 in
theorem wbyte_any (B p : Nat) (ob : Option Nat) (s : W) (n : Int) (w : World) (h : PWr w B p ob s) (hB : B ≤ w.heap.size) (hok : WOk s) (hsz : Fits s 1) (hn : i64 n) :
    Calls Try.prog 56 #[.pointer (some ⟨p, 0, none⟩), .int .i64 n] w (PWPost w B p ob (wPut s (decide (0 ≤ n ∧ n ≤ 255)) (beN n.toNat 1))) := by
  obtain ⟨v, h0, h1, h2, hf, ho, hob⟩ := h.cells
  have H := Lib.hid h
  clear hf ho hob h h0 h1
  obtain ⟨hn1, hn2⟩ := hn
  cases he : s.err == 0 with
  | false =>
    have hput := Lib.hid (wPut_err (s := s) (by simpa using he) (decide (0 ≤ n ∧ n ≤ 255)) (beN n.toNat 1))
    have he2 : (s.err != 0) = true := by simp [bne, he]
    go_enter Try.func56, Try.ntmps56
    go_wp2_with fail
    go_end0
    rw [hput.out]
    exact ⟨rfl, ob, .inl rfl, H.out, Only.refl _ _ _⟩
  | true =>
    have he0 : s.err = 0 := by simpa using he
    have he2 : (s.err != 0) = false := by simp [bne, he]
    have CF := Lib.hid (fun w h => wfail_any B p ob s 4 w h)
    by_cases hlo : n < 0
    · have hput := Lib.hid (show wPut s (decide (0 ≤ n ∧ n ≤ 255)) (beN n.toNat 1) = ⟨s.out, s.room, 4⟩ by
        rw [show decide (0 ≤ n ∧ n ≤ 255) = false by simp; omega, wPut_bad he0])
      clear he0 he
      go_enter Try.func56, Try.ntmps56
      go_wp2_with fail
      refine (CF.out _ H.out).mono ?_
      rintro e w' ⟨rfl, hpost⟩
      have Hp := Lib.hid hpost; clear hpost
      go_wp2_with fail
      go_end0
      rw [hput.out]
      exact ⟨rfl, Hp.out⟩
    · by_cases hhi : 255 < n
      · have hput := Lib.hid (show wPut s (decide (0 ≤ n ∧ n ≤ 255)) (beN n.toNat 1) = ⟨s.out, s.room, 4⟩ by
          rw [show decide (0 ≤ n ∧ n ≤ 255) = false by simp; omega, wPut_bad he0])
        clear he0 he
        go_enter Try.func56, Try.ntmps56
        go_wp2_with fail
        refine (CF.out _ H.out).mono ?_
        rintro e w' ⟨rfl, hpost⟩
        have Hp := Lib.hid hpost; clear hpost
        go_wp2_with fail
        go_end0
        rw [hput.out]
        exact ⟨rfl, Hp.out⟩
      · have hput := Lib.hid (show wPut s (decide (0 ≤ n ∧ n ≤ 255)) (beN n.toNat 1) = wAdd s (beN n.toNat 1) by
          rw [show decide (0 ≤ n ∧ n ≤ 255) = true by simp; omega, wPut_ok he0])
        have hb := bytes_new w (beN n.toNat 1) #[.int .u8 n] (by rw [be1 (by omega) (by omega)])
        rw [beN_len] at hb
        have CA := wadd_any B p ob s _ 1 1 (beN n.toNat 1) _ (H.out.below (below_alloc w _)) hb (by simp; omega) hok.1 hsz
        replace CA := Lib.hid CA
        have Hput := hput
        clear he0 he CF hb
        go_enter Try.func56, Try.ntmps56
        go_wp2_with fail
        refine CA.out.mono ?_
        intro e w' hpost
        replace hpost := PWPost.pre (below_alloc w _) hpost
        obtain ⟨rfl, hpost⟩ := hpost
        have Hp := Lib.hid hpost; clear hpost
        go_wp2_with fail
        go_end0
        rw [hput.out]
        exact ⟨rfl, Hp.out⟩
end Go.Proofs.Ytijeieamodjgbab

/- Walks of the program's writer: Word, Done. -/
namespace Go.Proofs.Ytijeieamodjgbab
set_option maxRecDepth 100000
open Go.RowKit
set_option linter.unusedVariables false

set_option maxHeartbeats 400000 in
theorem wword_any (B p : Nat) (ob : Option Nat) (s : W) (n : Int) (w : World) (h : PWr w B p ob s) (hB : B ≤ w.heap.size) (hok : WOk s) (hsz : Fits s 2) (hn : i64 n) :
    Calls Try.prog 57 #[.pointer (some ⟨p, 0, none⟩), .int .i64 n] w (PWPost w B p ob (wPut s (decide (0 ≤ n ∧ n ≤ 65535)) (beN n.toNat 2))) := by
  obtain ⟨v, h0, h1, h2, hf, ho, hob⟩ := h.cells
  have H := Lib.hid h
  clear hf ho hob h h0 h1
  obtain ⟨hn1, hn2⟩ := hn
  cases he : s.err == 0 with
  | false =>
    have hput := Lib.hid (wPut_err (s := s) (by simpa using he) (decide (0 ≤ n ∧ n ≤ 65535)) (beN n.toNat 2))
    have he2 : (s.err != 0) = true := by simp [bne, he]
    go_enter Try.func57, Try.ntmps57
    go_wp2_with fail
    go_end0
    rw [hput.out]
    exact ⟨rfl, ob, .inl rfl, H.out, Only.refl _ _ _⟩
  | true =>
    have he0 : s.err = 0 := by simpa using he
    have he2 : (s.err != 0) = false := by simp [bne, he]
    have CF := Lib.hid (fun w h => wfail_any B p ob s 4 w h)
    by_cases hlo : n < 0
    · have hput := Lib.hid (show wPut s (decide (0 ≤ n ∧ n ≤ 65535)) (beN n.toNat 2) = ⟨s.out, s.room, 4⟩ by
        rw [show decide (0 ≤ n ∧ n ≤ 65535) = false by simp; omega, wPut_bad he0])
      clear he0 he
      go_enter Try.func57, Try.ntmps57
      go_wp2_with fail
      refine (CF.out _ H.out).mono ?_
      rintro e w' ⟨rfl, hpost⟩
      have Hp := Lib.hid hpost; clear hpost
      go_wp2_with fail
      go_end0
      rw [hput.out]
      exact ⟨rfl, Hp.out⟩
    · by_cases hhi : 65535 < n
      · have hput := Lib.hid (show wPut s (decide (0 ≤ n ∧ n ≤ 65535)) (beN n.toNat 2) = ⟨s.out, s.room, 4⟩ by
          rw [show decide (0 ≤ n ∧ n ≤ 65535) = false by simp; omega, wPut_bad he0])
        clear he0 he
        go_enter Try.func57, Try.ntmps57
        go_wp2_with fail
        refine (CF.out _ H.out).mono ?_
        rintro e w' ⟨rfl, hpost⟩
        have Hp := Lib.hid hpost; clear hpost
        go_wp2_with fail
        go_end0
        rw [hput.out]
        exact ⟨rfl, Hp.out⟩
      · have hput := Lib.hid (show wPut s (decide (0 ≤ n ∧ n ≤ 65535)) (beN n.toNat 2) = wAdd s (beN n.toNat 2) by
          rw [show decide (0 ≤ n ∧ n ≤ 65535) = true by simp; omega, wPut_ok he0])
        have hb := bytes_new w (beN n.toNat 2) #[.int .u8 (n / 256), .int .u8 (n % 256)] (by rw [be2 (by omega) (by omega)])
        rw [beN_len] at hb
        have CA := wadd_any B p ob s _ 2 2 (beN n.toNat 2) _ (H.out.below (below_alloc w _)) hb (by simp; omega) hok.1 hsz
        replace CA := Lib.hid CA
        have Hput := hput
        clear he0 he CF hb
        go_enter Try.func57, Try.ntmps57
        go_wp2_with fail
        refine CA.out.mono ?_
        intro e w' hpost
        replace hpost := PWPost.pre (below_alloc w _) hpost
        obtain ⟨rfl, hpost⟩ := hpost
        have Hp := Lib.hid hpost; clear hpost
        go_wp2_with fail
        go_end0
        rw [hput.out]
        exact ⟨rfl, Hp.out⟩
set_option maxRecDepth 100000 in
/-- The bytes of an owned row, as a string. -/
theorem conv_owns {w : World} {B : Nat} {a : Option Addr} {n c : Nat} {out : List UInt8} (h : w.ownsRow B 5 1 (.slice a n c) out.length (byV out)) :
    (convert 137 9 (.slice a n c)).run Try.prog w = .ok (.string ⟨out.toArray⟩) w := by
  rcases h.2 with ⟨he, h0⟩ | ⟨g, cap, cur, he, hB, hg, _, _, _, _⟩
  · injection he with h1 h2 h3
    subst h1 h2 h3
    obtain rfl : out = [] := List.eq_nil_of_length_eq_zero h0
    exact run_convert_bytes_nil w 137 5 Try.underlying137 Try.underlying5 0 0 9 Try.underlying9
  · injection he with h1 h2 h3
    subst h1 h2 h3
    have hc := run_convert_bytes_arg w 137 5 Try.underlying137 Try.underlying5 g 0 out.length c (out.map fun b => (b.toNat : Int)) (by simp) (fun i hi => by
      have := h.cells (g := g) rfl i (.int .u8 (out[i]).toNat) (by simp [byV, hi])
      rw [Addr.add_lit] at this
      rw [this]; simp [List.getD, hi]) 9 Try.underlying9
    rw [hc]
    congr 2
    simp [strOfNums]
    apply List.ext_getElem <;> simp

def doneS (s : W) : ByteArray := if s.err = 0 then ⟨s.out.toArray⟩ else ⟨#[]⟩

set_option maxHeartbeats 400000 in
theorem wdone_any (B p : Nat) (ob : Option Nat) (s : W) (w : World) (h : PWr w B p ob s) :
    Calls Try.prog 64 #[.pointer (some ⟨p, 0, none⟩)] w fun e w' => e = .returned (.tuple #[.string (doneS s), .int .i64 s.err]) ∧ Below w.heap.size w w' := by
  obtain ⟨v, h0, h1, h2, hf, ho, hob⟩ := h.cells
  cases he : s.err == 0 with
  | false =>
    have he2 : (s.err != 0) = true := by simp [bne, he]
    have hd := Lib.hid (show doneS s = ⟨#[]⟩ by rw [doneS, if_neg (by simpa using he)])
    clear hf ho hob h h0 h1
    go_enter Try.func64, Try.ntmps64
    go_wp2_with fail
    go_quiet (fail)
    go_wp2_with fail
    go_ret2
    exact ⟨by rw [hd.out]; rfl, below_drewN (Below.refl _ _) _⟩
  | true =>
    have he0 : s.err = 0 := by simpa using he
    have he2 : (s.err != 0) = false := by simp [bne, he]
    have hd := Lib.hid (show doneS s = ⟨s.out.toArray⟩ by rw [doneS, if_pos he0])
    have He := Lib.hid he0
    obtain ⟨a, c, rfl⟩ := owns_slice ho
    have hconv := conv_owns ho
    clear hf ho hob h h1 he0
    go_enter Try.func64, Try.ntmps64
    go_wp2_with fail
    go_ret2
    exact ⟨by rw [hd.out, He.out]; rfl, Below.refl _ _⟩
end Go.Proofs.Ytijeieamodjgbab

/- Walks of the reference's writer: put, big. -/
namespace Go.Proofs.Ytijeieamodjgbab
set_option maxRecDepth 100000
open Go.RowKit
set_option linter.unusedVariables false

/-- The reference's writer in memory: its limit stands where the program has its room. -/
def RWr (w : World) (B p : Nat) (ob : Option Nat) (s : W) : Prop := WAt 139 5 w B p ob s.out (s.room + s.out.length) s.err
def RWPost (w : World) (B p : Nat) (ob : Option Nat) (s : W) (e : Ending) (w' : World) : Prop :=
  e = .returned (.tuple #[]) ∧ ∃ ob', (ob' = ob ∨ ∃ k, ob' = some k ∧ w.heap.size ≤ k) ∧ RWr w' B p ob' s ∧ Only p ob w w'
theorem RWPost.pre {w w1 : World} {B p : Nat} {ob : Option Nat} {s : W} {e : Ending} {w' : World} (hb : Below w.heap.size w w1) (h : RWPost w1 B p ob s e w') : RWPost w B p ob s e w' := by
  obtain ⟨rfl, ob', ho, h1, h2⟩ := h
  refine ⟨rfl, ob', ?_, h1, (Only.of_below hb).trans h2 (.inl rfl)⟩
  rcases ho with ho | ⟨k, hk, hl⟩
  · exact .inl ho
  · exact .inr ⟨k, hk, Nat.le_trans hb.size hl⟩

set_option maxHeartbeats 1000000 in
theorem rput_any (B p : Nat) (ob : Option Nat) (s : W) (xo : Option Addr) (m c : Nat) (bs : List UInt8) (right : Bool) (w : World) (h : RWr w B p ob s) (hb : BytesAt w xo m c bs) (hB : B ≤ w.heap.size)
    (hroom : 0 ≤ s.room ∧ s.room + s.out.length ≤ 9223372036854775807) (hsz : s.out.length + m ≤ 140737488355328) :
    Calls Try.prog 74 #[.pointer (some ⟨p, 0, none⟩), .slice xo m c, .bool right] w (RWPost w B p ob (wPut s right bs)) := by
  obtain ⟨v, h0, h1, h2, hf, ho, hob⟩ := h.cells
  obtain ⟨hbl, hxo, hbc⟩ := hb
  have hf0 := hf 0
  have hf2 := hf 2
  obtain ⟨hr1, hr2⟩ := hroom
  have H := Lib.hid h
  cases he : s.err == 0 with
  | false =>
    have hput := Lib.hid (wPut_err (s := s) (by simpa using he) right bs)
    have he2 : (s.err != 0) = true := by simp [bne, he]
    clear hf ho hob h h0 h1 hbl hxo hbc
    go_enter Try.func74, Try.ntmps74
    go_wp2_with fail
    go_end0
    rw [hput.out]
    exact ⟨rfl, ob, .inl rfl, H.out, Only.refl _ _ _⟩
  | true =>
    have he0 : s.err = 0 := by simpa using he
    have he2 : (s.err != 0) = false := by simp [bne, he]
    cases right with
    | false =>
      have hput := Lib.hid (wPut_bad he0 bs)
      clear hf ho hob h h0 h1 hbl hxo hbc he0 he
      go_enter Try.func74, Try.ntmps74
      go_wp2_with fail
      go_end0
      rw [hput.out]
      exact ⟨rfl, ob, .inl rfl, H.out.set2 4, (Only.refl _ _ _).set _ _⟩
    | true =>
      obtain ⟨a, cv, hv⟩ := owns_slice ho
      rw [hv] at h0 ho hob
      obtain ⟨X, hX⟩ : ∃ X, X = s.room + (s.out.length : Int) := ⟨_, rfl⟩
      have hwr : IntKind.i64.wrap (X - (s.out.length : Int)) = X - (s.out.length : Int) := IntWalk.i64_in _ (by omega)
      rw [← hX] at h1
      by_cases hlt : s.room < m
      · have hput := Lib.hid (show wPut s true bs = ⟨s.out, s.room, 3⟩ by rw [wPut_ok he0, wAdd_full (by rw [hbl]; exact hlt)])
        have hd : X - (s.out.length : Int) < (m : Int) := by omega
        have hd2 : decide (X - (s.out.length : Int) < (m : Int)) = true := by simpa using hd
        clear hf ho hob h hbl hxo hbc he0 he hX hv
        go_enter Try.func74, Try.ntmps74
        go_wp2_with fail
        go_quiet (fail)
        go_wp2_with fail
        go_end0
        rw [hput.out]
        exact ⟨rfl, ob, .inl rfl, (H.out.below (below_drewN (Below.refl _ _) nq)).set2 3, (Only.of_below (below_drewN (Below.refl _ _) nq)).set _ _⟩
      · have hadd := Lib.hid (show wPut s true bs = ⟨s.out ++ bs, s.room - bs.length, s.err⟩ by rw [wPut_ok he0, wAdd_room (by rw [hbl]; exact hlt)])
        have hd2 : decide (X - (s.out.length : Int) < (m : Int)) = false := by simp; omega
        have Ho := Lib.hid ho
        have k1 := Lib.hid (show (byV bs).length = m * 1 by rw [byV_len, hbl, Nat.mul_one])
        have k4 := Lib.hid (show s.out.length + m ≤ maxLen by simp only [maxLen]; omega)
        have k5 := Lib.hid (show (s.out.length + m) * 1 ≤ 140737488355328 by omega)
        have hfin : ∀ (q : Nat) (v' : Value) (w1 : World), w1.ownsRow B 5 1 v' (s.out.length + m) (byV s.out ++ byV bs) → (w.drewN q).grownBy w1 (Value.ownBlock (.slice a s.out.length cv)) → (v'.ownBlock = Value.ownBlock (.slice a s.out.length cv) ∨ v'.ownBlock = some (w.drewN q).heap.size) →
            RWPost w B p ob (wPut s true bs) (.returned (.tuple #[])) (w1.setCell ⟨p, 0, none⟩ v') ∧ w1.frozen? ⟨p, 0, none⟩ = false ∧ w1.cell? ⟨p, 0, none⟩ = some (.slice a s.out.length cv) := fun q v' w1 hown hgr hat => by
          rw [hob] at hgr hat
          have hat' : v'.ownBlock = ob ∨ ∃ k, v'.ownBlock = some k ∧ w.heap.size ≤ k := by
            rcases hat with h | h
            · exact .inl h
            · exact .inr ⟨_, h, Nat.le_refl _⟩
          have hq := h.below (below_drewN (Below.refl _ _) q)
          have hw1 := hq.set0 (out' := s.out ++ bs) hgr (by rw [List.length_append, hbl, byV_append]; exact hown) hat'
          have hp : w1.heap[p]? = w.heap[p]? := hgr.block p h.lt (Ne.symm h.2.1)
          refine ⟨⟨rfl, v'.ownBlock, hat', ?_, ((Only.of_below (below_drewN (Below.refl _ _) q)).grown hgr).set _ _⟩, by rw [World.frozen?_of_block (w := w) (a := ⟨p, 0, none⟩) hp, hf0], by rw [World.cell?_of_block (w := w) (a := ⟨p, 0, none⟩) hp, h0]⟩
          rw [hadd.out]
          unfold RWr
          have e1 : s.room - (bs.length : Int) + ((s.out ++ bs).length : Int) = s.room + (s.out.length : Int) := by rw [List.length_append]; omega
          rw [e1]
          exact hw1
        have Hfin := Lib.hid hfin; have Hxo := Lib.hid hxo; have Hbc := Lib.hid hbc
        obtain ⟨ii, hi, hz0, hz1, hz2⟩ := info_parts info_u8
        clear hf ho hob hbl hxo hbc h hfin hadd H he0 he hX hv
        go_enter Try.func74, Try.ntmps74
        go_wp2_with fail
        go_quiet (fail)
        go_wp2_with (refine wpList_append_any_at _ rfl (.tmp 36) (.tmp 37) 137 rfl B 5 ii (.int .u8 0) 1 1 Try.underlying137 hi hz0 hz1 hz2 rfl (by decide) _ s.out.length (byV s.out) rfl (owns_below Ho.out (below_drewN (Below.refl _ _) nq)) xo m c (byV bs) rfl k1.out Hxo.out Hbc.out (byV_one bs) k4.out k5.out hB ?_)
        intro v' w1 hown hgr hat
        obtain ⟨g1, g2, g3⟩ := Hfin.out _ v' w1 hown hgr hat
        obtain ⟨a', c', hv'⟩ := owns_slice hown
        rw [hv'] at g1
        rw [hv']
        have G1 := Lib.hid g1
        clear hv' hown hgr hat g1 Hfin h0 h1 h2 hf0 hf2 Ho Hxo Hbc
        go_wp2_with fail
        go_end0
        exact G1.out
end Go.Proofs.Ytijeieamodjgbab

/- Walks of the reference's writer: big, Num, Done, New. -/
namespace Go.Proofs.Ytijeieamodjgbab
set_option maxRecDepth 100000
open Go.RowKit
set_option linter.unusedVariables false

theorem beN_succ : ∀ (k n : Nat), beN n (k + 1) = UInt8.ofNat (n / 256 ^ k % 256) :: beN n k
  | 0, n => by simp [beN]
  | k + 1, n => by
    rw [beN, beN_succ k (n / 256), Nat.div_div_eq_div_mul, ← Nat.pow_succ', beN]; rfl

set_option maxHeartbeats 400000 in
theorem big_own (n : Nat) (width : Nat) (w : World) (hn : n ≤ 18446744073709551615) (hw : width ≤ 8) :
    Calls Try.prog 75 #[.int .u64 n, .int .i64 width] w fun e w' => e = .returned (.slice (some ⟨w.heap.size, 0, none⟩) width width) ∧ w'.heap[w.heap.size]? = some (.cells (byV (beN n width)).toArray 5 (0, 0)) ∧ Below w.heap.size w w' := by
  obtain ⟨ii, hi, hz0, hz1, hz2⟩ := info_parts info_u8
  go_enter Try.func75, Try.ntmps75
  go_wp2_with (at_make; refine wpList_make_full _ rfl _ _ 137 rfl w.heap.size 5 ii (.int .u8 0) 1 Try.underlying137 hi hz0 hz1 _ _ _ _ width rfl rfl (by omega) (by omega) ?b1 ?b2 ?b3 ?_)
  case b1 => rw [hz2]; omega
  case b2 => simp only [maxLen]; omega
  case b3 => exact Nat.le_refl _
  intro w1 hown hgr
  have hb1 : Below w.heap.size w w1 := grown_below_none hgr
  obtain ⟨hg, _, _⟩ := owns_whole hown
  have hZ : (madeCells #[Value.int .u8 0] width).toList = List.replicate width (Value.int .u8 0) ++ byV (beN n 0) := by
    rw [toList_madeCells_one]; simp [beN, byV]
  rw [hZ] at hg
  have Hg := Lib.hid hg; have Hb := Lib.hid hb1
  clear hown hgr hg hb1 hZ
  go_wp2_with fail
  go_loopw [0, 6] (fun m i wr => ∃ k : Nat, k ≤ width ∧ i = .int .i64 ((width : Int) - 1 - k) ∧ m = .int .u64 ((n / 256 ^ k : Nat) : Int) ∧ Hid (wr.heap[w.heap.size]? = some (.cells (List.replicate (width - k) (Value.int .u8 0) ++ byV (beN n k)).toArray 5 (0, 0))) ∧ Hid (Below w.heap.size w wr)) (fun _ i _ => (intOf i + 1).toNat)
  case atStart => exact ⟨0, by omega, by go_num, by simp, Hg, Hb⟩
  case round =>
    clear Hg Hb
    obtain ⟨k, hk, rfl, rfl, Hg, Hb⟩ := hrel
    by_cases hlt : k < width
    · obtain ⟨j, rfl⟩ : ∃ j, width = k + 1 + j := ⟨width - (k + 1), by omega⟩
      have ei : ((k + 1 + j : Nat) : Int) - 1 - (k : Int) = (j : Int) := by omega
      rw [ei]
      have hcur := Hg.out
      rw [show k + 1 + j - k = j + 1 by omega] at hcur
      have hcell : wr.cell? ⟨w.heap.size, j, none⟩ = some (.int .u8 0) := by
        rw [blk_cell hcur]
        simp [List.getElem?_append_left]
      have hfr := blk_frozen hcur j
      have hset := blk_set hcur j (.int .u8 ((n / 256 ^ k % 256 : Nat) : Int))
      have e2 : (List.replicate (j + 1) (Value.int .u8 0) ++ byV (beN n k)).toArray.setIfInBounds j (.int .u8 ((n / 256 ^ k % 256 : Nat) : Int)) = (List.replicate (k + 1 + j - (k + 1)) (Value.int .u8 0) ++ byV (beN n (k + 1))).toArray := by
        rw [show k + 1 + j - (k + 1) = j by omega, beN_succ, List.setIfInBounds_toArray]
        congr 1
        rw [List.replicate_succ', List.append_assoc, List.set_append_right _ _ (by simp)]
        simp [byV]
      rw [e2] at hset
      have hm : n / 256 ^ k ≤ 18446744073709551615 := Nat.le_trans (Nat.div_le_self _ _) hn
      have hdiv : n / 256 ^ (k + 1) = n / 256 ^ k / 256 := by rw [Nat.pow_succ, Nat.div_div_eq_div_mul]
      rw [show ((n / 256 ^ k % 256 : Nat) : Int) = ((n / 256 ^ k : Nat) : Int) % 256 by omega] at hset
      have Hset := Lib.hid hset
      have Hdiv := Lib.hid hdiv
      clear hcur hset e2 ei hdiv
      generalize n / 256 ^ k = m at *
      go_wp2_with fail
      go_roundw
      case rel => exact ⟨k + 1, by omega, congrArg (Value.int .i64) (by omega), by rw [Hdiv.out]; rfl, Hset, Lib.hid (Hb.out.setCell (Nat.le_refl _) _)⟩
      case measure => simp [intOf]
    · obtain rfl : k = width := by omega
      have ei : (k : Int) - 1 - k = -1 := by omega
      rw [ei]
      have hcur := Hg.out
      rw [Nat.sub_self, List.replicate_zero, List.nil_append] at hcur
      have Hcur := Lib.hid hcur
      clear hcur ei Hg
      go_wp2_with fail
      go_ret
      exact ⟨rfl, Hcur.out, Hb.out⟩
theorem big_any (n : Nat) (width : Nat) (w : World) (hn : n ≤ 18446744073709551615) (hw : width ≤ 8) :
    Calls Try.prog 75 #[.int .u64 n, .int .i64 width] w fun e w' => e = .returned (.slice (some ⟨w.heap.size, 0, none⟩) width width) ∧ BytesAt w' (some ⟨w.heap.size, 0, none⟩) width width (beN n width) ∧ Below w.heap.size w w' :=
  (big_own n width w hn hw).mono fun e w' ⟨he, hk, hb⟩ => ⟨he, ⟨beN_len _ _, fun h => by (cases h), fun ad had j u hu => by
      injection had with had
      subst had
      rw [Addr.add_lit, blk_cell hk, Nat.zero_add]
      simpa using hu⟩, hb⟩

theorem pow4 (k : Nat) (h : k ≤ 4) : ((256 ^ k : Nat) : Int) ≤ 4294967296 := by
  have : k = 0 ∨ k = 1 ∨ k = 2 ∨ k = 3 ∨ k = 4 := by omega
  rcases this with rfl | rfl | rfl | rfl | rfl <;> decide

set_option maxHeartbeats 1000000 in
theorem rnum_any (B p : Nat) (ob : Option Nat) (s : W) (n : Int) (width : Nat) (w : World) (h : RWr w B p ob s) (hB : B ≤ w.heap.size) (hwd : width ≤ 4) (hn : i64 n)
    (hroom : 0 ≤ s.room ∧ s.room + s.out.length ≤ 9223372036854775807) (hsz : s.out.length + width ≤ 140737488355328) :
    Calls Try.prog 44 #[.pointer (some ⟨p, 0, none⟩), .int .i64 n, .int .i64 width] w (RWPost w B p ob (wPut s (decide (0 ≤ n ∧ n < ((256 ^ width : Nat) : Int))) (beN n.toNat width))) := by
  have H := Lib.hid h; clear h
  obtain ⟨hn1, hn2⟩ := hn
  have Hroom := Lib.hid hroom; clear hroom
  go_enter Try.func44, Try.ntmps44
  go_wp2_with fail
  go_loop [6, 7] (fun m i => ∃ k : Nat, k ≤ width ∧ i = .int .i64 k ∧ m = .int .i64 ((256 ^ k : Nat) : Int)) (fun _ i => width - (intOf i).toNat)
  case atStart => exact ⟨0, by omega, rfl, rfl⟩
  case round =>
    obtain ⟨k, hk, rfl, rfl⟩ := hrel
    by_cases hlt : k < width
    · have hp := pow4 k (by omega)
      have hp0 : (0 : Int) ≤ ((256 ^ k : Nat) : Int) := Int.natCast_nonneg _
      have hs := Lib.hid (show ((256 ^ (k + 1) : Nat) : Int) = ((256 ^ k : Nat) : Int) * 256 by rw [Nat.pow_succ]; omega)
      generalize hP : ((256 ^ k : Nat) : Int) = P at *
      clear hP
      go_wp2_with fail
      go_round
      case rel => exact ⟨k + 1, by omega, by go_num, by rw [hs.out]⟩
      case measure => simp [intOf]; omega
    · obtain rfl : k = width := by omega
      have hp := pow4 k hwd
      generalize hP : ((256 ^ k : Nat) : Int) = P at *
      by_cases h0 : n < 0
      · have hd := Lib.hid (show decide (0 ≤ n ∧ n < P) = false by simp; omega)
        have CP := Lib.hid (rput_any B p ob s none 0 0 [] false w H.out ⟨rfl, fun _ => ⟨rfl, rfl⟩, fun ad h => by (cases h)⟩ hB Hroom.out (by omega))
        have hpe : ∀ bs, wPut s false bs = wPut s false [] := fun bs => by unfold wPut; split <;> rfl
        have Hpe := Lib.hid hpe
        clear hP hpe
        go_wp2_with fail
        refine CP.out.mono ?_
        rintro e w' ⟨rfl, hpost⟩
        have Hp := Lib.hid hpost; clear hpost
        go_wp2_with fail
        go_end0
        rw [hd.out, Hpe.out]
        exact ⟨rfl, Hp.out⟩
      · by_cases h1 : P ≤ n
        · have hd := Lib.hid (show decide (0 ≤ n ∧ n < P) = false by simp; omega)
          have CP := Lib.hid (rput_any B p ob s none 0 0 [] false w H.out ⟨rfl, fun _ => ⟨rfl, rfl⟩, fun ad h => by (cases h)⟩ hB Hroom.out (by omega))
          have hpe : ∀ bs, wPut s false bs = wPut s false [] := fun bs => by unfold wPut; split <;> rfl
          have Hpe := Lib.hid hpe
          clear hP hpe
          go_wp2_with fail
          refine CP.out.mono ?_
          rintro e w' ⟨rfl, hpost⟩
          have Hp := Lib.hid hpost; clear hpost
          go_wp2_with fail
          go_end0
          rw [hd.out, Hpe.out]
          exact ⟨rfl, Hp.out⟩
        · have hd := Lib.hid (show decide (0 ≤ n ∧ n < P) = true by simp; omega)
          obtain ⟨N, rfl⟩ := Int.eq_ofNat_of_zero_le (show 0 ≤ n by omega)
          have CB := Lib.hid (big_any N k w (by omega) (by omega))
          have CP := Lib.hid (fun w' hw h hB => rput_any B p ob s (some ⟨w.heap.size, 0, none⟩) k k (beN N k) true w' hw h hB Hroom.out hsz)
          clear hP
          go_wp2_with fail
          refine CB.out.mono ?_
          rintro e w' ⟨rfl, hb, hbel⟩
          have Hb := Lib.hid hb; have Hbel := Lib.hid hbel
          clear hb hbel
          go_wp2_with fail
          refine (CP.out _ (H.out.below Hbel.out) Hb.out (Nat.le_trans hB Hbel.out.size)).mono ?_
          intro e w2 hpost
          replace hpost := RWPost.pre Hbel.out hpost
          obtain ⟨rfl, hpost⟩ := hpost
          have Hp := Lib.hid hpost; clear hpost
          go_wp2_with fail
          go_end0
          rw [hd.out, Int.toNat_natCast]
          exact ⟨rfl, Hp.out⟩

set_option maxHeartbeats 400000 in
theorem rnew_any (limit : Int) (w : World) :
    Calls Try.prog 43 #[.int .i64 limit] w fun e w' => e = .returned (.pointer (some ⟨w.heap.size, 0, none⟩)) ∧ RWr w' w.heap.size w.heap.size none (wNew limit) ∧ Below w.heap.size w w' := by
  by_cases h : limit < 0
  · have hm := Lib.hid (show max limit 0 = 0 by omega)
    go_enter Try.func43, Try.ntmps43
    go_wp2
    go_ret
    refine ⟨rfl, ?_, below_alloc w _⟩
    have := WAt.made w 139 5 0
    simpa [RWr, wNew, hm.out] using this
  · have hm := Lib.hid (show max limit 0 = limit by omega)
    go_enter Try.func43, Try.ntmps43
    go_wp2
    go_ret
    refine ⟨rfl, ?_, below_alloc w _⟩
    have := WAt.made w 139 5 limit
    simpa [RWr, wNew, hm.out] using this

set_option maxHeartbeats 400000 in
theorem rdone_any (B p : Nat) (ob : Option Nat) (s : W) (w : World) (h : RWr w B p ob s) :
    Calls Try.prog 48 #[.pointer (some ⟨p, 0, none⟩)] w fun e w' => e = .returned (.tuple #[.string (doneS s), .int .i64 s.err]) ∧ Below w.heap.size w w' := by
  obtain ⟨v, h0, h1, h2, hf, ho, hob⟩ := h.cells
  cases he : s.err == 0 with
  | false =>
    have he2 : (s.err != 0) = true := by simp [bne, he]
    have hd := Lib.hid (show doneS s = ⟨#[]⟩ by rw [doneS, if_neg (by simpa using he)])
    clear hf ho hob h h0 h1
    go_enter Try.func48, Try.ntmps48
    go_wp2_with fail
    go_quiet (fail)
    go_wp2_with fail
    go_ret2
    exact ⟨by rw [hd.out]; rfl, below_drewN (Below.refl _ _) _⟩
  | true =>
    have he0 : s.err = 0 := by simpa using he
    have he2 : (s.err != 0) = false := by simp [bne, he]
    have hd := Lib.hid (show doneS s = ⟨s.out.toArray⟩ by rw [doneS, if_pos he0])
    have He := Lib.hid he0
    obtain ⟨a, c, rfl⟩ := owns_slice ho
    have hconv := conv_owns ho
    clear hf ho hob h h1 he0
    go_enter Try.func48, Try.ntmps48
    go_wp2_with fail
    go_ret2
    exact ⟨by rw [hd.out, He.out]; rfl, Below.refl _ _⟩
end Go.Proofs.Ytijeieamodjgbab

/- Walks of the program's writer: Long, Bits, Text. -/
namespace Go.Proofs.Ytijeieamodjgbab
set_option maxRecDepth 100000
open Go.RowKit
set_option linter.unusedVariables false

theorem be4 {n : Int} (h0 : 0 ≤ n) (h1 : n ≤ 4294967295) : byV (beN n.toNat 4) = [.int .u8 (n / 16777216), .int .u8 (n / 65536 % 256), .int .u8 (n / 256 % 256), .int .u8 (n % 256)] := by
  simp [byV, beN]; omega

set_option maxHeartbeats 400000 in
theorem wlong_any (B p : Nat) (ob : Option Nat) (s : W) (n : Int) (w : World) (h : PWr w B p ob s) (hB : B ≤ w.heap.size) (hok : WOk s) (hsz : Fits s 4) (hn : i64 n) :
    Calls Try.prog 80 #[.pointer (some ⟨p, 0, none⟩), .int .i64 n] w (PWPost w B p ob (wPut s (decide (0 ≤ n ∧ n ≤ 4294967295)) (beN n.toNat 4))) := by
  obtain ⟨v, h0, h1, h2, hf, ho, hob⟩ := h.cells
  have H := Lib.hid h
  clear hf ho hob h h0 h1
  obtain ⟨hn1, hn2⟩ := hn
  cases he : s.err == 0 with
  | false =>
    have hput := Lib.hid (wPut_err (s := s) (by simpa using he) (decide (0 ≤ n ∧ n ≤ 4294967295)) (beN n.toNat 4))
    have he2 : (s.err != 0) = true := by simp [bne, he]
    go_enter Try.func80, Try.ntmps80
    go_wp2_with fail
    go_end0
    rw [hput.out]
    exact ⟨rfl, ob, .inl rfl, H.out, Only.refl _ _ _⟩
  | true =>
    have he0 : s.err = 0 := by simpa using he
    have he2 : (s.err != 0) = false := by simp [bne, he]
    have CF := Lib.hid (fun w h => wfail_any B p ob s 4 w h)
    by_cases hlo : n < 0
    · have hput := Lib.hid (show wPut s (decide (0 ≤ n ∧ n ≤ 4294967295)) (beN n.toNat 4) = ⟨s.out, s.room, 4⟩ by
        rw [show decide (0 ≤ n ∧ n ≤ 4294967295) = false by simp; omega, wPut_bad he0])
      clear he0 he
      go_enter Try.func80, Try.ntmps80
      go_wp2_with fail
      refine (CF.out _ H.out).mono ?_
      rintro e w' ⟨rfl, hpost⟩
      have Hp := Lib.hid hpost; clear hpost
      go_wp2_with fail
      go_end0
      rw [hput.out]
      exact ⟨rfl, Hp.out⟩
    · by_cases hhi : 4294967295 < n
      · have hput := Lib.hid (show wPut s (decide (0 ≤ n ∧ n ≤ 4294967295)) (beN n.toNat 4) = ⟨s.out, s.room, 4⟩ by
          rw [show decide (0 ≤ n ∧ n ≤ 4294967295) = false by simp; omega, wPut_bad he0])
        clear he0 he
        go_enter Try.func80, Try.ntmps80
        go_wp2_with fail
        refine (CF.out _ H.out).mono ?_
        rintro e w' ⟨rfl, hpost⟩
        have Hp := Lib.hid hpost; clear hpost
        go_wp2_with fail
        go_end0
        rw [hput.out]
        exact ⟨rfl, Hp.out⟩
      · have hput := Lib.hid (show wPut s (decide (0 ≤ n ∧ n ≤ 4294967295)) (beN n.toNat 4) = wAdd s (beN n.toNat 4) by
          rw [show decide (0 ≤ n ∧ n ≤ 4294967295) = true by simp; omega, wPut_ok he0])
        have hb := bytes_new w (beN n.toNat 4) #[.int .u8 (n / 16777216), .int .u8 (n / 65536 % 256), .int .u8 (n / 256 % 256), .int .u8 (n % 256)] (by rw [be4 (by omega) (by omega)])
        rw [beN_len] at hb
        have CA := wadd_any B p ob s _ 4 4 (beN n.toNat 4) _ (H.out.below (below_alloc w _)) hb (by simp; omega) hok.1 hsz
        replace CA := Lib.hid CA
        have Hput := hput
        clear he0 he CF hb
        go_enter Try.func80, Try.ntmps80
        go_wp2_with fail
        refine CA.out.mono ?_
        intro e w' hpost
        replace hpost := PWPost.pre (below_alloc w _) hpost
        obtain ⟨rfl, hpost⟩ := hpost
        have Hp := Lib.hid hpost; clear hpost
        go_wp2_with fail
        go_end0
        rw [hput.out]
        exact ⟨rfl, Hp.out⟩

theorem be8 {n : Nat} (h1 : n ≤ 18446744073709551615) : byV (beN n 8) = [.int .u8 ((n : Int) / 72057594037927936), .int .u8 ((n : Int) / 281474976710656 % 256), .int .u8 ((n : Int) / 1099511627776 % 256), .int .u8 ((n : Int) / 4294967296 % 256), .int .u8 ((n : Int) / 16777216 % 256), .int .u8 ((n : Int) / 65536 % 256), .int .u8 ((n : Int) / 256 % 256), .int .u8 ((n : Int) % 256)] := by
  simp [byV, beN]; omega

theorem bytes_new_t (w : World) (bs : List UInt8) (vs : Array Value) (hv : vs = (byV bs).toArray) (t : TypeId) : BytesAt (w.alloc (.cells vs t)) (some ⟨w.heap.size, 0, none⟩) bs.length bs.length bs := by
  subst hv
  refine ⟨rfl, fun h => by (cases h), fun ad had j u hu => ?_⟩
  injection had with had
  subst had
  rw [Addr.add_lit, Nat.zero_add, blk_cell (blk_alloc w _)]
  simpa using hu
theorem bytes_owned {w : World} {B e n c : Nat} {xo : Option Addr} {bs : List UInt8} (h : w.ownsRow B e 1 (.slice xo n c) bs.length (byV bs)) : n = bs.length ∧ BytesAt w xo bs.length c bs := by
  rcases h.2 with ⟨he, h0⟩ | ⟨g, cap, cur, he, hB, hg, _, _, _, _⟩
  · injection he with h1 h2 h3
    subst h1 h3
    refine ⟨by rw [h2, h0], rfl, fun _ => ⟨h0, rfl⟩, fun ad had => by cases had⟩
  · injection he with h1 h2 h3
    subst h1
    refine ⟨h2, rfl, fun h => (by cases h), fun ad had j u hu => ?_⟩
    injection had with had; subst had
    have := h.cells (g := g) rfl j u hu
    exact this

set_option maxHeartbeats 1000000 in
theorem wbits_any (B p : Nat) (ob : Option Nat) (s : W) (n : Nat) (w : World) (h : PWr w B p ob s) (hB : B ≤ w.heap.size) (hok : WOk s) (hsz : Fits s 8) (hn : n ≤ 18446744073709551615) :
    Calls Try.prog 81 #[.pointer (some ⟨p, 0, none⟩), .int .u64 n] w (PWPost w B p ob (wPut s true (beN n 8))) := by
  obtain ⟨v, h0, h1, h2, hf, ho, hob⟩ := h.cells
  have H := Lib.hid h
  clear hf ho hob h h0 h1
  cases he : s.err == 0 with
  | false =>
    have hput := Lib.hid (wPut_err (s := s) (by simpa using he) true (beN n 8))
    have he2 : (s.err != 0) = true := by simp [bne, he]
    go_enter Try.func81, Try.ntmps81
    go_wp2_with fail
    go_end0
    rw [hput.out]
    exact ⟨rfl, ob, .inl rfl, H.out, Only.refl _ _ _⟩
  | true =>
    have he0 : s.err = 0 := by simpa using he
    have he2 : (s.err != 0) = false := by simp [bne, he]
    have hput := Lib.hid (wPut_ok he0 (beN n 8))
    have hb := bytes_new_t w (beN n 8) #[.int .u8 ((n : Int) / 72057594037927936), .int .u8 ((n : Int) / 281474976710656 % 256), .int .u8 ((n : Int) / 1099511627776 % 256), .int .u8 ((n : Int) / 4294967296 % 256), .int .u8 ((n : Int) / 16777216 % 256), .int .u8 ((n : Int) / 65536 % 256), .int .u8 ((n : Int) / 256 % 256), .int .u8 ((n : Int) % 256)] (by rw [be8 hn]) 157
    rw [beN_len] at hb
    have CA := Lib.hid (wadd_any B p ob s _ 8 8 (beN n 8) _ (H.out.below (below_alloc w _)) hb (by simp; omega) hok.1 hsz)
    clear he0 he hb
    go_enter Try.func81, Try.ntmps81
    go_wp2_with fail
    refine wp_loop_rounds 9 ?_
    rw [rounds_succ]
    go_wp2_with fail
    rw [rounds_succ]
    go_wp2_with fail
    rw [rounds_succ]
    go_wp2_with fail
    rw [rounds_succ]
    go_wp2_with fail
    rw [rounds_succ]
    go_wp2_with fail
    rw [rounds_succ]
    go_wp2_with fail
    rw [rounds_succ]
    go_wp2_with fail
    rw [rounds_succ]
    go_wp2_with fail
    rw [rounds_succ]
    go_wp2_with fail
    refine CA.out.mono ?_
    intro e w' hpost
    replace hpost := PWPost.pre (below_alloc w _) hpost
    obtain ⟨rfl, hpost⟩ := hpost
    have Hp := Lib.hid hpost; clear hpost
    go_wp2_with fail
    go_end0
    rw [hput.out]
    exact ⟨rfl, Hp.out⟩

theorem byV_str (t : ByteArray) : byV t.data.toList = Lib.strCells t := by simp [byV, Lib.strCells]

set_option maxHeartbeats 1000000 in
theorem wtext_any (B p : Nat) (ob : Option Nat) (s : W) (t : ByteArray) (w : World) (h : PWr w B p ob s) (hB : B ≤ w.heap.size) (hok : WOk s) (hsz : Fits s (2 + t.size)) (ht : t.size ≤ 1125899906842624) :
    Calls Try.prog 60 #[.pointer (some ⟨p, 0, none⟩), .string t] w (PWPost w B p ob (wPut s (decide (t.size ≤ 65535)) (beN t.size 2 ++ t.data.toList))) := by
  obtain ⟨v, h0, h1, h2, hf, ho, hob⟩ := h.cells
  have H := Lib.hid h
  clear hf ho hob h h0 h1
  cases he : s.err == 0 with
  | false =>
    have hput := Lib.hid (wPut_err (s := s) (by simpa using he) (decide (t.size ≤ 65535)) (beN t.size 2 ++ t.data.toList))
    have he2 : (s.err != 0) = true := by simp [bne, he]
    go_enter Try.func60, Try.ntmps60
    go_wp2_with fail
    go_end0
    rw [hput.out]
    exact ⟨rfl, ob, .inl rfl, H.out, Only.refl _ _ _⟩
  | true =>
    have he0 : s.err = 0 := by simpa using he
    have he2 : (s.err != 0) = false := by simp [bne, he]
    by_cases hhi : 65535 < t.size
    · have CF := Lib.hid (fun w h => wfail_any B p ob s 4 w h)
      have hput := Lib.hid (show wPut s (decide (t.size ≤ 65535)) (beN t.size 2 ++ t.data.toList) = ⟨s.out, s.room, 4⟩ by
        rw [show decide (t.size ≤ 65535) = false by simp; omega, wPut_bad he0])
      clear he0 he
      go_enter Try.func60, Try.ntmps60
      go_wp2_with fail
      refine (CF.out _ H.out).mono ?_
      rintro e w' ⟨rfl, hpost⟩
      have Hp := Lib.hid hpost; clear hpost
      go_wp2_with fail
      go_end0
      rw [hput.out]
      exact ⟨rfl, Hp.out⟩
    · have hput := Lib.hid (show wPut s (decide (t.size ≤ 65535)) (beN t.size 2 ++ t.data.toList) = wAdd s (beN t.size 2 ++ t.data.toList) by
        rw [show decide (t.size ≤ 65535) = true by simp; omega, wPut_ok he0])
      have hv := be2 (n := (t.size : Int)) (by omega) (by omega)
      rw [Int.toNat_natCast] at hv
      have hown : (w.alloc (.cells #[.int .u8 ((t.size : Int) / 256), .int .u8 ((t.size : Int) % 256)] 5)).ownsRow w.heap.size 5 1 (.slice (some ⟨w.heap.size, 0, none⟩) 2 2) 2 (byV (beN t.size 2)) := by
        rw [hv]
        exact owns_of (xs := [.int .u8 ((t.size : Int) / 256), .int .u8 ((t.size : Int) % 256)]) (blk_alloc w _) (Nat.le_refl _) (by simp [maxLen])
      have CA := fun (xo : Option Addr) (c : Nat) (w' : World) (hb : Below w.heap.size w w') (hy : BytesAt w' xo (2 + t.size) c (beN t.size 2 ++ t.data.toList)) =>
        (wadd_any B p ob s xo (2 + t.size) c (beN t.size 2 ++ t.data.toList) w' (H.out.below hb) hy (Nat.le_trans hB hb.size) hok.1 hsz)
      have CA := Lib.hid CA; have Hown := Lib.hid hown
      obtain ⟨ii, hi, hz0, hz1, hz2⟩ := info_parts info_u8
      clear he0 he hv hown
      have k1 : 2 + t.size ≤ maxLen := by simp only [maxLen]; omega
      have k2 : 2 + t.size ≤ 140737488355328 := by omega
      go_enter Try.func60, Try.ntmps60
      go_wp2_with (refine Lib.wpList_append_own_string _ rfl (.tmp 26) (.tmp 27) 137 9 rfl w.heap.size 5 ii Try.underlying137 Try.underlying9 hi hz0 hz1 hz2 _ 2 (byV (beN t.size 2)) rfl Hown.out t rfl k1 k2 (by simp) ?_)
      intro v' w1 hown1 hgr _
      obtain ⟨a', c', rfl⟩ := owns_slice hown1
      have hb : Below w.heap.size w w1 := (below_alloc w _).grown hgr (by simp) (fun k hk => Nat.le_of_eq (by simpa [Value.ownBlock] using hk))
      have hy : BytesAt w1 a' (2 + t.size) c' (beN t.size 2 ++ t.data.toList) := by
        have hl : (beN t.size 2 ++ t.data.toList).length = 2 + t.size := by simp [beN_len]
        rw [← byV_str, ← byV_append, ← hl] at hown1
        rw [← hl]
        exact (bytes_owned hown1).2
      have CA1 := Lib.hid (CA.out a' c' w1 hb hy)
      have HB := Lib.hid hb
      clear CA Hown hown1 hgr hb hy
      go_wp2_with fail
      refine CA1.out.mono ?_
      intro e w' hpost
      replace hpost := PWPost.pre HB.out hpost
      obtain ⟨rfl, hpost⟩ := hpost
      have Hp := Lib.hid hpost; clear hpost
      go_wp2_with fail
      go_end0
      rw [hput.out]
      exact ⟨rfl, Hp.out⟩
end Go.Proofs.Ytijeieamodjgbab
