
/- The book of signatures: Has, Len, Derivable; a book that isn't there. -/
import Derived.Test.YtelmpoaioccpoaaBk
import Derived.Test.YtelmpoaioccpoaaCoW
namespace Go.Proofs.Ytelmpoaioccpoaa
set_option maxRecDepth 100000
open Go.RowKit Go.Maps
set_option linter.unusedVariables false
set_option linter.unusedSimpArgs false

/-- v leads to a book of these signatures, or is nil. -/
def BookIs (w : World) (v : Value) (l : List Sg) : Prop := (v = .pointer none ∧ l = []) ∨ ∃ p m N, v = .pointer (some ⟨p, 0, none⟩) ∧ BookAt w p m l N ∧ N < 4611686018427387904
theorem BookIs.old {w w' : World} {v : Value} {l : List Sg} (h : BookIs w v l) (hb : Below w.heap.size w w') : BookIs w' v l := by
  rcases h with h | ⟨p, m, N, h1, h2, h3⟩
  · exact .inl h
  · exact .inr ⟨p, m, N, h1, h2.old hb, h3⟩

set_option maxHeartbeats 1000000 in
theorem bhas_any (v : Value) (l : List Sg) (s : Sg) (w : World) (hB : BookIs w v l) (hs : sgOk s) :
    Calls Try.prog 27 #[v, sgV s] w fun e w' => e = .returned (.bool (decide (s ∈ l))) ∧ Below w.heap.size w w' := by
  obtain ⟨x, t⟩ := s
  unfold sgV
  dsimp only
  rcases hB with ⟨rfl, rfl⟩ | ⟨p, m, N, rfl, hB, hN⟩
  · rw [show decide ((x, t) ∈ ([] : List Sg)) = false by simp]
    go_enter Try.func27, Try.ntmps27
    go_wp2_with fail
    go_quiet (fail)
    go_wp2_with fail
    go_ret
    exact ⟨rfl, below_drewN (below_alloc _ _) _⟩
  · have hba := below_alloc w (.cells #[.int .i64 x, .string t] 34 (0, 0))
    have hB2 : BookAt (w.alloc (.cells #[.int .i64 x, .string t] 34 (0, 0))) p m l N := hB.old hba
    have kq := blk_alloc w (.cells #[.int .i64 x, .string t] 34 (0, 0))
    obtain ⟨n1, D, ho, hn1, hC⟩ := hB2.mp
    have hl : ∃ c : Int, D.atKey (sgL (x, t)) (li 0) = li c ∧ ∀ q, (Instr.lookup 60 (.map (some m)) (sgV (x, t)) false).run Try.prog ((w.alloc (.cells #[.int .i64 x, .string t] 34 (0, 0))).drewN q) = .ok (.int .i64 c) ((w.alloc (.cells #[.int .i64 x, .string t] 34 (0, 0))).drewN q) := by
      obtain ⟨c, _, hat, -⟩ := ho.lookup_int sigK Try.underlying60 Try.underlying3 (zeroInt _) (sgKey (x, t) hs)
      refine ⟨c, hat, fun q => ?_⟩
      have ho' : ((w.alloc (.cells #[.int .i64 x, .string t] 34 (0, 0))).drewN q).ownsMap Try.prog 34 intE m n1 D := ho
      obtain ⟨c', hl, hat', -⟩ := ho'.lookup_int sigK Try.underlying60 Try.underlying3 (zeroInt _) (sgKey (x, t) hs)
      rw [hat] at hat'
      have : c = c' := by simpa using hat'
      rw [this]; exact hl
    obtain ⟨c, hat, hl⟩ := hl
    obtain ⟨cN, hcN, hpos, -⟩ := hC.at0 (x, t) hs
    have hc0 : c = (cN : Int) := by rw [hat] at hcN; simpa using hcN
    subst hc0
    have hd : decide (0 < cN) = decide ((x, t) ∈ l) := by
      rw [Bool.eq_iff_iff, decide_eq_true_iff, decide_eq_true_iff, ← hpos]
    have p0 : (w.alloc (.cells #[.int .i64 x, .string t] 34 (0, 0))).cell? ⟨p, 0, none⟩ = some (.map (some m)) := by rw [blk_cell hB2.box]; rfl
    have q0 : (w.alloc (.cells #[.int .i64 x, .string t] 34 (0, 0))).cell? ⟨w.heap.size, 0, none⟩ = some (.int .i64 x) := by rw [blk_cell kq]; rfl
    have q1 : (w.alloc (.cells #[.int .i64 x, .string t] 34 (0, 0))).cell? ⟨w.heap.size, 1, none⟩ = some (.string t) := by rw [blk_cell kq]; rfl
    unfold sgV at hl
    dsimp only at hl
    have B := Lib.hid hba
    generalize decide ((x, t) ∈ l) = r at *
    clear hB hB2 kq ho hn1 hC hat hcN hpos hba hs
    go_enter Try.func27, Try.ntmps27
    go_wp2_with fail
    go_quiet (fail)
    go_wp2_with fail
    go_ret
    exact ⟨by rw [← hd]; rfl, below_drewN B.out _⟩

set_option maxHeartbeats 1000000 in
theorem blen_any (v : Value) (l : List Sg) (w : World) (hB : BookIs w v l) :
    Calls Try.prog 24 #[v] w fun e w' => e = .returned (.int .i64 l.length) ∧ w = w' := by
  rcases hB with ⟨rfl, rfl⟩ | ⟨p, m, N, rfl, hB, hN⟩
  · go_enter Try.func24, Try.ntmps24
    go_wp2_with fail
    go_ret
    exact ⟨rfl, rfl⟩
  · obtain ⟨n1, D, ho, hn1, hC⟩ := hB.mp
    have hlen := fun ty => ho.len Try.underlying60 ty
    have p0 : w.cell? ⟨p, 0, none⟩ = some (.map (some m)) := by rw [blk_cell hB.box]; rfl
    rw [hC.size] at hlen
    clear hB ho hn1 hC
    go_enter Try.func24, Try.ntmps24
    go_wp2_with fail
    go_ret
    exact ⟨rfl, rfl⟩

def derivP (l : List Sg) (bad : List Int) (sigs : List Sg) : Bool := sigs.all fun s => hasB bad s.1 || decide (s ∈ l)
theorem derivP_take {l : List Sg} {bad : List Int} {sigs : List Sg} {k : Nat} {s : Sg} (h : sigs[k]? = some s) : derivP l bad (sigs.take (k + 1)) = (derivP l bad (sigs.take k) && (hasB bad s.1 || decide (s ∈ l))) := by
  rw [derivP, List.take_add_one, h]; simp [derivP]
theorem derivP_no {l : List Sg} {bad : List Int} {sigs : List Sg} {k : Nat} {s : Sg} (h : sigs[k]? = some s) (hn : (hasB bad s.1 || decide (s ∈ l)) = false) : derivP l bad sigs = false := by
  cases hd : derivP l bad sigs with
  | false => rfl
  | true =>
    rw [derivP, List.all_eq_true] at hd
    have := hd s (List.mem_of_getElem? h)
    rw [hn] at this; cases this

set_option maxHeartbeats 2000000 in
theorem bderiv_any (v : Value) (l : List Sg) (ba : Option Addr) (bn bc : Nat) (bad : List Int) (a : Option Addr) (n c : Nat) (sigs : List Sg) (w : World) (hB : BookIs w v l) (hb : IntsAt w ba bn bad) (hS : SlAt shSig w a n c sigs) :
    Calls Try.prog 25 #[v, .slice ba bn bc, .slice a n c] w fun e w' => e = .returned (.bool (derivP l bad sigs)) ∧ Below w.heap.size w w' := by
  have hlen := hS.len
  have hnm : n ≤ 9223372036854775807 := Nat.le_trans hS.cap hS.max
  have HB := Lib.hid hB; have HI := Lib.hid hb; have HS := Lib.hid hS
  clear hB hb hS
  go_enter Try.func25, Try.ntmps25
  go_wp2_with fail
  go_loopw [11] (fun i wr => ∃ k : Nat, k ≤ n ∧ i = .int .i64 k ∧ Hid (derivP l bad (sigs.take k) = true) ∧ Hid (Below w.heap.size w wr)) (fun i _ => n - (intOf i).toNat)
  case atStart => exact ⟨0, by omega, rfl, Lib.hid rfl, Lib.hid (Below.refl _ _)⟩
  case round =>
    obtain ⟨k, hk, rfl, HD, HW⟩ := hrel
    by_cases hlt : k < n
    · have hd : decide ((k : Int) < (n : Int)) = true := by simp; omega
      have hS1 := HS.out.old HW.out
      obtain ⟨bb, o, x, t, rfl, hy, x0, x1, h1, h2⟩ := sig_cells hS1 hlt
      have hba := below_alloc wr (.cells #[.int .i64 x, .string t] 34 (0, 0))
      have hW4 := bthen HW.out hba
      have CC := contains_any ba bn bc bad x _ (HI.out.below hW4)
      have CH := bhas_any v l (x, t) _ (HB.out.old hW4) ⟨h1, h2⟩
      have HT := Lib.hid (derivP_take (l := l) (bad := bad) hy)
      have HN := Lib.hid (fun h => derivP_no (l := l) (bad := bad) hy h)
      have q0 : (wr.alloc (.cells #[.int .i64 x, .string t] 34 (0, 0))).cell? ⟨wr.heap.size, 0, none⟩ = some (.int .i64 x) := by rw [blk_cell (blk_alloc _ _)]; rfl
      have q1 : (wr.alloc (.cells #[.int .i64 x, .string t] 34 (0, 0))).cell? ⟨wr.heap.size, 1, none⟩ = some (.string t) := by rw [blk_cell (blk_alloc _ _)]; rfl
      have W4 := Lib.hid hW4
      have CC := Lib.hid CC
      unfold sgV at CH
      dsimp only at CH HT HN
      have CH := Lib.hid CH
      generalize hasB bad x = r1 at *
      generalize decide ((x, t) ∈ l) = r2 at *
      clear hS1 hba hW4 hy
      go_upto_region 4 with (fail)
      clear x0 x1
      generalize wr.alloc (.cells #[.int .i64 x, .string t] 34 (0, 0)) = w4 at *
      go_wp2_with fail
      refine CC.out.mono ?_
      rintro r w5 ⟨rfl, rfl⟩
      cases r1 with
      | true =>
        go_wp2_with fail
        go_roundw
        case rel => exact ⟨k + 1, by omega, by go_num, Lib.hid (by rw [HT.out, HD.out]; rfl), W4⟩
        case measure => simp [intOf]; omega
      | false =>
        go_wp2_with fail
        refine CH.out.mono ?_
        rintro r w6 ⟨rfl, b6⟩
        have W6 := Lib.hid (bthen W4.out b6)
        clear b6
        cases r2 with
        | true =>
          go_wp2_with fail
          go_roundw
          case rel => exact ⟨k + 1, by omega, by go_num, Lib.hid (by rw [HT.out, HD.out]; rfl), W6⟩
          case measure => simp [intOf]; omega
        | false =>
          go_wp2_with fail
          go_ret
          exact ⟨by rw [HN.out rfl]; rfl, W6.out⟩
    · have hkn : k = n := by omega
      subst hkn
      have hd : decide ((k : Int) < (k : Int)) = false := by simp
      have HT := Lib.hid (show derivP l bad sigs = true by have := HD.out; rwa [List.take_of_length_le (by omega)] at this)
      go_wp2_with fail
      go_ret
      exact ⟨by rw [HT.out]; rfl, HW.out⟩
end Go.Proofs.Ytelmpoaioccpoaa
