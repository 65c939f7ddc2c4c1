
/- The reference's Stands and Gather. -/
import Derived.Test.YtelmpoaioccpoaaVw9
import Derived.Laws.StructEq
namespace Go.Proofs.Ytelmpoaioccpoaa
set_option maxRecDepth 100000
open Go.RowKit
set_option linter.unusedVariables false
set_option linter.unusedSimpArgs false

theorem run_eq_sig (w : World) (x : Int) (t : ByteArray) (x' : Int) (t' : ByteArray) : (binOp .eql 34 (.agg #[.int .i64 x, .string t]) (.agg #[.int .i64 x', .string t'])).run Try.prog w = .ok (.bool (decide (((x, t) : Sg) = (x', t')))) w := by
  rw [run_eql_struct, run_equalIn_struct _ _ _ _ _ (by kernel_rfl) (by kernel_rfl)]
  have h1 : (part 3 #[.int .i64 x, .string t] 0).run Try.prog w = .ok (.int .i64 x) w := by kernel_rfl
  have h2 : (part 3 #[.int .i64 x', .string t'] 0).run Try.prog w = .ok (.int .i64 x') w := by kernel_rfl
  have h3 : (part 9 #[.int .i64 x, .string t] 1).run Try.prog w = .ok (.string t) w := by kernel_rfl
  have h4 : (part 9 #[.int .i64 x', .string t'] 1).run Try.prog w = .ok (.string t') w := by kernel_rfl
  have h5 : (t.toList == t'.toList) = decide (t = t') := by
    by_cases h : t = t'
    · subst h; simp
    · rw [str_neq h]; simp [h]
  simp [Program.fieldsOf, Try.underlying34, Op.eqFields, h1, h2, h3, h4, run_equalIn_int _ _ _ _ _ _ _ Try.underlying3, run_equalIn_string _ _ _ _ _ Try.underlying9, Result.andThen, h5]
  by_cases hx : x = x'
  · by_cases ht : t = t' <;> simp [hx, ht]
  · simp [hx]

set_option maxHeartbeats 1000000 in
theorem stands_any (a : Option Addr) (n c : Nat) (l : List Sg) (s : Sg) (w : World) (hS : SlAt shSig w a n c l) :
    Calls Try.prog 28 #[.slice a n c, sgV s] w fun e w' => e = .returned (.bool (decide (s ∈ l))) ∧ Below w.heap.size w w' := by
  obtain ⟨x, t⟩ := s
  unfold sgV
  dsimp only
  have hlen := hS.len
  have hnm : n ≤ 9223372036854775807 := Nat.le_trans hS.cap hS.max
  have HS := Lib.hid hS
  have KX := Lib.hid (blk_alloc w (.cells #[.int .i64 x, .string t] 34 (0, 0)))
  have BX := Lib.hid (below_alloc w (.cells #[.int .i64 x, .string t] 34 (0, 0)))
  clear hS
  go_enter Try.func28, Try.ntmps28
  go_wp2_with fail
  generalize w.alloc (.cells #[.int .i64 x, .string t] 34 (0, 0)) = w1 at *
  go_loopw [5] (fun i wr => ∃ k : Nat, k ≤ n ∧ i = .int .i64 k ∧ Hid ((x, t) ∉ l.take k) ∧ Hid (Below w1.heap.size w1 wr)) (fun i _ => n - (intOf i).toNat)
  case atStart => exact ⟨0, by omega, rfl, Lib.hid (by simp), Lib.hid (Below.refl _ _)⟩
  case round =>
    obtain ⟨k, hk, rfl, HN, HW⟩ := hrel
    by_cases hlt : k < n
    · have hd : decide ((k : Int) < (n : Int)) = true := by simp; omega
      have q0 : wr.cell? ⟨w.heap.size, 0, none⟩ = some (.int .i64 x) := by rw [blk_cell (blk_below KX.out HW.out)]; rfl
      have q1 : wr.cell? ⟨w.heap.size, 1, none⟩ = some (.string t) := by rw [blk_cell (blk_below KX.out HW.out)]; rfl
      obtain ⟨bb, o, y, u, rfl, hy, x0, x1, -, -⟩ := sig_cells (HS.out.old (bthen BX.out HW.out)) hlt
      have hq := fun w => run_eq_sig w y u x t
      by_cases he : ((y, u) : Sg) = (x, t)
      · rw [decide_eq_true he] at hq
        have HM := Lib.hid (show decide ((x, t) ∈ l) = true by rw [decide_eq_true_eq, ← he]; exact List.mem_of_getElem? hy)
        clear hy he
        go_wp2_with fail
        go_quiet (fail)
        go_wp2_with fail
        go_ret
        exact ⟨by rw [HM.out]; rfl, below_drewN (bthen BX.out HW.out) _⟩
      · rw [decide_eq_false he] at hq
        have HM := Lib.hid (show (x, t) ∉ l.take (k + 1) by
          rw [List.take_add_one, hy, List.mem_append]
          rintro (h | h)
          · exact HN.out h
          · simp at h; exact he (by rw [h.1, h.2]))
        clear hy he
        go_wp2_with fail
        go_quiet (fail)
        go_wp2_with fail
        go_roundw
        case rel => exact ⟨k + 1, by omega, by go_num, HM, Lib.hid (below_drewN HW.out _)⟩
        case measure => simp [intOf]; omega
    · have hkn : k = n := by omega
      subst hkn
      have hd : decide ((k : Int) < (k : Int)) = false := by simp
      have HM := Lib.hid (show decide ((x, t) ∈ l) = false by
        rw [decide_eq_false_iff_not]
        have := HN.out
        rwa [List.take_of_length_le (by omega)] at this)
      go_wp2_with fail
      go_ret
      exact ⟨by rw [HM.out]; rfl, bthen BX.out HW.out⟩
end Go.Proofs.Ytelmpoaioccpoaa
