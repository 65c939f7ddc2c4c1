
/- A vote's signatures, as the laws make them: plain, and the walk. -/
import Derived.Test.YtfhbjajhmegdmaaVt1
import Derived.Test.YtfhbjajhmegdmaaCl
import Derived.Test.YtfhbjajhmegdmaaAo
import Derived.Test.YtfhbjajhmegdmaaTr
import Derived.Deep.RegionHeld3
import Derived.Deep.DeepCutAuto
namespace Go.Proofs.Ytfhbjajhmegdmaa
set_option maxRecDepth 100000
open Go.RowKit
set_option linter.unusedVariables false
set_option linter.unusedSimpArgs false

def sgOf (wrong x : Int) (s t : ByteArray) : List Sg :=
  if wrong = 1 then [(x, s ++ ⟨#[63]⟩), (x, t)] else if wrong = 2 then [(x, s), (wrap64 (x + 1), t)] else if wrong = 3 then [(x, s)] else if wrong = 4 then [(x, s), (x, t), (x, s)] else [(x, s), (x, t)]
theorem hdText_size (sign : Int) (n : Int) (t : ByteArray) : (hdText sign [n] t).size ≤ t.size + 5 := by
  unfold hdText
  split
  · rw [ByteArray.size_append]
    have h4 : (⟨(beN sign.toNat 1 ++ longBs [n]).toArray⟩ : ByteArray).size = 5 := by simp [ByteArray.size, beN_len, longBs]
    omega
  · exact Nat.zero_le _
theorem vS_size (e : Int) (l : List Int) (t : ByteArray) (nx : List Int) : (vS e l t nx).size ≤ t.size + 5 := by
  unfold vS
  split
  · exact hdText_size _ _ _
  · exact Nat.zero_le _
theorem textS_size (e : Int) (l : List Int) : (textS e l).size ≤ 14 := by
  unfold textS
  split
  · rename_i h
    have h1 := risingB_len (rightB_rising h).2.2
    have : (textP e l).length = 4 + l.length := by rw [textP_eq, List.length_append, textHead_len, byteL_len]
    simp only [ByteArray.size, List.size_toArray]
    omega
  · exact Nat.zero_le _
theorem vC_size (e : Int) (l : List Int) (t : ByteArray) (nx : List Int) : (vC e l t nx).size ≤ 14 := by
  unfold vC
  split
  · exact textS_size _ _
  · exact Nat.zero_le _
theorem owns_cells {w : World} {g B : Nat} {cs : List Value} {n cap : Nat} (h : w.heap[g]? = some (.cells cs.toArray 47 (0, 0))) (hB : B ≤ g) (hc : cs.length = cap * 2) (hn : n ≤ cap) (hm : cap ≤ 100) :
    w.ownsRow B 47 2 (.slice (some ⟨g, 0, none⟩) n cap) n (cs.take (n * 2)) :=
  ⟨by rw [List.length_take]; omega, .inr ⟨g, cap, cs.toArray, rfl, hB, h, hn, by unfold maxLen; omega, by simpa using hc, by simp⟩⟩
theorem one_new (w : World) (x : Int) (s : ByteArray) : ∀ j u, [Value.int .i64 x, .string s][j]? = some u → (w.alloc (.cells #[.int .i64 x, .string s] 47 (0, 0))).cell? ((⟨w.heap.size, 0, none⟩ : Addr).add j) = some u := by
  intro j u h
  rw [Addr.add_lit, blk_cell (blk_alloc w _), ← h]
  simp

set_option maxHeartbeats 2000000 in
theorem sigs15_any (x : Int) (t : ByteArray) (b : Option Addr) (m d : Nat) (nx : List Int) (wrong : Int) (e : Int) (a : Option Addr) (n c : Nat) (l : List Int) (w : World) (he : i64 e) (h : IntsAt w a n l) (ht : t.size ≤ 140737488355328) (hx : IntsAt w b m nx) (hxx : i64 x) :
    Calls Try.prog 14 #[.agg #[.int .i64 x, .string t, .slice b m d, .int .i64 wrong], .agg #[.int .i64 e, .slice a n c]] w fun r w' => ∃ v, r = .returned v ∧ w'.ownsRow w.heap.size 47 2 v (sgOf wrong x (vS e l t nx) (vC e l t nx)).length (sigV (sgOf wrong x (vS e l t nx) (vC e l t nx))) ∧ Below w.heap.size w w' := by
  have B0 := below_alloc w (.cells #[.int .i64 x, .string t, .slice b m d, .int .i64 wrong] 38 (0, 0))
  have K0 := blk_alloc w (.cells #[.int .i64 x, .string t, .slice b m d, .int .i64 wrong] 38 (0, 0))
  have hz0 : (w.alloc (.cells #[.int .i64 x, .string t, .slice b m d, .int .i64 wrong] 38 (0, 0))).heap.size = w.heap.size + 1 := by simp
  have B1 := below_alloc (w.alloc (.cells #[.int .i64 x, .string t, .slice b m d, .int .i64 wrong] 38 (0, 0))) (.cells #[.int .i64 e, .slice a n c] 24 (0, 0))
  have KV := Lib.hid (blk_below K0 B1)
  have BX := Lib.hid (bthen B0 B1)
  have CT := Lib.hid (rvtexts_any e a n c l t b m d nx _ he (h.below BX.out) ht (hx.below BX.out))
  obtain ⟨ii, hi, hzz0, hzz1, hzz2⟩ := info_parts info_sig'
  have hsz := vS_size e l t nx
  generalize vS e l t nx = S at *
  generalize vC e l t nx = C at *
  have HS := Lib.hid (show sgOf wrong x S C = if wrong = 1 then [(x, S ++ ⟨#[63]⟩), (x, C)] else if wrong = 2 then [(x, S), (wrap64 (x + 1), C)] else if wrong = 3 then [(x, S)] else if wrong = 4 then [(x, S), (x, C), (x, S)] else [(x, S), (x, C)] from rfl)
  generalize sgOf wrong x S C = L at *
  clear h hx K0 B0 B1 hz0
  go_enter Try.func14, Try.ntmps14
  go_wp2_with fail
  refine CT.out.mono ?_
  rintro r w1 ⟨rfl, b1⟩
  have B1 := Lib.hid (bthen BX.out b1)
  have K1 := Lib.hid (blk_below KV.out b1)
  have k0 : w1.cell? ⟨w.heap.size, 0, none⟩ = some (.int .i64 x) := by rw [blk_cell K1.out]; rfl
  have k3 : w1.cell? ⟨w.heap.size, 3, none⟩ = some (.int .i64 wrong) := by rw [blk_cell K1.out]; rfl
  have hlt : w.heap.size < w1.heap.size := World.block_lt k0
  clear b1 BX KV CT
  have hcat : ∀ w : World, (Op.stringOp .add S (⟨#[63]⟩ : ByteArray)).run Try.prog w = .ok (.string (S ++ ⟨#[63]⟩)) w := fun w => run_string_add_sum w _ _ (by rw [show (⟨#[63]⟩ : ByteArray).size = 1 from rfl]; omega)
  by_cases h1 : wrong = 1
  · subst h1
    rw [if_pos rfl] at HS
    go_wp2_with fail
    go_ret
    refine ⟨_, rfl, ?_, bthen B1.out (below_alloc w1 _)⟩
    rw [HS.out]
    exact owns_cells (cap := 2) (n := 2) (blk_alloc w1 (.cells ([.int .i64 x, .string (S ++ ⟨#[63]⟩), .int .i64 x, .string C] : List Value).toArray 47 (0, 0))) B1.out.size rfl (by decide) (by decide)
  have hw1 : (wrong == 1) = false := by simpa using h1
  rw [if_neg h1] at HS
  by_cases h2 : wrong = 2
  · subst h2
    rw [if_pos rfl] at HS
    go_wp2_with fail
    go_ret
    refine ⟨_, rfl, ?_, bthen B1.out (below_alloc w1 _)⟩
    rw [HS.out]
    exact owns_cells (cap := 2) (n := 2) (blk_alloc w1 (.cells ([.int .i64 x, .string S, .int .i64 (wrap64 (x + 1)), .string C] : List Value).toArray 47 (0, 0))) B1.out.size rfl (by decide) (by decide)
  have hw2 : (wrong == 2) = false := by simpa using h2
  rw [if_neg h2] at HS
  by_cases h3 : wrong = 3
  · subst h3
    rw [if_pos rfl] at HS
    go_wp2_with fail
    go_ret
    refine ⟨_, rfl, ?_, bthen B1.out (below_alloc w1 _)⟩
    rw [HS.out]
    exact owns_cells (cap := 2) (n := 1) (blk_alloc w1 (.cells ([.int .i64 x, .string S, .int .i64 x, .string C] : List Value).toArray 47 (0, 0))) B1.out.size rfl (by decide) (by decide)
  have hw3 : (wrong == 3) = false := by simpa using h3
  rw [if_neg h3] at HS
  by_cases h4 : wrong = 4
  · subst h4
    rw [if_pos rfl] at HS
    have HO := Lib.hid (owns_cells (B := w.heap.size) (cap := 2) (n := 2) (blk_alloc w1 (.cells ([.int .i64 x, .string S, .int .i64 x, .string C] : List Value).toArray 47 (0, 0))) B1.out.size rfl (by decide) (by decide))
    have HB := Lib.hid (bthen B1.out (below_alloc w1 (.cells ([.int .i64 x, .string S, .int .i64 x, .string C] : List Value).toArray 47 (0, 0))))
    have q0 := blk_cell (blk_alloc w1 (.cells #[.int .i64 x, .string S, .int .i64 x, .string C] 47 (0, 0)))
    go_upto_region 11 with (fail)
    generalize w1.alloc (.cells #[.int .i64 x, .string S, .int .i64 x, .string C] 47 (0, 0)) = w2 at *
    have q00 := q0 0
    have q01 := q0 1
    simp only [List.getElem?_toArray, List.getElem?_cons_zero, List.getElem?_cons_succ] at q00 q01
    clear q0 K1 k3 k0
    go_wp2_with (first | (at_builtin; refine wpList_append_one _ rfl (.tmp 54) (.tmp 58) 39 rfl w.heap.size 47 ii (.agg #[.int .i64 0, .string ⟨#[]⟩]) 2 24 Try.underlying39 hi hzz0 hzz1 hzz2 rfl (by decide) (.slice (some ⟨w1.heap.size, 0, none⟩) 2 2) 2 _ rfl (owns_old HO.out (below_alloc w2 _)) ⟨w2.heap.size, 0, none⟩ 1 [.int .i64 x, .string S] rfl rfl (one_new w2 x S) (by simp [Value.oneCell']) (by unfold maxLen; omega) (by decide) (by omega) (by have := HB.out.size; simp; omega) ?_) | fail)
    intro v7 w7 ho7 hg7
    obtain ⟨a7, c7, rfl⟩ := owns_form ho7
    have hlt6 := HO.out.lt
    have HO7 := Lib.hid ho7
    have B7 := Lib.hid (grown_below (bthen HB.out (below_alloc w2 (.cells #[.int .i64 x, .string S] 47 (0, 0)))) hg7 (fun j hj => (hlt6 j hj).1))
    clear ho7 hg7 hlt6 HO HB
    go_wp2_with fail
    go_ret
    exact ⟨_, rfl, by rw [HS.out]; exact HO7.out, B7.out⟩
  have hw4 : (wrong == 4) = false := by simpa using h4
  rw [if_neg h4] at HS
  go_wp2_with fail
  go_ret
  refine ⟨_, rfl, ?_, bthen B1.out (below_alloc w1 _)⟩
  rw [HS.out]
  exact owns_cells (cap := 2) (n := 2) (blk_alloc w1 (.cells ([.int .i64 x, .string S, .int .i64 x, .string C] : List Value).toArray 47 (0, 0))) B1.out.size rfl (by decide) (by decide)
end Go.Proofs.Ytfhbjajhmegdmaa
