
/- Walk of check. -/
import Derived.Test.YtijeieamodjgbaaGreatTr2
import Derived.Test.YtijeieamodjgbaaGreatJoP
import Derived.Deep.RegionHeld3
import Derived.Laws.StructEq
namespace Go.Proofs.YtijeieamodjgbaaGreat
set_option maxRecDepth 100000
open Go.RowKit
attribute [local irreducible] wpQuiet
set_option linter.unusedVariables false
def chainC (c : Cf) : List Lk → Int
  | [] => 0
  | y :: r => if validC c.1 c.2 y.1.1 y.1.2 y.2 = 0 then chainC y.1 r else validC c.1 c.2 y.1.1 y.1.2 y.2
def otherB (cs : List Cf) (chain : List Lk) : Bool := (cs.tail.zip chain).any fun p => !decide (p.1.2 = p.2.1.2)
def checkC (c : Cf) (cs : List Cf) (chain : List Lk) : Int :=
  if chainC c chain ≠ 0 then chainC c chain else if otherB cs chain then 22 else if chain.length < cs.length then 17 else 0
theorem link_cells {w : World} {a : Option Addr} {n c : Nat} {ls : List Lk} (h : SlAt shLink w a n c ls) {i : Nat} {e : Int} {l : List Int} {s : List Sg} (hi : ls[i]? = some ((e, l), s)) :
    ∃ b o a' n' c' sa sn sc, a = some ⟨b, o, none⟩ ∧ w.cell? ⟨b, o + i * 3, none⟩ = some (.int .i64 e) ∧ w.cell? ⟨b, o + i * 3 + 1, none⟩ = some (.slice a' n' c') ∧ w.cell? ⟨b, o + i * 3 + 2, none⟩ = some (.slice sa sn sc) ∧ i64 e ∧ SlAt Sh.int w a' n' c' l ∧ SlAt shSig w sa sn sc s := by
  obtain ⟨b, o, xs, ha, hE, hc⟩ := h.cell i _ hi; obtain ⟨x1, x2, rfl, ⟨y1, y2, rfl, ⟨rfl, he⟩, a', n', c', rfl, hs⟩, sa, sn, sc, rfl, hss⟩ := hE
  exact ⟨b, o, a', n', c', sa, sn, sc, ha, hc 0 _ rfl, hc 1 _ rfl, hc 2 _ rfl, he, hs, hss⟩
end Go.Proofs.YtijeieamodjgbaaGreat
/- Walk of lives, and its plain facts. -/
namespace Go.Proofs.YtijeieamodjgbaaGreat
set_option maxRecDepth 100000
open Go.RowKit
set_option linter.unusedVariables false
end Go.Proofs.YtijeieamodjgbaaGreat
/- Walks of the references' Same: of configurations, of lists of signatures, of chains. -/
namespace Go.Proofs.YtijeieamodjgbaaGreat
set_option maxRecDepth 100000
open Go.RowKit
attribute [local irreducible] wpQuiet
set_option linter.unusedVariables false
theorem run_neq_sig (w : World) (x : Int) (t : ByteArray) (x' : Int) (t' : ByteArray) : (binOp .neq 84 (.agg #[.int .i64 x, .string t]) (.agg #[.int .i64 x', .string t'])).run Tryz.prog w = .ok (.bool (!decide (((x, t) : Sg) = (x', t')))) w := by
  rw [run_neq_struct, run_equalIn_struct _ _ _ _ _ (by kernel_rfl) (by kernel_rfl)]
  have h1 : (part 3 #[.int .i64 x, .string t] 0).run Tryz.prog w = .ok (.int .i64 x) w := by kernel_rfl
  have h2 : (part 3 #[.int .i64 x', .string t'] 0).run Tryz.prog w = .ok (.int .i64 x') w := by kernel_rfl
  have h3 : (part 9 #[.int .i64 x, .string t] 1).run Tryz.prog w = .ok (.string t) w := by kernel_rfl
  have h4 : (part 9 #[.int .i64 x', .string t'] 1).run Tryz.prog w = .ok (.string t') w := by kernel_rfl
  have h5 : (t.toList == t'.toList) = decide (t = t') := by
    by_cases h : t = t'
    · subst h; simp
    · rw [str_neq h]; simp [h]
  simp [Program.fieldsOf, Tryz.underlying84, Op.eqFields, h1, h2, h3, h4, run_equalIn_int _ _ _ _ _ _ _ Tryz.underlying3, run_equalIn_string _ _ _ _ _ Tryz.underlying9, Result.andThen, h5]
  by_cases hx : x = x'
  · by_cases ht : t = t' <;> simp [hx, ht]
  · simp [hx]
theorem samec_any (e : Int) (a : Option Addr) (n c : Nat) (l : List Int) (e' : Int) (a' : Option Addr) (n' c' : Nat) (l' : List Int) (w : World) (h : IntsAt w a n l) (h' : IntsAt w a' n' l') :
    Calls Tryz.prog 39 #[.agg #[.int .i64 e, .slice a n c], .agg #[.int .i64 e', .slice a' n' c']] w fun r w' => r = .returned (.bool (decide ((e, l) = (e', l')))) ∧ Below w.heap.size w w' := by
  have CS := sameints_any a n c l a' n' c' l' _ ((h.alloc (.cells #[.int .i64 e, .slice a n c] 89)).alloc (.cells #[.int .i64 e', .slice a' n' c'] 89)) ((h'.alloc (.cells #[.int .i64 e, .slice a n c] 89)).alloc (.cells #[.int .i64 e', .slice a' n' c'] 89))
  replace CS := Lib.hid CS
  clear h h'
  by_cases he : e = e'
  · subst he
    have hd := Lib.hid (show (l == l') = decide ((e, l) = (e, l')) by rw [Bool.eq_iff_iff]; simp)
    go_enter Tryz.func39, Tryz.ntmps39
    go_wp2_with fail
    refine CS.out.mono ?_
    rintro e' w1 ⟨rfl, q, rfl⟩
    go_wp2_with fail
    go_ret
    exact ⟨by rw [← hd.out]; rfl, below_drewN (balloc (below_alloc _ _) _) _⟩
  · have hd := Lib.hid (show decide ((e, l) = (e', l')) = false by simp [he])
    have he2 : (e == e') = false := by simpa using he
    go_enter Tryz.func39, Tryz.ntmps39
    go_wp2_with fail
    go_ret
    exact ⟨by rw [hd.out]; rfl, balloc (below_alloc _ _) _⟩
set_option maxHeartbeats 400000 in
theorem samesigs_any (a : Option Addr) (n c : Nat) (l : List Sg) (a' : Option Addr) (n' c' : Nat) (l' : List Sg) (w : World) (h : SlAt shSig w a n c l) (h' : SlAt shSig w a' n' c' l') :
    Calls Tryz.prog 40 #[.slice a n c, .slice a' n' c'] w fun e w' => e = .returned (.bool (decide (l = l'))) ∧ ∃ q, w' = w.drewN q := by
  have hmax := h.max; have hcap := h.cap; have hmax' := h'.max; have hcap' := h'.cap; have hlen := h.len; have hlen' := h'.len; have H := Lib.hid h; clear h; have H' := Lib.hid h'; clear h'
  by_cases hnn : n = n'
  · subst hnn
    have hn0 : ((n : Int) != n) = false := by simp
    have hfin : ∀ k, k = n → l.take k = l'.take k → decide (l = l') = true := fun k hk ht => by
      rw [List.take_of_length_le (by omega), List.take_of_length_le (by omega)] at ht
      simp [ht]
    have Hfin := Lib.hid hfin; have Hlen := Lib.hid hlen; have Hlen' := Lib.hid hlen'; clear hfin hlen hlen'
    go_enter Tryz.func40, Tryz.ntmps40
    go_wp2_with fail
    go_loopw [5] (fun i wr => ∃ k q : Nat, k ≤ n ∧ i = .int .i64 k ∧ wr = w.drewN q ∧ Hid (l.take k = l'.take k)) (fun i _ => n - (intOf i).toNat)
    case atStart => exact ⟨0, 0, by omega, rfl, rfl, Lib.hid (by simp)⟩
    case round =>
      obtain ⟨k, q, hk, rfl, rfl, ht⟩ := hrel
      by_cases hlt : k < n
      · obtain ⟨b, o, x, t, rfl, hx, c0, c1, hx1, _⟩ := sig_cells H.out hlt
        obtain ⟨b', o', x', t', rfl, hx', c0', c1', _⟩ := sig_cells H'.out hlt
        have hj0 : (0 : Int) ≤ (k : Int) := by omega
        have hj1 : (k : Int) < (n : Int) := by omega
        have lb := World.block_lt c0; have lb' := World.block_lt c0'; have HX := Lib.hid hx; have HX' := Lib.hid hx'; clear hx hx'
        have hq := fun w => run_neq_sig w x t x' t'
        by_cases hE : ((x, t) : Sg) = (x', t')
        · have ht' := Lib.hid (show l.take (k + 1) = l'.take (k + 1) by
            rw [List.take_add_one, List.take_add_one, ht.out, HX.out, HX'.out, hE])
          rw [decide_eq_true hE] at hq
          clear ht hE
          go_wp2_with fail
          go_quiet (fail)
          go_wp2_with fail
          go_roundw
          case rel => exact ⟨k + 1, q + nq, by omega, by go_num, by simp, ht'⟩
          case measure => simp [intOf]; omega
        · have hno := Lib.hid (show decide (l = l') = false by
            simp only [decide_eq_false_iff_not]
            rintro rfl
            have := HX.out.symm.trans HX'.out
            exact hE (by simpa using this))
          rw [decide_eq_false hE] at hq
          clear ht hE
          go_wp2_with fail
          go_quiet (fail)
          go_wp2_with fail
          go_ret
          exact ⟨by rw [hno.out]; rfl, q + nq, by simp⟩
      · have hy := Lib.hid (Hfin.out k (by omega) ht.out)
        clear ht
        go_wp2_with fail
        go_ret
        exact ⟨by rw [hy.out]; rfl, q, rfl⟩
  · have hne : ((n : Int) != n') = true := by simp; omega
    have hno := Lib.hid (show decide (l = l') = false by
      simp; rintro rfl; omega)
    clear hlen hlen'
    go_enter Tryz.func40, Tryz.ntmps40
    go_wp2_with fail
    go_ret
    exact ⟨by rw [hno.out]; rfl, 0, rfl⟩
end Go.Proofs.YtijeieamodjgbaaGreat
