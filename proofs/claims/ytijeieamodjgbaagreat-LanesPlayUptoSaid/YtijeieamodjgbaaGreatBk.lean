
/- The book of signatures: New, Note, Has, Len. -/
import Derived.Test.YtijeieamodjgbaaGreatMp
import Derived.Test.YtijeieamodjgbaaGreatQuiet
import Derived.Test.YtijeieamodjgbaaGreatNews
import Derived.Deep.RegionHeld3
import Derived.Deep.DeepCutAuto
import Derived.Test.YtijeieamodjgbaaGreatCoW
namespace Go.Proofs.YtijeieamodjgbaaGreat
set_option maxRecDepth 100000
open Go.RowKit Go.Maps
set_option linter.unusedVariables false
set_option linter.unusedSimpArgs false
def noteP (l more : List Sg) : List Sg := more.foldl (fun l s => if s ∈ l then l else l ++ [s]) l
theorem noteP_snoc (l more : List Sg) (s : Sg) : noteP l (more ++ [s]) = if s ∈ noteP l more then noteP l more else noteP l more ++ [s] := by rw [noteP, List.foldl_append]; rfl
structure Cnt (D : DataW Unit) (l : List Sg) (N : Nat) : Prop where
  size : Maps.size D = l.length
  at0 : ∀ s, sgOk s → ∃ c : Nat, D.atKey (sgL s) (li 0) = li c ∧ (0 < c ↔ s ∈ l) ∧ c ≤ N
  has : ∀ s, sgOk s → Maps.has D (sgL s) = decide (s ∈ l)
theorem Cnt.empty : Cnt (.map []) [] 0 := ⟨rfl, fun s hs => ⟨0, rfl, by simp, Nat.le_refl _⟩, fun s hs => by rfl⟩
theorem Cnt.mono {D : DataW Unit} {l : List Sg} {N N' : Nat} (h : Cnt D l N) (hN : N ≤ N') : Cnt D l N' := ⟨h.size, fun s hs => by
  obtain ⟨c, h1, h2, h3⟩ := h.at0 s hs
  exact ⟨c, h1, h2, by omega⟩, h.has⟩
theorem Cnt.put {D : DataW Unit} {l : List Sg} {N : Nat} {s : Sg} (h : Cnt D l N) (T : Tidy D) (hs : sgOk s) {c : Nat} (hc : D.atKey (sgL s) (li 0) = li c) :
    Cnt (D.put (sgL s) (li (c + 1))) (if s ∈ l then l else l ++ [s]) (N + 1) := by
  have hk : WideAt.IsKeyLit (sgL s) := sigK.key (sgKey s hs); obtain ⟨c', h1, h2, h3⟩ := h.at0 s hs
  rw [hc] at h1
  have hcc : c = c' := by
    have h1' : ((c : Nat) : Int) = c' := by simpa using h1
    omega
  subst hcc
  have hmem : ∀ s', s' ∈ (if s ∈ l then l else l ++ [s]) ↔ s' = s ∨ s' ∈ l := fun s' => by
    by_cases hm : s ∈ l
    · rw [if_pos hm]
      exact ⟨.inr, fun h => h.elim (fun e => e ▸ hm) id⟩
    · rw [if_neg hm]; simp [or_comm]
  refine ⟨?_, fun s' hs' => ?_, fun s' hs' => ?_⟩
  · rw [size_put T, h.has s hs]
    by_cases hm : s ∈ l
    · simp [hm, h.size]
    · simp [hm, h.size]
  · by_cases he : s' = s
    · subst he
      refine ⟨c + 1, ?_, ?_, by omega⟩
      · rw [atKey_put_same T.isMap hk]; rfl
      · rw [hmem]; simp
    · obtain ⟨c2, g1, g2, g3⟩ := h.at0 s' hs'
      refine ⟨c2, ?_, ?_, by omega⟩
      · rw [atKey_put_other (fun e => he (sgL_inj hs' hs e))]; exact g1
      · rw [hmem, g2]; simp [he]
  · by_cases he : s' = s
    · subst he
      rw [has_put_same T.isMap hk]; simp [hmem]
    · rw [has_put_other (fun e => he (sgL_inj hs' hs e)), h.has s' hs']
      simp [hmem, he]
structure BookAt (w : World) (p m : Nat) (l : List Sg) (N : Nat) : Prop where
  box : w.heap[p]? = some (.cells #[.map (some m)] 157 (0, 0))
  mp : ∃ n D, w.ownsMap Tryz.prog 84 intE m n D ∧ n ≤ N ∧ Cnt D l N
theorem BookAt.ne {w : World} {p m : Nat} {l : List Sg} {N : Nat} (h : BookAt w p m l N) : p ≠ m := by
  rintro rfl
  obtain ⟨n, D, ⟨es, clock, hb, _⟩, _⟩ := h.mp
  rw [h.box] at hb
  cases hb
theorem BookAt.keep {w w' : World} {p m : Nat} {l : List Sg} {N : Nat} {X : Nat → Prop} (h : BookAt w p m l N) (hk : Keep X w w') (h1 : ¬ X p) (h2 : ¬ X m) : BookAt w' p m l N := by
  obtain ⟨n, D, ho, hn, hc⟩ := h.mp
  exact ⟨by rw [hk.block p (blk_lt h.box) h1]; exact h.box, n, D, owns_block ho (hk.block m ho.lt h2), hn, hc⟩
theorem BookAt.old {w w' : World} {p m : Nat} {l : List Sg} {N : Nat} (h : BookAt w p m l N) (hb : Below w.heap.size w w') : BookAt w' p m l N := h.keep (X := fun _ => False) (Keep.of_below hb) (fun h => h) (fun h => h)
theorem BookAt.lt {w : World} {p m : Nat} {l : List Sg} {N : Nat} (h : BookAt w p m l N) : p < w.heap.size ∧ m < w.heap.size := by
  obtain ⟨n, D, ho, hn, hc⟩ := h.mp
  exact ⟨blk_lt h.box, ho.lt⟩
set_option maxHeartbeats 1000000 in
theorem bnew_any (w : World) : Calls Tryz.prog 46 #[] w fun e w' => e = .returned (.pointer (some ⟨w.heap.size + 1, 0, none⟩)) ∧ BookAt w' (w.heap.size + 1) w.heap.size [] 0 ∧ Below w.heap.size w w' := by
  have hmm := @run_makeMap Tryz.prog; have ho := World.ownsMap_made (H := Unit) w Tryz.prog 84 intE
  have hz : (w.alloc (.map #[] 0)).heap.size = w.heap.size + 1 := by simp
  have hb := below_alloc (w.alloc (.map #[] 0)) (.cells #[.map (some w.heap.size)] 157 (0, 0)); have hx := blk_alloc (w.alloc (.map #[] 0)) (.cells #[.map (some w.heap.size)] 157 (0, 0))
  rw [hz] at hx
  have H := Lib.hid (show BookAt ((w.alloc (.map #[] 0)).alloc (.cells #[.map (some w.heap.size)] 157 (0, 0))) (w.heap.size + 1) w.heap.size [] 0 from ⟨hx, 0, _, owns_block ho (hb.block _ ho.lt), Nat.le_refl _, Cnt.empty⟩); have B := Lib.hid (bthen (below_alloc w (.map #[] 0)) hb); clear ho hz hb hx
  go_enter Tryz.func46, Tryz.ntmps46
  go_wp2_with fail
  go_ret
  exact ⟨rfl, H.out, B.out⟩
set_option maxHeartbeats 2000000 in
theorem note_any (p m : Nat) (l0 : List Sg) (N : Nat) (a : Option Addr) (n c : Nat) (sigs : List Sg) (w : World) (hB : BookAt w p m l0 N) (hS : ∀ w', Keep (fun k => k = m) w w' → SlAt shSig w' a n c sigs) (hN : N + n < 4611686018427387904) :
    Calls Tryz.prog 47 #[.pointer (some ⟨p, 0, none⟩), .slice a n c] w fun e w' => e = .returned (.tuple #[]) ∧ BookAt w' p m (noteP l0 sigs) (N + n) ∧ Keep (fun k => k = m) w w' := by
  have hlen := (hS w (Keep.refl _ _)).len; have HS := Lib.hid hS; have HB := Lib.hid hB; have hzI := zeroInt; clear hS hB
  go_enter Tryz.func47, Tryz.ntmps47
  go_wp2_with fail
  go_loopw [10] (fun i wr => ∃ k : Nat, k ≤ n ∧ i = .int .i64 k ∧ Hid (BookAt wr p m (noteP l0 (sigs.take k)) (N + k)) ∧ Hid (Keep (fun k => k = m) w wr)) (fun i _ => n - (intOf i).toNat)
  case atStart => exact ⟨0, by omega, rfl, HB, Lib.hid (Keep.refl _ _)⟩
  case round =>
    obtain ⟨k, hk, rfl, HK, HW⟩ := hrel
    by_cases hlt : k < n
    · have hd : decide ((k : Int) < (n : Int)) = true := by simp; omega
      obtain ⟨bb, o, x, t, rfl, hy, x0, x1, h1, h2⟩ := sig_cells (HS.out wr HW.out) hlt; have HT := Lib.hid (show sigs.take (k + 1) = sigs.take k ++ [(x, t)] by rw [List.take_add_one, hy]; rfl); have hba := below_alloc wr (.cells #[.int .i64 x, .string t] 84 (0, 0)); have HK4 := Lib.hid (show BookAt (wr.alloc (.cells #[.int .i64 x, .string t] 84 (0, 0))).drew p m (noteP l0 (sigs.take k)) (N + k) from HK.out.old (below_drewN hba 1)); have HW4 := Lib.hid (show Keep (fun k => k = m) w (wr.alloc (.cells #[.int .i64 x, .string t] 84 (0, 0))).drew from HW.out.trans (X' := fun _ => False) (Keep.of_below (below_drewN hba 1)) (fun _ _ h => h.elim)); have hq := blk_alloc wr (.cells #[.int .i64 x, .string t] 84 (0, 0)); have HQ := Lib.hid (show (wr.alloc (.cells #[.int .i64 x, .string t] 84 (0, 0))).drew.heap[wr.heap.size]? = some (.cells #[.int .i64 x, .string t] 84 (0, 0)) from hq); have hlt4 := HK.out.lt; obtain ⟨n1, D, ho, hn1, hC⟩ := HK4.out.mp; have hok : sgOk (x, t) := ⟨h1, h2⟩; obtain ⟨c0, v, st, w5, hl0, hat, hwc, hme, hg5, hl5, hst⟩ := entry_int ho sigLaw Tryz.underlying155 Tryz.underlying3 zeroInt (by unfold maxLen; omega) (sgKey (x, t) hok); obtain ⟨cN, hcN, -, hcN2⟩ := hC.at0 (x, t) hok
      have hc0 : c0 = (cN : Int) := by rw [hat] at hcN; simpa using hcN
      subst hc0; have hwr : IntKind.i64.wrap ((cN : Int) + 1) = (cN : Int) + 1 := IntWalk.i64_in _ (by omega); obtain ⟨w6, hes, ho6, hg6⟩ := hst ((cN : Int) + 1) (Go.WalkArith.wf_i64 (by omega))
      replace hes : (Instr.entryStore 155 (.map (some m)) (.int .i64 st) (.int .i64 ((cN : Int) + 1))).run Tryz.prog w5 = .ok () w6 := hes
      have hpm := HK.out.ne
      have hqm : wr.heap.size ≠ m := by have := hlt4.2; omega
      have kq := HQ.out; have kp := HK4.out.box; have kq5 := hg5.block _ (blk_lt kq) (fun e => by injection e with e; exact hqm e); have kp5 := hg5.block _ (blk_lt kp) (fun e => by injection e with e; exact hpm e)
      rw [kq] at kq5
      rw [kp] at kp5
      have p0 : (wr.alloc (.cells #[.int .i64 x, .string t] 84 (0, 0))).drew.cell? ⟨p, 0, none⟩ = some (.map (some m)) := by rw [blk_cell kp]; rfl
      have q0 : (wr.alloc (.cells #[.int .i64 x, .string t] 84 (0, 0))).drew.cell? ⟨wr.heap.size, 0, none⟩ = some (.int .i64 x) := by rw [blk_cell kq]; rfl
      have q1 : (wr.alloc (.cells #[.int .i64 x, .string t] 84 (0, 0))).drew.cell? ⟨wr.heap.size, 1, none⟩ = some (.string t) := by rw [blk_cell kq]; rfl
      have p05 : w5.cell? ⟨p, 0, none⟩ = some (.map (some m)) := by rw [blk_cell kp5]; rfl
      have q05 : w5.cell? ⟨wr.heap.size, 0, none⟩ = some (.int .i64 x) := by rw [blk_cell kq5]; rfl
      have q15 : w5.cell? ⟨wr.heap.size, 1, none⟩ = some (.string t) := by rw [blk_cell kq5]; rfl
      have HG6 := Lib.hid hg6
      have HO6 := Lib.hid (show BookAt w6 p m (noteP l0 (sigs.take (k + 1))) (N + (k + 1)) from
        ⟨by have := hg6.block _ (blk_lt kp) (fun e => by injection e with e; exact hpm e); rw [this]; exact kp, _, _, ho6, by omega, by rw [HT.out, noteP_snoc]; exact (hC.put (ho.tidy sigK) hok hat).mono (by omega)⟩)
      clear hba hq hat hcN hC ho hst hy kq kp kq5 kp5 hg5 ho6 hg6 HK HK4 HQ hn1
      unfold sgV at *
      dsimp only at *
      go_upto_region 4 with (fail)
      clear x0 x1
      refine wp_region_one 9 7 (fun i => match i with
        | 0 => .pointer (some ⟨p, 0, none⟩)
        | 1 => .pointer (some ⟨p, 0, none⟩)
        | 2 => .pointer (some ⟨p, 0, none⟩)
        | 3 => .map (some m)
        | 4 => .agg #[.int .i64 x, .string t]
        | 5 => .int .i64 cN
        | 6 => .int .i64 ((cN : Int) + 1)
        | 7 => .tuple #[v, .int .i64 st]
        | _ => .int .i64 st) w5 rfl (by omega) (by kernel_rfl) (by kernel_rfl) (fun i o hi hik ho => ?_) (fun o ho => ?_) ?_
      · have hi' : i = 0 ∨ i = 1 ∨ i = 2 ∨ i = 3 ∨ i = 4 ∨ i = 5 ∨ i = 6 ∨ i = 8 := by omega
        rcases hi' with rfl | rfl | rfl | rfl | rfl | rfl | rfl | rfl
        · obtain rfl := Option.some.inj ho
          refine ⟨fun a hE hF K hK => ?_, fun a hE hF K hK => ?_⟩
          all_goals (have g0 : a.eval (.tmp 0) = .pointer (some ⟨p, 0, none⟩) := hE 0 (by decide); exact news_val rfl rfl (by generalize a.eval = ρ at g0; simp only [execOp]; go_simp) hK)
        · obtain rfl := Option.some.inj ho
          refine ⟨fun a hE hF K hK => ?_, fun a hE hF K hK => ?_⟩
          all_goals (have g0 : a.eval (.tmp 14) = .pointer (some ⟨p, 0, none⟩) := hF ⟨0, .data⟩ (by simp) rfl 14 rfl; exact news_val rfl rfl (by generalize a.eval = ρ at g0; simp only [execOp]; go_simp) hK)
        · obtain rfl := Option.some.inj ho
          refine ⟨fun a hE hF K hK => ?_, fun a hE hF K hK => ?_⟩
          all_goals (have g0 : a.eval (.tmp 15) = .pointer (some ⟨p, 0, none⟩) := hF ⟨1, .data⟩ (by simp) rfl 15 rfl; exact news_val rfl rfl (by generalize a.eval = ρ at g0; simp only [execOp]; go_simp) hK)
        · obtain rfl := Option.some.inj ho
          refine ⟨fun a hE hF K hK => ?_, fun a hE hF K hK => ?_⟩
          all_goals (have g0 : a.eval (.tmp 16) = .pointer (some ⟨p, 0, none⟩) := hF ⟨2, .data⟩ (by simp) rfl 16 rfl; exact news_val rfl rfl (by generalize a.eval = ρ at g0; simp only [execOp]; go_simp) hK)
        · obtain rfl := Option.some.inj ho
          refine ⟨fun a hE hF K hK => ?_, fun a hE hF K hK => ?_⟩
          all_goals (have g0 : a.eval (.tmp 5) = .pointer (some ⟨wr.heap.size, 0, none⟩) := hE 5 (by decide); exact news_val rfl rfl (by generalize a.eval = ρ at g0; simp only [execOp]; go_simp) hK)
        · obtain rfl := Option.some.inj ho
          refine ⟨fun a hE hF K hK => ?_, fun a hE hF K hK => ?_⟩
          all_goals (have g0 : a.eval (.tmp 17) = .map (some m) := hF ⟨3, .data⟩ (by simp) rfl 17 rfl; have g1 : a.eval (.tmp 18) = .agg #[.int .i64 x, .string t] := hF ⟨4, .data⟩ (by simp) rfl 18 rfl; exact news_val rfl rfl (by generalize a.eval = ρ at g0 g1; simp only [execOp]; go_simp) hK)
        · obtain rfl := Option.some.inj ho
          refine ⟨fun a hE hF K hK => ?_, fun a hE hF K hK => ?_⟩
          all_goals (have g0 : a.eval (.tmp 19) = .int .i64 cN := hF ⟨5, .data⟩ (by simp) rfl 19 rfl; have g1 : a.eval (.const (.int .i64 1)) = .int .i64 1 := rfl; exact news_val rfl rfl (by generalize a.eval = ρ at g0 g1; simp only [execOp]; go_simp) hK)
        · obtain rfl := Option.some.inj ho
          refine ⟨fun a hE hF K hK => ?_, fun a hE hF K hK => ?_⟩
          all_goals (have g0 : a.eval (.tmp 21) = .tuple #[v, .int .i64 st] := hF ⟨7, .data⟩ (by simp) rfl 21 rfl; exact news_val rfl rfl (by generalize a.eval = ρ at g0; simp only [execOp]; go_simp) hK)
      · obtain rfl := Option.some.inj ho
        intro a hE hF K hK; have g0 : a.eval (.tmp 17) = .map (some m) := hF ⟨3, .data⟩ (by simp) rfl 17 rfl; have g1 : a.eval (.tmp 18) = .agg #[.int .i64 x, .string t] := hF ⟨4, .data⟩ (by simp) rfl 18 rfl
        exact news_val rfl rfl (by generalize a.eval = ρ at g0 g1; simp only [execOp]; go_simp) hK
      · show wpList _ _ _ _ (((((((((Act.put _ (some 14) (.pointer (some ⟨p, 0, none⟩))).put (some 15) (.pointer (some ⟨p, 0, none⟩))).put (some 16) (.pointer (some ⟨p, 0, none⟩))).put (some 17) (.map (some m))).put (some 18) (.agg #[.int .i64 x, .string t])).put (some 19) (.int .i64 cN)).put (some 20) (.int .i64 ((cN : Int) + 1))).put (some 21) (.tuple #[v, .int .i64 st])).put (some 22) (.int .i64 st)) _
        simp only [List.drop_succ_cons, List.drop_zero, Act.put, List.setIfInBounds_toArray, List.set_cons_succ, List.set_cons_zero]
        go_wp2_with fail
        go_roundw
        case rel => exact ⟨k + 1, by omega, by go_num, HO6, Lib.hid (HW4.out.trans (X' := fun k => k = m) ⟨HG6.out.os, HG6.out.tape, HG6.out.output, HG6.out.size, fun j h1 h2 => HG6.out.block j h1 (fun e => by injection e with e; exact h2 e)⟩ (fun _ _ h => h))⟩
        case measure => simp [intOf]; omega
    · have hkn : k = n := by omega
      subst hkn
      have hd : decide ((k : Int) < (k : Int)) = false := by simp
      have HT := Lib.hid (show sigs.take k = sigs by rw [List.take_of_length_le (by omega)])
      go_wp2_with fail
      go_end0
      exact ⟨rfl, by rw [← HT.out]; exact HK.out, HW.out⟩
end Go.Proofs.YtijeieamodjgbaaGreat
/- The book of signatures: Has, Len, Derivable; a book that isn't there. -/
namespace Go.Proofs.YtijeieamodjgbaaGreat
set_option maxRecDepth 100000
open Go.RowKit Go.Maps
set_option linter.unusedVariables false
set_option linter.unusedSimpArgs false
def BookIs (w : World) (v : Value) (l : List Sg) : Prop := (v = .pointer none ∧ l = []) ∨ ∃ p m N, v = .pointer (some ⟨p, 0, none⟩) ∧ BookAt w p m l N ∧ N < 4611686018427387904
theorem BookIs.old {w w' : World} {v : Value} {l : List Sg} (h : BookIs w v l) (hb : Below w.heap.size w w') : BookIs w' v l := by
  rcases h with h | ⟨p, m, N, h1, h2, h3⟩
  · exact .inl h
  · exact .inr ⟨p, m, N, h1, h2.old hb, h3⟩
set_option maxHeartbeats 1000000 in
theorem bhas_any (v : Value) (l : List Sg) (s : Sg) (w : World) (hB : BookIs w v l) (hs : sgOk s) :
    Calls Tryz.prog 100 #[v, sgV s] w fun e w' => e = .returned (.bool (decide (s ∈ l))) ∧ Below w.heap.size w w' := by
  obtain ⟨x, t⟩ := s
  unfold sgV
  dsimp only
  rcases hB with ⟨rfl, rfl⟩ | ⟨p, m, N, rfl, hB, hN⟩
  · rw [show decide ((x, t) ∈ ([] : List Sg)) = false by simp]
    go_enter Tryz.func100, Tryz.ntmps100
    go_wp2_with fail
    go_quiet (fail)
    go_wp2_with fail
    go_ret
    exact ⟨rfl, below_drewN (below_alloc _ _) _⟩
  · have hba := below_alloc w (.cells #[.int .i64 x, .string t] 84 (0, 0))
    have hB2 : BookAt (w.alloc (.cells #[.int .i64 x, .string t] 84 (0, 0))) p m l N := hB.old hba; have kq := blk_alloc w (.cells #[.int .i64 x, .string t] 84 (0, 0)); obtain ⟨n1, D, ho, hn1, hC⟩ := hB2.mp
    have hl : ∃ c : Int, D.atKey (sgL (x, t)) (li 0) = li c ∧ ∀ q, (Instr.lookup 155 (.map (some m)) (sgV (x, t)) false).run Tryz.prog ((w.alloc (.cells #[.int .i64 x, .string t] 84 (0, 0))).drewN q) = .ok (.int .i64 c) ((w.alloc (.cells #[.int .i64 x, .string t] 84 (0, 0))).drewN q) := by
      obtain ⟨c, _, hat, -⟩ := ho.lookup_int sigK Tryz.underlying155 Tryz.underlying3 (zeroInt _) (sgKey (x, t) hs)
      refine ⟨c, hat, fun q => ?_⟩
      have ho' : ((w.alloc (.cells #[.int .i64 x, .string t] 84 (0, 0))).drewN q).ownsMap Tryz.prog 84 intE m n1 D := ho; obtain ⟨c', hl, hat', -⟩ := ho'.lookup_int sigK Tryz.underlying155 Tryz.underlying3 (zeroInt _) (sgKey (x, t) hs)
      rw [hat] at hat'
      have : c = c' := by simpa using hat'
      rw [this]; exact hl
    obtain ⟨c, hat, hl⟩ := hl; obtain ⟨cN, hcN, hpos, -⟩ := hC.at0 (x, t) hs
    have hc0 : c = (cN : Int) := by rw [hat] at hcN; simpa using hcN
    subst hc0
    have hd : decide (0 < cN) = decide ((x, t) ∈ l) := by
      rw [Bool.eq_iff_iff, decide_eq_true_iff, decide_eq_true_iff, ← hpos]
    have p0 : (w.alloc (.cells #[.int .i64 x, .string t] 84 (0, 0))).cell? ⟨p, 0, none⟩ = some (.map (some m)) := by rw [blk_cell hB2.box]; rfl
    have q0 : (w.alloc (.cells #[.int .i64 x, .string t] 84 (0, 0))).cell? ⟨w.heap.size, 0, none⟩ = some (.int .i64 x) := by rw [blk_cell kq]; rfl
    have q1 : (w.alloc (.cells #[.int .i64 x, .string t] 84 (0, 0))).cell? ⟨w.heap.size, 1, none⟩ = some (.string t) := by rw [blk_cell kq]; rfl
    unfold sgV at hl
    dsimp only at hl
    have B := Lib.hid hba
    generalize decide ((x, t) ∈ l) = r at *
    clear hB hB2 kq ho hn1 hC hat hcN hpos hba hs
    go_enter Tryz.func100, Tryz.ntmps100
    go_wp2_with fail
    go_quiet (fail)
    go_wp2_with fail
    go_ret
    exact ⟨by rw [← hd]; rfl, below_drewN B.out _⟩
def derivP (l : List Sg) (bad : List Int) (sigs : List Sg) : Bool := sigs.all fun s => hasB bad s.1 || decide (s ∈ l)
theorem derivP_take {l : List Sg} {bad : List Int} {sigs : List Sg} {k : Nat} {s : Sg} (h : sigs[k]? = some s) : derivP l bad (sigs.take (k + 1)) = (derivP l bad (sigs.take k) && (hasB bad s.1 || decide (s ∈ l))) := by
  rw [derivP, List.take_add_one, h]; simp [derivP]
theorem derivP_no {l : List Sg} {bad : List Int} {sigs : List Sg} {k : Nat} {s : Sg} (h : sigs[k]? = some s) (hn : (hasB bad s.1 || decide (s ∈ l)) = false) : derivP l bad sigs = false := by
  cases hd : derivP l bad sigs with
  | false => rfl
  | true =>
    rw [derivP, List.all_eq_true] at hd
    have := hd s (List.mem_of_getElem? h)
    rw [hn] at this; cases this
set_option maxHeartbeats 2000000 in
theorem bderiv_any (v : Value) (l : List Sg) (ba : Option Addr) (bn bc : Nat) (bad : List Int) (a : Option Addr) (n c : Nat) (sigs : List Sg) (w : World) (hB : BookIs w v l) (hb : IntsAt w ba bn bad) (hS : SlAt shSig w a n c sigs) :
    Calls Tryz.prog 53 #[v, .slice ba bn bc, .slice a n c] w fun e w' => e = .returned (.bool (derivP l bad sigs)) ∧ Below w.heap.size w w' := by
  have hlen := hS.len; have hnm : n ≤ 9223372036854775807 := Nat.le_trans hS.cap hS.max; have HB := Lib.hid hB; have HI := Lib.hid hb; have HS := Lib.hid hS; clear hB hb hS
  go_enter Tryz.func53, Tryz.ntmps53
  go_wp2_with fail
  go_loopw [11] (fun i wr => ∃ k : Nat, k ≤ n ∧ i = .int .i64 k ∧ Hid (derivP l bad (sigs.take k) = true) ∧ Hid (Below w.heap.size w wr)) (fun i _ => n - (intOf i).toNat)
  case atStart => exact ⟨0, by omega, rfl, Lib.hid rfl, Lib.hid (Below.refl _ _)⟩
  case round =>
    obtain ⟨k, hk, rfl, HD, HW⟩ := hrel
    by_cases hlt : k < n
    · have hd : decide ((k : Int) < (n : Int)) = true := by simp; omega
      have hS1 := HS.out.old HW.out; obtain ⟨bb, o, x, t, rfl, hy, x0, x1, h1, h2⟩ := sig_cells hS1 hlt; have hba := below_alloc wr (.cells #[.int .i64 x, .string t] 84 (0, 0)); have hW4 := bthen HW.out hba; have CC := contains_any ba bn bc bad x _ (HI.out.below hW4); have CH := bhas_any v l (x, t) _ (HB.out.old hW4) ⟨h1, h2⟩; have HT := Lib.hid (derivP_take (l := l) (bad := bad) hy); have HN := Lib.hid (fun h => derivP_no (l := l) (bad := bad) hy h)
      have q0 : (wr.alloc (.cells #[.int .i64 x, .string t] 84 (0, 0))).cell? ⟨wr.heap.size, 0, none⟩ = some (.int .i64 x) := by rw [blk_cell (blk_alloc _ _)]; rfl
      have q1 : (wr.alloc (.cells #[.int .i64 x, .string t] 84 (0, 0))).cell? ⟨wr.heap.size, 1, none⟩ = some (.string t) := by rw [blk_cell (blk_alloc _ _)]; rfl
      have W4 := Lib.hid hW4; have CC := Lib.hid CC
      unfold sgV at CH
      dsimp only at CH HT HN
      have CH := Lib.hid CH
      generalize hasB bad x = r1 at *
      generalize decide ((x, t) ∈ l) = r2 at *
      clear hS1 hba hW4 hy
      go_upto_region 4 with (fail)
      clear x0 x1
      generalize wr.alloc (.cells #[.int .i64 x, .string t] 84 (0, 0)) = w4 at *
      go_wp2_with fail
      refine CC.out.mono ?_
      rintro r w5 ⟨rfl, rfl⟩
      cases r1 with
      | true =>
        go_wp2_with fail
        go_roundw
        case rel => exact ⟨k + 1, by omega, by go_num, Lib.hid (by rw [HT.out, HD.out]; rfl), W4⟩
        case measure => simp [intOf]; omega
      | false =>
        go_wp2_with fail
        refine CH.out.mono ?_
        rintro r w6 ⟨rfl, b6⟩
        have W6 := Lib.hid (bthen W4.out b6); clear b6
        cases r2 with
        | true =>
          go_wp2_with fail
          go_roundw
          case rel => exact ⟨k + 1, by omega, by go_num, Lib.hid (by rw [HT.out, HD.out]; rfl), W6⟩
          case measure => simp [intOf]; omega
        | false =>
          go_wp2_with fail
          go_ret
          exact ⟨by rw [HN.out rfl]; rfl, W6.out⟩
    · have hkn : k = n := by omega
      subst hkn
      have hd : decide ((k : Int) < (k : Int)) = false := by simp
      have HT := Lib.hid (show derivP l bad sigs = true by have := HD.out; rwa [List.take_of_length_le (by omega)] at this)
      go_wp2_with fail
      go_ret
      exact ⟨by rw [HT.out]; rfl, HW.out⟩
end Go.Proofs.YtijeieamodjgbaaGreat
