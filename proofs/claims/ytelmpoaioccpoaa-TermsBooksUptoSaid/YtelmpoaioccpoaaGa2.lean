
/- Walks of terms.Gather and terms.Count. -/
import Derived.Test.YtelmpoaioccpoaaGa
namespace Go.Proofs.Ytelmpoaioccpoaa
set_option maxRecDepth 100000
open Go.RowKit Go.Maps
set_option linter.unusedVariables false
set_option linter.unusedSimpArgs false

theorem info_sig9 : (Try.prog.info? 34).map (fun i => (i.zero, i.size, i.bytes)) = some (some (.agg #[.int .i64 0, .string ⟨#[]⟩]), 2, 24) := by kernel_rfl
theorem sig_new (w : World) (x : Int) (t : ByteArray) : ∀ j u, [Value.int .i64 x, .string t][j]? = some u → (w.alloc (.cells #[.int .i64 x, .string t] 34 (0, 0))).cell? ((⟨w.heap.size, 0, none⟩ : Addr).add j) = some u := by
  intro j u h
  rw [Addr.add_lit, blk_cell (blk_alloc w _), ← h]
  simp
theorem flatV_snoc (l : List Sg) (s : Sg) : flatV (l ++ [s]) = flatV l ++ [.int .i64 s.1, .string s.2] := by simp [flatV, encS]
/-- The row that a slice owns is no map. -/
theorem row_ne_map {w : World} {B e size n b N : Nat} {v : Value} {xs : List Value} {k : TypeId} {D : DataW Unit} (h : w.ownsRow B e size v n xs) (hm : w.ownsMap Try.prog k intE b N D) : some b ≠ v.ownBlock := by
  obtain ⟨es, clock, hb, _⟩ := hm
  rcases h.2 with ⟨rfl, _⟩ | ⟨g, cap, cur, rfl, _, hg, _⟩
  · simp [Value.ownBlock]
  · intro e1
    have : b = g := by simpa [Value.ownBlock] using e1
    subst this
    rw [hg] at hb
    cases hb

set_option maxHeartbeats 4000000 in
theorem gather_any (e : Int) (ma : Option Addr) (mn mc : Nat) (ms : List Int) (text : ByteArray) (a : Option Addr) (n c : Nat) (sigs : List Sg) (w : World) (hM : IntsAt w ma mn ms) (hS : SlAt shSig w a n c sigs) (ht : text.size ≤ 140737488351232) :
    Calls Try.prog 15 #[.agg #[.int .i64 e, .slice ma mn mc], .string text, .slice a n c] w fun r w' => ∃ v, r = .returned v ∧ w'.ownsRow w.heap.size 34 2 v (gatP text sigs ms).length (flatV (gatP text sigs ms)) ∧ Below w.heap.size w w' := by
  have hlen := hS.len
  have hsb : n * 24 ≤ 140737488355328 := hS.bytes
  have hnm : mn ≤ 9223372036854775807 := hM.max
  have hml := hM.len
  obtain ⟨ii, hi, hz0, hz1, hz2⟩ := info_parts info_sig9
  have hb0 := below_alloc w (.cells #[.int .i64 e, .slice ma mn mc] 24 (0, 0))
  have CG := Lib.hid (signers_any text a n c sigs _ (hS.old hb0) (by omega))
  have hbx := blk_alloc w (.cells #[.int .i64 e, .slice ma mn mc] 24 (0, 0))
  have HM := Lib.hid hM; have HX := Lib.hid hbx; have B0 := Lib.hid hb0; have HT := Lib.hid ht
  have hsz : (w.alloc (.cells #[.int .i64 e, .slice ma mn mc] 24 (0, 0))).heap.size = w.heap.size + 1 := by simp
  rw [hsz] at CG
  clear hS hM hb0 hbx ht
  go_enter Try.func15, Try.ntmps15
  go_wp2_with fail
  refine CG.out.mono ?_
  rintro r w1 ⟨D0, rfl, ho, hp, b1⟩
  have x1 : w1.cell? ⟨w.heap.size, 1, none⟩ = some (.slice ma mn mc) := by rw [blk_cell (blk_below HX.out (by rw [hsz]; exact b1))]; rfl
  have B1 : Hid (Below w.heap.size w w1) := Lib.hid (bthen B0.out (by rw [hsz]; exact b1))
  have HD := Lib.hid (show w1.ownsMap Try.prog 3 intE (w.heap.size + 1) n D0 ∧ PosD D0 (fun y => (y, text) ∈ sigs ∧ (y, text) ∉ gatU text sigs (ms.take 0)) n from ⟨ho, hp.mono (fun y => by simp [gatU]) (Nat.le_refl _)⟩)
  clear ho hp b1 CG HX B0 hsz
  go_wp2_with fail
  go_loopw [8, 10, 17] (fun out _ i wr => ∃ k : Nat, k ≤ mn ∧ i = .int .i64 k ∧ Hid (wr.ownsRow w.heap.size 34 2 out (gatU text sigs (ms.take k)).length (flatV (gatU text sigs (ms.take k)))) ∧ (∃ D, Hid (wr.ownsMap Try.prog 3 intE (w.heap.size + 1) n D ∧ PosD D (fun y => (y, text) ∈ sigs ∧ (y, text) ∉ gatU text sigs (ms.take k)) n)) ∧ Hid (Below w.heap.size w wr)) (fun _ _ i _ => mn - (intOf i).toNat)
  case atStart => exact ⟨0, by omega, rfl, Lib.hid (World.ownsRow_nil _ _ _ _), ⟨_, HD⟩, B1⟩
  case round =>
    obtain ⟨k, hk, rfl, HR, ⟨D, HD⟩, HW⟩ := hrel
    clear x1 B1
    by_cases hlt : k < mn
    · have hd : decide ((k : Int) < (mn : Int)) = true := by simp; omega
      obtain ⟨bb, o, rfl, hx0⟩ := (HM.out.below HW.out).cell k hlt
      obtain ⟨x, hx⟩ : ∃ x, ms[k]? = some x := ⟨_, List.getElem?_eq_getElem (by omega)⟩
      have hgx : ms.getD k 0 = x := by simp [List.getD, hx]
      rw [hgx] at hx0
      have hfx : i64 x := HM.out.fit x (List.mem_of_getElem? hx)
      have HT1 := Lib.hid (show ms.take (k + 1) = ms.take k ++ [x] by rw [List.take_add_one, hx]; rfl)
      obtain ⟨c0, hl, hat, -⟩ := HD.out.1.lookup_int intK Try.underlying55 Try.underlying3 (zeroInt _) (intKey x hfx)
      obtain ⟨cN, hcN, hpos, -⟩ := HD.out.2 x hfx
      have hc0 : c0 = (cN : Int) := by rw [hat] at hcN; simpa using hcN
      subst hc0
      by_cases hin : (x, text) ∈ sigs ∧ (x, text) ∉ gatU text sigs (ms.take k)
      · have hc : decide (0 < cN) = true := by simpa using hpos.2 hin
        have HU := Lib.hid (show gatU text sigs (ms.take (k + 1)) = gatU text sigs (ms.take k) ++ [(x, text)] by rw [HT1.out, gatU_snoc, if_pos hin])
        have hlen1 : (gatU text sigs (ms.take k)).length + 1 ≤ n := by
          have := gatU_le text sigs (ms.take (k + 1))
          rw [HU.out, List.length_append] at this
          simp at this; omega
        have HR4 := Lib.hid (owns_old HR.out (below_alloc wr (.cells #[.int .i64 x, .string text] 34 (0, 0))))
        have hrow := HR.out
        obtain ⟨av, cv, rfl⟩ := owns_form hrow
        clear hrow hat hcN hpos hx hgx
        go_wp2_with (first | (at_builtin; refine wpList_append_own _ rfl (.tmp 25) (.tmp 29) 25 rfl w.heap.size 34 ii (.agg #[.int .i64 0, .string ⟨#[]⟩]) 2 24 Try.underlying25 hi hz0 hz1 hz2 rfl (by decide) (.slice av (gatU text sigs (ms.take k)).length cv) (gatU text sigs (ms.take k)).length (flatV (gatU text sigs (ms.take k))) rfl HR4.out ⟨wr.heap.size, 0, none⟩ 1 1 [.int .i64 x, .string text] rfl rfl (sig_new wr x text) (by simp [Value.oneCell']) (by unfold maxLen; omega) (by omega) (by have := HW.out.size; simp; omega) ?_) | fail)
        intro v8 w8 hown8 hg8 hnil8
        have hab := below_alloc wr (.cells #[.int .i64 x, .string text] 34 (0, 0))
        have ho4 := (HD.out.1.alloc (.cells #[.int .i64 x, .string text] 34 (0, 0)))
        have ho8 := ho4.kept hg8 (row_ne_map HR4.out ho4)
        have hlt8 := HR4.out.lt
        have W8 := Lib.hid (grown_below (bthen HW.out hab) hg8 (fun j hj => (hlt8 j hj).1))
        have HR8 := Lib.hid (show w8.ownsRow w.heap.size 34 2 v8 (gatU text sigs (ms.take (k + 1))).length (flatV (gatU text sigs (ms.take (k + 1)))) by
          rw [HU.out, flatV_snoc, List.length_append]; exact hown8)
        have HP8 := Lib.hid (show PosD (D.del (.int .i64 x)) (fun y => (y, text) ∈ sigs ∧ (y, text) ∉ gatU text sigs (ms.take (k + 1))) n from (HD.out.2.del x).mono (fun y => by
          rw [HU.out, List.mem_append, List.mem_singleton, Prod.mk.injEq]
          constructor
          · rintro ⟨⟨a1, a2⟩, a3⟩; exact ⟨a1, fun h => h.elim a2 (fun h => a3 h.1)⟩
          · rintro ⟨a1, a2⟩; exact ⟨⟨a1, fun h => a2 (.inl h)⟩, fun h => a2 (.inr ⟨h, rfl⟩)⟩) (Nat.le_refl _))
        clear hown8 hg8 hab ho4 hlt8 hl
        go_wp2_with (first | (at_delete; refine wpList_delete_own _ rfl _ _ 55 3 rfl 3 intK Try.underlying55 _ (w.heap.size + 1) n D rfl ho8 _ _ rfl (intKey x hfx) ?_) | fail)
        intro w9 ho9 ht9
        have HR9 := Lib.hid (HR8.out.kept ht9.grown (by
          have := row_ne_map HR8.out ho8
          cases hb : v8.ownBlock with
          | none => exact .inl rfl
          | some j => right; intro e; rw [hb] at this; exact this e.symm))
        have W9 := Lib.hid (grown_below W8.out ht9.grown (fun j hj => by injection hj with hj; omega))
        have HD9 := Lib.hid (show w9.ownsMap Try.prog 3 intE (w.heap.size + 1) n (D.del (.int .i64 x)) ∧ _ from ⟨ho9, HP8.out⟩)
        clear ho8 ho9 ht9 HR8 W8 HP8
        go_wp2_with fail
        go_roundw
        case rel => exact ⟨k + 1, by omega, by go_num, HR9, ⟨_, HD9⟩, W9⟩
        case measure => simp [intOf]; omega
      · have hc : decide (0 < cN) = false := by
          rw [decide_eq_false_iff_not]
          exact fun h => hin (hpos.1 h)
        have HU := Lib.hid (show gatU text sigs (ms.take (k + 1)) = gatU text sigs (ms.take k) by rw [HT1.out, gatU_snoc, if_neg hin])
        clear hat hcN hpos hx hgx
        go_wp2_with fail
        go_roundw
        case rel => exact ⟨k + 1, by omega, by go_num, by rw [HU.out]; exact HR, ⟨D, by rw [HU.out]; exact HD⟩, HW⟩
        case measure => simp [intOf]; omega
    · have hkn : k = mn := by omega
      subst hkn
      have hd : decide ((k : Int) < (k : Int)) = false := by simp
      have hTT : ms.take k = ms := List.take_of_length_le (by omega)
      rw [hTT] at HR
      have hU := gatU_le text sigs ms
      have CSo := Lib.hid (sort_any w.heap.size u8 (gatU text sigs ms) wr HR.out (by omega))
      have hltr := Lib.hid HR.out.lt
      go_wp2_with fail
      refine CSo.out.mono ?_
      rintro r w5 ⟨rfl, l', hp, hs, ho5, hg5⟩
      have hl' := gat_unique hp (hs.imp (fun h => by omega))
      subst hl'
      have HO5 := Lib.hid ho5
      have W5 := Lib.hid (grown_below HW.out hg5 (fun j hj => (hltr.out j hj).1))
      clear ho5 hg5 hp hs
      go_wp2_with fail
      go_ret
      exact ⟨_, rfl, HO5.out, W5.out⟩

set_option maxHeartbeats 1000000 in
theorem count_any (e : Int) (ma : Option Addr) (mn mc : Nat) (ms : List Int) (text : ByteArray) (a : Option Addr) (n c : Nat) (sigs : List Sg) (w : World) (hM : IntsAt w ma mn ms) (hS : SlAt shSig w a n c sigs) (ht : text.size ≤ 140737488351232) :
    Calls Try.prog 13 #[.agg #[.int .i64 e, .slice ma mn mc], .string text, .slice a n c] w fun r w' => r = .returned (.int .i64 (gatP text sigs ms).length) ∧ Below w.heap.size w w' := by
  have hb0 := below_alloc w (.cells #[.int .i64 e, .slice ma mn mc] 24 (0, 0))
  have CG := Lib.hid (gather_any e ma mn mc ms text a n c sigs _ (hM.below hb0) (hS.old hb0) ht)
  have B0 := Lib.hid hb0
  generalize gatP text sigs ms = G at *
  clear hM hS ht hb0
  go_enter Try.func13, Try.ntmps13
  go_wp2_with fail
  refine CG.out.mono ?_
  rintro r w1 ⟨v, rfl, ho, b1⟩
  obtain ⟨av, cv, rfl⟩ := owns_form ho
  have B1 := Lib.hid (bthen B0.out b1)
  clear ho b1
  go_wp2_with fail
  go_ret
  exact ⟨rfl, B1.out⟩
end Go.Proofs.Ytelmpoaioccpoaa
