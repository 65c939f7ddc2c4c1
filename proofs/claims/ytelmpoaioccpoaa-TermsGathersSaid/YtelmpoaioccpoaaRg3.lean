
/- Walk of the reference's Gather. -/
import Derived.Test.YtelmpoaioccpoaaRg2
namespace Go.Proofs.Ytelmpoaioccpoaa
set_option maxRecDepth 100000
open Go.RowKit
set_option linter.unusedVariables false
set_option linter.unusedSimpArgs false

set_option maxHeartbeats 2000000 in
theorem rgather_any (e : Int) (ma : Option Addr) (mn mc : Nat) (ms : List Int) (text : ByteArray) (a : Option Addr) (n c : Nat) (sigs : List Sg) (w : World) (hM : IntsAt w ma mn ms) (hS : SlAt shSig w a n c sigs) (ht : text.size ≤ 140737488351232) :
    Calls Try.prog 14 #[.agg #[.int .i64 e, .slice ma mn mc], .string text, .slice a n c] w fun r w' => ∃ v, r = .returned v ∧ w'.ownsRow w.heap.size 34 2 v (gatP text sigs ms).length (flatV (gatP text sigs ms)) ∧ Below w.heap.size w w' := by
  have hlen := hS.len
  have hsb : n * 24 ≤ 140737488355328 := hS.bytes
  have hnm : mn ≤ 9223372036854775807 := hM.max
  have hml := hM.len
  obtain ⟨ii, hi, hz0, hz1, hz2⟩ := info_parts info_sig9
  have hb0 := below_alloc w (.cells #[.int .i64 e, .slice ma mn mc] 24 (0, 0))
  have hbx := blk_alloc w (.cells #[.int .i64 e, .slice ma mn mc] 24 (0, 0))
  have HM := Lib.hid hM; have HS := Lib.hid hS; have HX := Lib.hid hbx; have B0 := Lib.hid hb0; have HT := Lib.hid ht
  clear hS hM hb0 hbx ht
  go_enter Try.func14, Try.ntmps14
  go_wp2_with fail
  generalize w.alloc (.cells #[.int .i64 e, .slice ma mn mc] 24 (0, 0)) = w1 at *
  go_loopw [7, 8] (fun out i wr => ∃ k : Nat, k ≤ mn ∧ i = .int .i64 k ∧ Hid (wr.ownsRow w1.heap.size 34 2 out (gatU text sigs (ms.take k)).length (flatV (gatU text sigs (ms.take k)))) ∧ Hid (Below w1.heap.size w1 wr)) (fun _ i _ => mn - (intOf i).toNat)
  case atStart => exact ⟨0, by omega, rfl, Lib.hid (World.ownsRow_nil _ _ _ _), Lib.hid (Below.refl _ _)⟩
  case round =>
    obtain ⟨k, hk, rfl, HR, HW⟩ := hrel
    have HWW := Lib.hid (bthen B0.out HW.out)
    have y1 : wr.cell? ⟨w.heap.size, 1, none⟩ = some (.slice ma mn mc) := by rw [blk_cell (blk_below HX.out HW.out)]; rfl
    have hgl := gatU_le text sigs (ms.take k)
    by_cases hlt : k < mn
    · have hd : decide ((k : Int) < (mn : Int)) = true := by simp; omega
      obtain ⟨bb, o, rfl, hx0⟩ := (HM.out.below HWW.out).cell k hlt
      obtain ⟨x, hx⟩ : ∃ x, ms[k]? = some x := ⟨_, List.getElem?_eq_getElem (by omega)⟩
      have hgx : ms.getD k 0 = x := by simp [List.getD, hx]
      rw [hgx] at hx0
      have hfx : i64 x := HM.out.fit x (List.mem_of_getElem? hx)
      have HT1 := Lib.hid (show ms.take (k + 1) = ms.take k ++ [x] by rw [List.take_add_one, hx]; rfl)
      have hrow := HR.out
      obtain ⟨av, cv, rfl⟩ := owns_form hrow
      have hok : ∀ s ∈ gatU text sigs (ms.take k), sgOk s := fun s hs => by
        have := ((gatU_fact text sigs (ms.take k)).2 s).1 hs
        obtain ⟨s1, s2⟩ := s
        obtain ⟨-, h2, h3⟩ := this
        dsimp only at h2 h3
        exact ⟨HM.out.fit s1 (List.mem_of_mem_take h3), by rw [h2]; exact HT.out⟩
      have hba := below_alloc wr (.cells #[.int .i64 x, .string text] 34 (0, 0))
      have C1 := stands_any a n c sigs (x, text) _ (HS.out.old (bthen HWW.out hba))
      have C2 := Lib.hid (fun (w' : World) (hb : Below (wr.alloc (.cells #[.int .i64 x, .string text] 34 (0, 0))).heap.size (wr.alloc (.cells #[.int .i64 x, .string text] 34 (0, 0))) w') => stands_any av (gatU text sigs (ms.take k)).length cv (gatU text sigs (ms.take k)) (x, text) w' (sl_owned (owns_old (owns_old hrow hba) hb) hok (by omega)))
      have KQ := Lib.hid (blk_alloc wr (.cells #[.int .i64 x, .string text] 34 (0, 0)))
      have HO4 := Lib.hid (owns_old hrow hba)
      have W4 := Lib.hid (bthen HW.out hba)
      have G1 := Lib.hid (show ((x, text) ∈ sigs ∧ (x, text) ∉ gatU text sigs (ms.take k)) → gatU text sigs (ms.take (k + 1)) = gatU text sigs (ms.take k) ++ [(x, text)] from fun h => by rw [HT1.out, gatU_snoc, if_pos h])
      have G2 := Lib.hid (show ¬ ((x, text) ∈ sigs ∧ (x, text) ∉ gatU text sigs (ms.take k)) → gatU text sigs (ms.take (k + 1)) = gatU text sigs (ms.take k) from fun h => by rw [HT1.out, gatU_snoc, if_neg h])
      have hlen1 : (x, text) ∈ sigs → (x, text) ∉ gatU text sigs (ms.take k) → (gatU text sigs (ms.take k)).length + 1 ≤ n := fun h1 h2 => by
        have := gatU_le text sigs (ms.take (k + 1))
        rw [G1.out ⟨h1, h2⟩, List.length_append] at this
        simp at this; omega
      replace hlen1 := Lib.hid hlen1
      unfold sgV at C1 C2
      dsimp only at C1 C2
      have q0 : (wr.alloc (.cells #[.int .i64 x, .string text] 34 (0, 0))).cell? ⟨wr.heap.size, 0, none⟩ = some (.int .i64 x) := by rw [blk_cell KQ.out]; rfl
      have q1 : (wr.alloc (.cells #[.int .i64 x, .string text] 34 (0, 0))).cell? ⟨wr.heap.size, 1, none⟩ = some (.string text) := by rw [blk_cell KQ.out]; rfl
      clear hba hx hgx hok hrow
      by_cases hin : (x, text) ∈ sigs
      · rw [decide_eq_true hin] at C1
        replace C1 := Lib.hid C1
        go_upto_region 6 with (fail)
        clear hx0 y1
        generalize hq : wr.heap.size = q at *
        generalize wr.alloc (.cells #[.int .i64 x, .string text] 34 (0, 0)) = w4 at *
        go_wp2_with fail
        refine C1.out.mono ?_
        rintro r w5 ⟨rfl, b5⟩
        have C2 := C2.out w5 b5
        have KQ := Lib.hid (blk_below KQ.out b5)
        have HO5 := Lib.hid (owns_old HO4.out b5)
        have W5 := Lib.hid (bthen W4.out b5)
        clear b5 C1 HO4 W4 q0 q1
        have q0 : w5.cell? ⟨q, 0, none⟩ = some (.int .i64 x) := by rw [blk_cell KQ.out]; rfl
        have q1 : w5.cell? ⟨q, 1, none⟩ = some (.string text) := by rw [blk_cell KQ.out]; rfl
        by_cases hout : (x, text) ∈ gatU text sigs (ms.take k)
        · rw [decide_eq_true hout] at C2
          replace C2 := Lib.hid C2
          have HU := Lib.hid (G2.out (fun h => h.2 hout))
          go_wp2_with fail
          refine C2.out.mono ?_
          rintro r w6 ⟨rfl, b6⟩
          have HO6 := Lib.hid (owns_old HO5.out b6)
          have W6 := Lib.hid (bthen W5.out b6)
          clear b6 C2 HO5 W5 q0 q1
          go_wp2_with fail
          go_roundw
          case rel => exact ⟨k + 1, by omega, by go_num, by rw [HU.out]; exact HO6, W6⟩
          case measure => simp [intOf]; omega
        · rw [decide_eq_false hout] at C2
          replace C2 := Lib.hid C2
          have HU := Lib.hid (G1.out ⟨hin, hout⟩)
          have hl1 := hlen1.out hin hout
          go_wp2_with fail
          refine C2.out.mono ?_
          rintro r w6 ⟨rfl, b6⟩
          have HO6 := Lib.hid (owns_old (owns_old HO5.out b6) (below_alloc w6 (.cells #[.int .i64 x, .string text] 34 (0, 0))))
          have W6 := Lib.hid (bthen W5.out b6)
          have KQ := Lib.hid (blk_below KQ.out b6)
          clear b6 C2 HO5 W5 q0 q1
          have q0 : w6.cell? ⟨q, 0, none⟩ = some (.int .i64 x) := by rw [blk_cell KQ.out]; rfl
          have q1 : w6.cell? ⟨q, 1, none⟩ = some (.string text) := by rw [blk_cell KQ.out]; rfl
          have hsz6 := W6.out.size
          go_wp2_with (first | (at_builtin; refine wpList_append_own _ rfl (.tmp 36) (.tmp 38) 25 rfl w1.heap.size 34 ii (.agg #[.int .i64 0, .string ⟨#[]⟩]) 2 24 Try.underlying25 hi hz0 hz1 hz2 rfl (by decide) (.slice av (gatU text sigs (ms.take k)).length cv) (gatU text sigs (ms.take k)).length (flatV (gatU text sigs (ms.take k))) rfl HO6.out ⟨w6.heap.size, 0, none⟩ 1 1 [.int .i64 x, .string text] rfl rfl (sig_new w6 x text) (by simp [Value.oneCell']) (by unfold maxLen; omega) (by omega) (by simp; omega) ?_) | fail)
          intro v8 w8 hown8 hg8 hnil8
          have hlt8 := HO6.out.lt
          have W8 := Lib.hid (show Below w1.heap.size w1 w8 from grown_below (bthen W6.out (below_alloc w6 (.cells #[.int .i64 x, .string text] 34 (0, 0)))) hg8 (fun j hj => (hlt8 j hj).1))
          have HR8 := Lib.hid (show w8.ownsRow w1.heap.size 34 2 v8 (gatU text sigs (ms.take (k + 1))).length (flatV (gatU text sigs (ms.take (k + 1)))) by
            rw [HU.out, flatV_snoc, List.length_append]; exact hown8)
          clear hown8 hg8 hlt8
          go_wp2_with fail
          go_roundw
          case rel => exact ⟨k + 1, by omega, by go_num, HR8, W8⟩
          case measure => simp [intOf]; omega
      · rw [decide_eq_false hin] at C1
        replace C1 := Lib.hid C1
        have HU := Lib.hid (G2.out (fun h => hin h.1))
        go_upto_region 6 with (fail)
        clear hx0 y1
        generalize wr.alloc (.cells #[.int .i64 x, .string text] 34 (0, 0)) = w4 at *
        go_wp2_with fail
        refine C1.out.mono ?_
        rintro r w5 ⟨rfl, b5⟩
        have HO5 := Lib.hid (owns_old HO4.out b5)
        have W5 := Lib.hid (bthen W4.out b5)
        clear b5 C1 C2 HO4 W4 q0 q1
        go_wp2_with fail
        go_roundw
        case rel => exact ⟨k + 1, by omega, by go_num, by rw [HU.out]; exact HO5, W5⟩
        case measure => simp [intOf]; omega
    · have hkn : k = mn := by omega
      subst hkn
      have hd : decide ((k : Int) < (k : Int)) = false := by simp
      have hTT : ms.take k = ms := List.take_of_length_le (by omega)
      rw [hTT] at HR hgl
      have hu := owns_form HR.out
      obtain ⟨av, cv, rfl⟩ := hu
      have HP := Lib.hid (fun (l : List Sg) (hp : l.Perm (gatU text sigs ms)) (hs : l.Pairwise (fun x y => ¬ y.1 < x.1)) => gat_unique hp hs)
      clear hTT HM HS HT hml
      generalize gatU text sigs ms = U at *
      have hcap : U.length ≤ cv ∧ cv ≤ 9223372036854775807 := by
        rcases HR.out.2 with ⟨hv, h0⟩ | ⟨g, cap, cur, hv, hB, hg, hnc, hcm, _, _⟩
        · injection hv with h1 h2 h3
          omega
        · injection hv with h1 h2 h3
          have hmax : maxLen = 9223372036854775807 := rfl
          omega
      obtain ⟨un, hun⟩ : ∃ un, un = U.length := ⟨_, rfl⟩
      rw [← hun] at HR hgl hcap ⊢
      have HUN := Lib.hid hun
      clear hun
      go_wp2_with fail
      go_loopw [10, 11, 12] (fun i _ _ wq => ∃ p : Nat, p ≤ un ∧ i = .int .i64 p ∧ (∃ cur : List Sg, Hid (wq.ownsRow w1.heap.size 34 2 (.slice av un cv) un (flatV cur)) ∧ Hid (cur.Perm U) ∧ Hid (SortTo cur p)) ∧ Hid (Below w1.heap.size w1 wq)) (fun i _ _ _ => un - (intOf i).toNat)
      case atStart => exact ⟨0, by omega, rfl, ⟨U, HR, Lib.hid (List.Perm.refl _), Lib.hid (fun p q x y h1 h2 => by omega)⟩, HW⟩
      case round =>
        obtain ⟨p, hp, rfl, ⟨cur, HC, HPm, HSt⟩, HQ⟩ := hrel
        by_cases hlp : p < un
        · have hd : decide ((p : Int) < (un : Int)) = true := by simp; omega
          have hcl : cur.length = un := by rw [HPm.out.length_eq, ← HUN.out]
          obtain ⟨g, rfl⟩ : ∃ g, av = some ⟨g, 0, none⟩ := by
            rcases HC.out.2 with ⟨hv, h0⟩ | ⟨g, cap, c0, hv, _⟩
            · omega
            · injection hv with h1; exact ⟨g, h1⟩
          have hgB := Lib.hid (show w1.heap.size ≤ g from (HC.out.lt g rfl).1)
          clear y1
          go_wp2_with fail
          go_loopw [11, 12] (fun kk _ wz => ∃ q : Nat, q ≤ p ∧ kk = .int .i64 q ∧ (∃ cz : List Sg, Hid (wz.ownsRow w1.heap.size 34 2 (.slice (some ⟨g, 0, none⟩) un cv) un (flatV cz)) ∧ Hid (cz.Perm U) ∧ Hid (InvS cz p q)) ∧ Hid (Below w1.heap.size w1 wz)) (fun kk _ _ => (intOf kk).toNat)
          case atStart => exact ⟨p, by omega, rfl, ⟨cur, HC, HPm, Lib.hid (InvS.start HSt.out)⟩, HQ⟩
          case round =>
            obtain ⟨q, hq, rfl, ⟨cz, HCz, HPz, HIz⟩, HZ⟩ := hrel
            have hzl : cz.length = un := by rw [HPz.out.length_eq, ← HUN.out]
            cases q with
            | zero =>
              have HSo := Lib.hid (HIz.out.stop (.inl rfl))
              have hd0 : decide ((0 : Int) < 0) = false := by simp
              clear hzl hcl
              go_wp2_with fail
              go_quiet (fail)
              go_wp2_with fail
              go_roundw
              case rel => exact ⟨p + 1, by omega, by go_num, ⟨cz, Lib.hid HCz.out, HPz, HSo⟩, Lib.hid (below_drewN HZ.out _)⟩
              case measure => simp [intOf]; omega
            | succ q =>
              obtain ⟨A, hA⟩ : ∃ s, cz[q]? = some s := ⟨_, List.getElem?_eq_getElem (by omega)⟩
              obtain ⟨Bq, hB⟩ : ∃ s, cz[q + 1]? = some s := ⟨_, List.getElem?_eq_getElem (by omega)⟩
              obtain ⟨a0, a1⟩ := owns_cellS HCz.out hA
              obtain ⟨b0, b1⟩ := owns_cellS HCz.out hB
              have hwr : IntKind.i64.wrap ((q : Int) + 1 - 1) = (q : Int) := by
                have := IntWalk.i64_in ((q : Int) + 1 - 1) (by omega)
                rw [this]; omega
              by_cases hlt2 : Bq.1 < A.1
              · have hc : decide (Bq.1 < A.1) = true := by simpa using hlt2
                have HIn := Lib.hid (InvS.step HIz.out hq hA hB hlt2)
                have HPn := Lib.hid ((swp2_perm hA hB).trans HPz.out)
                clear hzl hcl hlt2 hA hB
                go_wp2_with fail
                go_quiet (fail)
                replace a0 : (wr.drewN nq).cell? ⟨g, q * 2, none⟩ = _ := a0
                replace a1 : (wr.drewN nq).cell? ⟨g, q * 2 + 1, none⟩ = _ := a1
                replace b0 : (wr.drewN nq).cell? ⟨g, (q + 1) * 2, none⟩ = _ := b0
                replace b1 : (wr.drewN nq).cell? ⟨g, (q + 1) * 2 + 1, none⟩ = _ := b1
                have HCy := Lib.hid (show (wr.drewN nq).ownsRow w1.heap.size 34 2 (.slice (some ⟨g, 0, none⟩) un cv) un (flatV cz) from HCz.out)
                have HZy := Lib.hid (below_drewN HZ.out nq)
                replace HZy : Hid (Below w1.heap.size w1 (wr.drewN nq)) := HZy
                clear HCz HZ HC HQ HR HW HWW
                generalize wr.drewN nq = wy at *
                have hgy := (HCy.out.lt g rfl).2
                have hne : ¬ wy.heap.size = g := by omega
                have hne2 : ¬ g = wy.heap.size := by omega
                have hba := below_alloc wy (.cells #[.int .i64 Bq.1, .string Bq.2] 34 (0, 0))
                have KB := Lib.hid (blk_alloc wy (.cells #[.int .i64 Bq.1, .string Bq.2] 34 (0, 0)))
                have HCv := Lib.hid (owns_old HCy.out hba)
                have HZv := Lib.hid (bthen HZy.out hba)
                have v0 := below_cell hba a0
                have v1 := below_cell hba a1
                have z0 := below_cell hba b0
                have z1 := below_cell hba b1
                go_upto_region 15 with (fail)
                clear a0 a1 b0 b1 hba HCy HZy hgy
                generalize wy.heap.size = nb at *
                generalize wy.alloc (.cells #[.int .i64 Bq.1, .string Bq.2] 34 (0, 0)) = wv at *
                have x0 : wv.cell? ⟨nb, 0, none⟩ = some (.int .i64 Bq.1) := by rw [blk_cell KB.out]; rfl
                have x1 : wv.cell? ⟨nb, 1, none⟩ = some (.string Bq.2) := by rw [blk_cell KB.out]; rfl
                have f0 : wv.frozen? ⟨g, q * 2, none⟩ = false := owns_frozen HCv.out _
                have f1 : wv.frozen? ⟨g, q * 2 + 1, none⟩ = false := owns_frozen HCv.out _
                have f2 : wv.frozen? ⟨g, (q + 1) * 2, none⟩ = false := owns_frozen HCv.out _
                have f3 : wv.frozen? ⟨g, (q + 1) * 2 + 1, none⟩ = false := owns_frozen HCv.out _
                have HCn := Lib.hid (owns_swap HCv.out q A Bq)
                have HZn := Lib.hid ((((HZv.out.setCell (p := ⟨g, (q + 1) * 2, none⟩) hgB.out (.int .i64 A.1)).setCell (p := ⟨g, (q + 1) * 2 + 1, none⟩) hgB.out (.string A.2)).setCell (p := ⟨g, q * 2, none⟩) hgB.out (.int .i64 Bq.1)).setCell (p := ⟨g, q * 2 + 1, none⟩) hgB.out (.string Bq.2))
                clear HCv HZv
                go_wp2_with fail
                go_roundw
                case rel => exact ⟨q, by omega, by go_num, ⟨_, HCn, HPn, HIn⟩, HZn⟩
                case measure => simp [intOf]
              · have hc : decide (Bq.1 < A.1) = false := by simpa using hlt2
                have HSo := Lib.hid (HIz.out.stop (.inr ⟨q, A, Bq, rfl, hA, hB, by omega⟩))
                clear hzl hcl hlt2 hA hB
                go_wp2_with fail
                go_quiet (fail)
                go_wp2_with fail
                go_roundw
                case rel => exact ⟨p + 1, by omega, by go_num, ⟨cz, Lib.hid HCz.out, HPz, HSo⟩, Lib.hid (below_drewN HZ.out _)⟩
                case measure => simp [intOf]; omega
        · have hpn : p = un := by omega
          subst hpn
          have hd : decide ((p : Int) < (p : Int)) = false := by simp
          have hcl : cur.length = p := by rw [HPm.out.length_eq, ← HUN.out]
          have hcur := HP.out cur HPm.out ((SortTo.all (by rw [hcl]; exact HSt.out)).imp (fun h => by omega))
          go_wp2_with fail
          go_ret
          exact ⟨_, rfl, by rw [← hcur, hcl]; exact owns_lower HC.out B0.out.size, bthen B0.out HQ.out⟩
end Go.Proofs.Ytelmpoaioccpoaa
