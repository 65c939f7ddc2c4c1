
/- LanesCount: each packet that comes is taken, dropped, under way, or lost for want of room, and no other one is; never are more under way than MaxLane: for every input within the bound the law returns true, and its arguments read as before. The bound is the given one of Upto; no other condition. -/
import Derived.Test.YtijeieamodjgbaaLq
import Derived.Test.YtijeieamodjgbaaView
namespace Go.Proofs.Ytijeieamodjgbaa.lanesCount
set_option maxRecDepth 100000
open Go.ChangeShapes Go.WideShapes Go.ChangeAt Go.RowKit Go.Deep
set_option linter.unusedVariables false
set_option linter.unusedSimpArgs false

set_option maxHeartbeats 4000000 in
theorem walk (w : World) (ba : Option Addr) (bn bc : Nat) (bad : List Int) (hbad : SlAt Sh.int w ba bn bc bad) (a : Option Addr) (n c : Nat) (script : List Stp) (hs : SlAt shStep w a n c script) (HK : Sh.int.slice.sz bad + shStep.slice.sz script ≤ 1048576) :
    Calls Try.prog 9 #[.slice ba bn bc, .slice a n c] w fun e w' => e = .returned (.bool true) ∧ Below w.heap.size w w' := by
  have hlen := hs.len
  have hmax := Nat.le_trans hs.cap hs.max
  have HS := Lib.hid hs
  have HZ := Lib.hid (show ∀ j, stepsZ script j ≤ 1048576 from fun j => by have := stepsZ_le script j; omega)
  clear hs HK
  go_enter Try.func9, Try.ntmps9
  go_wp2_with fail
  refine (lives20_any w).mono ?_
  rintro r w1 ⟨rfl, b1⟩
  have CN := Lib.hid (ls_new hbad b1)
  clear b1 hbad
  go_wp2_with fail
  refine CN.out.mono ?_
  rintro r w2 ⟨p, rfl, hL⟩
  have L0 := Lib.hid hL
  clear hL CN
  go_wp2_with fail
  go_loopw [6, 7] (fun nn i wr => ∃ (j : Nat) (row : List Pk) (book : List Sg), j ≤ n ∧ i = .int .i64 j ∧ nn = .int .i64 row.length ∧ Hid (LS w p bad row book (stepsZ script j) wr)) (fun _ i _ => n - (intOf i).toNat)
  case atStart => exact ⟨0, [], [], by omega, rfl, rfl, L0⟩
  case round =>
    clear L0
    obtain ⟨j, row, book, hj, rfl, rfl, HL⟩ := hrel
    by_cases hlt : j < n
    · obtain ⟨y, hy⟩ : ∃ y, script[j]? = some y := ⟨_, List.getElem?_eq_getElem (by omega)⟩
      obtain ⟨b, o, a1, n1, c1, rfl, m0, m1, m2, hk, hn, hps⟩ := step_cells HS.out hy
      have x0 := below_cell HL.out.below m0
      have x1 := below_cell HL.out.below m1
      have x2 := below_cell HL.out.below m2
      have hj0 : (0 : Int) ≤ (j : Int) := by omega
      have hj1 : (j : Int) < (n : Int) := by omega
      have HA := Lib.hid (below_alloc wr (.cells #[.int .i64 y.k, .int .i64 y.n, .slice a1 n1 c1] 64 (0, 0)))
      have HQ := Lib.hid (blk_alloc wr (.cells #[.int .i64 y.k, .int .i64 y.n, .slice a1 n1 c1] 64 (0, 0)))
      have HZ1 := HZ.out (j + 1)
      have hsn := stepsZ_snoc hy
      obtain ⟨hz1, hz2, hz3⟩ := step_sz y
      have hcap := HL.out.cap
      go_wp2_with fail
      refine (kind20_any y.k y.n a1 n1 c1 _).mono ?_
      rintro r w4 ⟨rfl, b4⟩
      have L4 := Lib.hid (HL.out.old (bthen HA.out b4))
      have K4 := blk_below HQ.out b4
      have q0 : w4.cell? ⟨wr.heap.size, 0, none⟩ = some (.int .i64 y.k) := by rw [blk_cell K4]; rfl
      have q1 : w4.cell? ⟨wr.heap.size, 1, none⟩ = some (.int .i64 y.n) := by rw [blk_cell K4]; rfl
      have q2 : w4.cell? ⟨wr.heap.size, 2, none⟩ = some (.slice a1 n1 c1) := by rw [blk_cell K4]; rfl
      have lq := blk_lt K4
      have hn1 := hps.len
      have hn2 := Nat.le_trans hps.bytes (Nat.le_refl _)
      have hb8 : shPk.bs = 232 := rfl
      rw [hb8] at hn2
      have HPS := Lib.hid hps
      have HNN := Lib.hid hn
      clear b4 K4 HA HQ x0 x1 x2 m0 m1 m2 HL hps hb8 hn
      have hkk := kind20_in y.k
      generalize kind20 y.k = kk at *
      have hk5 : kk = 0 ∨ kk = 1 ∨ kk = 2 ∨ kk = 3 ∨ kk = 4 := by omega
      clear hkk
      rcases hk5 with rfl | rfl | rfl | rfl | rfl
      · have hsum : IntKind.i64.wrap ((row.length : Int) + (n1 : Int)) = (row.length : Int) + (n1 : Int) := IntWalk.i64_in _ (by omega)
        have hmin : min ((row.length : Int) + (n1 : Int)) 4096 = ((sendR row y.l).length : Int) := by rw [sendR_len _ _ hcap, hn1]; omega
        have CS := Lib.hid (L4.out.send HPS.out (fun z hz => by have := hz2 z hz; omega) (by omega))
        go_wp2_with fail
        refine CS.out.mono ?_
        rintro r w5 ⟨rfl, l5⟩
        have L5 := Lib.hid (l5.mono (N' := stepsZ script (j + 1)) (by omega))
        clear l5 CS L4 hsum
        generalize sendR row y.l = row5 at *
        clear q0 q1 q2 lq
        have CL := Lib.hid L5.out.len
        have hcap5 := L5.out.cap
        have hc5 : decide ((4096 : Int) < (row5.length : Int)) = false := by simp; omega
        have hc6 : ((row5.length : Int) != (row5.length : Int)) = false := by simp
        go_wp2_with fail
        refine CL.out.mono ?_
        rintro r w6 ⟨rfl, rfl⟩
        clear CL
        go_wp2_with fail
        go_roundw
        case rel => exact ⟨j + 1, row5, (sendB book y.l), by omega, by go_num, rfl, L5⟩
        case measure => simp [intOf]; omega
      · have hfi := Lib.hid (fun w' hb => first20_any y.k y.n a1 n1 c1 y.l w w' HPS.out hb)
        have CI := Lib.hid (fun (w' : World) (cs : List Value) (h : LS w p bad row book (stepsZ script j) w') (hE : shPk.E w (firstP y.l) cs) => h.inject hE (by omega) (by omega))
        have hil := injR_len bad row book (firstP y.l)
        generalize injR bad row book (firstP y.l) = row5 at *
        generalize injE bad row book (firstP y.l) = e5 at *
        go_wp2_with fail
        refine (hfi.out w4 L4.out.below).mono ?_
        rintro r w5 ⟨b5, cs, rfl, hE5⟩
        have L5 := Lib.hid (L4.out.old b5)
        have CI5 := Lib.hid (CI.out w5 cs L5.out hE5)
        obtain ⟨CS, hCS⟩ : ∃ CS, CS = cs.toArray := ⟨_, rfl⟩
        rw [← hCS] at CI5 ⊢
        clear hCS hE5 b5 CI hfi L4 q0 q1 q2 lq
        go_wp2_with fail
        refine CI5.out.mono ?_
        rintro r w7 ⟨rfl, l7⟩
        clear CI5 L5
        have L5 := Lib.hid (l7.mono (N' := stepsZ script (j + 1)) (by omega))
        clear l7
        by_cases he : e5 = 0
        · subst he
          rw [if_pos rfl] at hil
          have hsum : IntKind.i64.wrap ((row.length : Int) + 1) = (row5.length : Int) := by rw [IntWalk.i64_in _ (by omega)]; omega
          clear hil
          have CL := Lib.hid L5.out.len
          have hcap5 := L5.out.cap
          have hc5 : decide ((4096 : Int) < (row5.length : Int)) = false := by simp; omega
          have hc6 : ((row5.length : Int) != (row5.length : Int)) = false := by simp
          go_wp2_with fail
          refine CL.out.mono ?_
          rintro r w6 ⟨rfl, rfl⟩
          clear CL
          go_wp2_with fail
          go_roundw
          case rel => exact ⟨j + 1, row5, book, by omega, by go_num, rfl, L5⟩
          case measure => simp [intOf]; omega
        · have hee : (e5 == 0) = false := by simpa using he
          rw [if_neg he] at hil
          rw [← hil]
          clear hil
          have CL := Lib.hid L5.out.len
          have hcap5 := L5.out.cap
          have hc5 : decide ((4096 : Int) < (row5.length : Int)) = false := by simp; omega
          have hc6 : ((row5.length : Int) != (row5.length : Int)) = false := by simp
          go_wp2_with fail
          refine CL.out.mono ?_
          rintro r w6 ⟨rfl, rfl⟩
          clear CL
          go_wp2_with fail
          go_roundw
          case rel => exact ⟨j + 1, row5, book, by omega, by go_num, rfl, L5⟩
          case measure => simp [intOf]; omega
      · have CT := Lib.hid (L4.out.take HNN.out)
        have htl := takeR_len row y.n
        have hmax0 : max ((row.length : Int) - 1) 0 = ((takeR row y.n).length : Int) := by omega
        have hsub : IntKind.i64.wrap ((row.length : Int) - 1) = (row.length : Int) - 1 := IntWalk.i64_in _ (by omega)
        generalize takeV row y.n = V at *
        generalize takeR row y.n = row5 at *
        obtain ⟨D, hD⟩ : ∃ D, decide (0 < row.length) = D := ⟨_, rfl⟩
        rw [hD] at CT
        go_wp2_with fail
        refine CT.out.mono ?_
        rintro r w5 ⟨⟨cs, rfl, hcl, hone, -⟩, l5⟩
        have L5q := Lib.hid l5
        clear CT l5 L4 q0 q1 q2 lq
        obtain ⟨CS, hCS⟩ : ∃ CS, CS = cs.toArray := ⟨_, rfl⟩
        rw [← hCS]
        rename_i hK
        refine hK _ _ ?_
        clear hK
        refine wpList_val (w' := w5) rfl (v := .tuple #[.agg CS, .bool D]) (by simp only [execOp]; go_simp) ?_
        simp only [Act.put, List.setIfInBounds_toArray, List.set_cons_succ, List.set_cons_zero]
        refine wpList_val (w' := w5) rfl (v := .agg CS) (by simp only [execOp]; go_simp) ?_
        refine wpList_val (w' := w5) rfl (v := .bool D) (by simp only [execOp]; go_simp) ?_
        simp only [Act.put, List.setIfInBounds_toArray, List.set_cons_succ, List.set_cons_zero]
        refine wpList_boxpk rfl rfl (.tmp 9) (.tmp 55) rfl rfl cs hcl hone rfl (by rw [← hCS]; rfl) fun w7 b7 _ _ => ?_
        simp only [Act.put, List.setIfInBounds_toArray, List.set_cons_succ, List.set_cons_zero]
        have L5 := Lib.hid ((L5q.out.old b7).mono (N' := stepsZ script (j + 1)) (by omega))
        have hdd : (D != D) = false := by simp
        clear b7 L5q hCS hcl hone htl
        have CL := Lib.hid L5.out.len
        have hcap5 := L5.out.cap
        have hc5 : decide ((4096 : Int) < (row5.length : Int)) = false := by simp; omega
        have hc6 : ((row5.length : Int) != (row5.length : Int)) = false := by simp
        go_wp2_with fail
        refine CL.out.mono ?_
        rintro r w6 ⟨rfl, rfl⟩
        clear CL
        go_wp2_with fail
        go_roundw
        case rel => exact ⟨j + 1, row5, book, by omega, by go_num, rfl, L5⟩
        case measure => simp [intOf]; omega
      · have CT := Lib.hid (L4.out.drop HNN.out)
        have htl := takeR_len row y.n
        have hmax0 : max ((row.length : Int) - 1) 0 = ((takeR row y.n).length : Int) := by omega
        have hsub : IntKind.i64.wrap ((row.length : Int) - 1) = (row.length : Int) - 1 := IntWalk.i64_in _ (by omega)
        generalize takeR row y.n = row5 at *
        obtain ⟨D, hD⟩ : ∃ D, decide (0 < row.length) = D := ⟨_, rfl⟩
        rw [hD] at CT
        have hdd : (D != D) = false := by simp
        go_wp2_with fail
        refine CT.out.mono ?_
        rintro r w5 ⟨rfl, l5⟩
        have L5 := Lib.hid (l5.mono (N' := stepsZ script (j + 1)) (by omega))
        clear CT l5 L4 htl
        clear q0 q1 q2 lq
        have CL := Lib.hid L5.out.len
        have hcap5 := L5.out.cap
        have hc5 : decide ((4096 : Int) < (row5.length : Int)) = false := by simp; omega
        have hc6 : ((row5.length : Int) != (row5.length : Int)) = false := by simp
        go_wp2_with fail
        refine CL.out.mono ?_
        rintro r w6 ⟨rfl, rfl⟩
        clear CL
        go_wp2_with fail
        go_roundw
        case rel => exact ⟨j + 1, row5, book, by omega, by go_num, rfl, L5⟩
        case measure => simp [intOf]; omega
      · have CT := Lib.hid (L4.out.copy HNN.out)
        have htl := copyR_len row y.n
        have hsum : IntKind.i64.wrap ((row.length : Int) + 1) = (row.length : Int) + 1 := by rw [IntWalk.i64_in _ (by omega)]
        generalize copyR row y.n = row5 at *
        cases h1 : decide (0 < row.length)
        · rw [if_neg (by have := of_decide_eq_false h1; omega)] at htl
          rw [h1] at CT
          clear hsum
          go_wp2_with fail
          refine CT.out.mono ?_
          rintro r w5 ⟨rfl, l5⟩
          have L5 := Lib.hid (l5.mono (N' := stepsZ script (j + 1)) (by omega))
          clear CT l5 L4
          rw [← htl] at h1 ⊢
          clear htl
          clear q0 q1 q2 lq
          have CL := Lib.hid L5.out.len
          have hcap5 := L5.out.cap
          have hc5 : decide ((4096 : Int) < (row5.length : Int)) = false := by simp; omega
          have hc6 : ((row5.length : Int) != (row5.length : Int)) = false := by simp
          go_wp2_with fail
          refine CL.out.mono ?_
          rintro r w6 ⟨rfl, rfl⟩
          clear CL
          go_wp2_with fail
          go_roundw
          case rel => exact ⟨j + 1, row5, book, by omega, by go_num, rfl, L5⟩
          case measure => simp [intOf]; omega
        · cases h2 : decide (row.length < 4096)
          · rw [if_neg (by have := of_decide_eq_false h2; omega)] at htl
            rw [h1] at CT
            rw [h2] at CT
            have hd2 : decide ((row.length : Int) < 4096) = false := by have := of_decide_eq_false h2; simp; omega
            clear hsum
            go_wp2_with fail
            refine CT.out.mono ?_
            rintro r w5 ⟨rfl, l5⟩
            have L5 := Lib.hid (l5.mono (N' := stepsZ script (j + 1)) (by omega))
            clear CT l5 L4
            rw [← htl] at h1 hd2 ⊢
            clear htl
            clear q0 q1 q2 lq
            have CL := Lib.hid L5.out.len
            have hcap5 := L5.out.cap
            have hc5 : decide ((4096 : Int) < (row5.length : Int)) = false := by simp; omega
            have hc6 : ((row5.length : Int) != (row5.length : Int)) = false := by simp
            go_wp2_with fail
            refine CL.out.mono ?_
            rintro r w6 ⟨rfl, rfl⟩
            clear CL
            go_wp2_with fail
            go_roundw
            case rel => exact ⟨j + 1, row5, book, by omega, by go_num, rfl, L5⟩
            case measure => simp [intOf]; omega
          · rw [if_pos (by have := of_decide_eq_true h1; have := of_decide_eq_true h2; omega)] at htl
            rw [h1] at CT
            rw [h2] at CT
            have hd2 : decide ((row.length : Int) < 4096) = true := by have := of_decide_eq_true h2; simp; omega
            replace hsum : IntKind.i64.wrap ((row.length : Int) + 1) = (row5.length : Int) := by rw [hsum]; omega
            clear htl
            go_wp2_with fail
            refine CT.out.mono ?_
            rintro r w5 ⟨rfl, l5⟩
            have L5 := Lib.hid (l5.mono (N' := stepsZ script (j + 1)) (by omega))
            clear CT l5 L4
            clear q0 q1 q2 lq
            have CL := Lib.hid L5.out.len
            have hcap5 := L5.out.cap
            have hc5 : decide ((4096 : Int) < (row5.length : Int)) = false := by simp; omega
            have hc6 : ((row5.length : Int) != (row5.length : Int)) = false := by simp
            go_wp2_with fail
            refine CL.out.mono ?_
            rintro r w6 ⟨rfl, rfl⟩
            clear CL
            go_wp2_with fail
            go_roundw
            case rel => exact ⟨j + 1, row5, book, by omega, by go_num, rfl, L5⟩
            case measure => simp [intOf]; omega
    · obtain rfl : j = n := by omega
      have hd : decide ((j : Int) < (j : Int)) = false := by simp
      have HB := Lib.hid HL.out.below
      go_wp2_with fail
      go_ret
      exact ⟨rfl, HB.out⟩

set_option maxRecDepth 100000 in
theorem lifted (os : Os) (started : os.Started) (H : Type) (enc : TypeId × Value → H) (F : Stop.Interp) :
    ReturnsInHanded {} Try.checked os 9 .any ((Rows.OpenSpec.upto Rows.lanesCountSpec).pre6 enc Try.prog Try.f9 Rows.lanesCountUptoRow.domain false) (((Rows.OpenSpec.upto Rows.lanesCountSpec).at F).post enc Try.prog Try.f9 false true false false) := by
  refine returnsInHanded_of_cond (C := Try.checked) (s := Rows.OpenSpec.upto Rows.lanesCountSpec) (k := Rows.uptoSmall) rfl own started (by kernel_rfl) Try.func9
    (OpenSpec.witness (enc := enc) (C := Try.checked) (s := Rows.OpenSpec.upto Rows.lanesCountSpec) (k := Rows.uptoSmall) rfl false ⟨#[], #[.slice none 0 0, .slice none 0 0], []⟩ 8 (by kernel_rfl) (by kernel_rfl) (by kernel_rfl)
      (x := ([.nil, .nil], [], [])) (by kernel_rfl) rfl (by kernel_rfl)) ?_
  intro W base args ds gs before hval0 hW _ hk _
  have hval : ∀ (j : Nat) t v, Try.f9.params[j]? = some t → args[j]? = some v → Value.okWide Try.prog W .any base t v := hval0
  have hW' := hW
  obtain ⟨p, q, hA0, hV, rfl, hfz, hnd⟩ := hW
  have hA : DataW.TrodAll enc Try.prog W 0 (fun _ => true) true Try.f9.params.toList args.toList ds p := hA0
  rw [Try.params9] at hA hval
  have hA2 := hA
  obtain ⟨v0, vs0, d0, ds0, p0, q0, hargs, rfl, rfl, h0, r0⟩ := trodAll_cons hA
  obtain ⟨v1, vs1, d1, ds1, p1, q1, rfl, rfl, rfl, h1, r1⟩ := trodAll_cons r0
  obtain ⟨rfl, rfl, rfl⟩ := trodAll_nil r1
  obtain rfl : args = #[v0, v1] := by cases args; simp_all
  obtain ⟨rfl, rfl⟩ := trodVars_none hV
  clear hargs
  have hk' : Rows.uptoSmall H [d0, d1] = true := by simpa using hk
  have k0 := hval 0 29 v0 rfl rfl
  obtain ⟨fu0, m0⟩ := h0
  have F0 : Fit Try.prog 29 d0 := fit_upto hk' (by simp) _
  obtain ⟨l0, ⟨a0, n0, c0, e0, f0⟩, g0⟩ := vwInts.2.2 m0 F0
  have e0' := slice_of Try.underlying29 k0 e0
  subst e0'
  have k1 := hval 1 62 v1 rfl rfl
  obtain ⟨fu1, m1⟩ := h1
  have F1 : Fit Try.prog 62 d1 := fit_upto hk' (by simp) _
  obtain ⟨l1, ⟨a1, n1, c1, e1, f1⟩, g1⟩ := vwSteps.2.2 m1 F1
  have e1' := slice_of Try.underlying62 k1 e1
  subst e1'
  have G0 : Sh.int.slice.sz l0 ≤ Rows.uptoBulk d0 := g0
  have G1 : shStep.slice.sz l1 ≤ Rows.uptoBulk d1 := g1
  have HK : Sh.int.slice.sz l0 + shStep.slice.sz l1 ≤ 1048576 := by have h : Rows.uptoBulkAll [d0, d1] ≤ 1048576 := (by simpa [Rows.uptoSmall] using hk'); simp only [Rows.uptoBulkAll] at h; omega
  refine (walk W a0 n0 c0 l0 f0 a1 n1 c1 l1 f1 HK).mono fun e W' ⟨he, bel⟩ => ?_
  subst he
  exact ⟨_, rfl, _, _, _, [], _, [], hW', trodAll_mk1 (shut_bool Try.underlying4 _), trodAll_again laidOut bel (by kernel_rfl) hA2, rfl, bel.frame _, fun h => by cases h⟩

theorem over : Rows.lanesCountUptoRow.holds Try.pinned (Rows.OpenSpec.upto Rows.lanesCountSpec) :=
  OpenClaim.holds_of_cond 9 Try.f9 rfl rfl rfl rfl rfl rfl rfl ⟨rfl, rfl, rfl, rfl, rfl⟩ rfl rfl rfl rfl rfl (by kernel_rfl) Try.func9 (by kernel_rfl)
    (of_decide_eq_true (by kernel_rfl)) (by unfold Func.isWrapper; first | (rw [if_pos (by decide +kernel)]; kernel_rfl) | (rw [if_neg (by decide +kernel)]; exact ⟨rfl, rfl⟩))
    (fun os started H enc _ F => lifted os started H enc F)

theorem proved : Rows.LanesCountUptoSaid := over
#print axioms proved
end Go.Proofs.Ytijeieamodjgbaa.lanesCount
