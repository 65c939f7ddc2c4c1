
/- Walk of the reference's Proves. -/
import Derived.Test.YtelmpoaioccpoaaPvW
namespace Go.Proofs.Ytelmpoaioccpoaa
set_option maxRecDepth 100000
open Go.RowKit
attribute [local irreducible] wpQuiet
set_option linter.unusedVariables false

def prevOf (sigs : List Sg) (k : Nat) : Option Int := if k = 0 then none else (sigs[k - 1]?).map (·.1)
theorem prevOf_succ {sigs : List Sg} {k : Nat} {s : Sg} (h : sigs[k]? = some s) : prevOf sigs (k + 1) = some s.1 := by
  rw [prevOf, if_neg (by omega), Nat.add_sub_cancel, h]; rfl

set_option maxHeartbeats 4000000 in
theorem rproves_any (e : Int) (a : Option Addr) (n c : Nat) (l : List Int) (text : ByteArray) (sa : Option Addr) (sn sc : Nat) (sigs : List Sg) (w : World) (h : IntsAt w a n l) (hs : SlAt shSig w sa sn sc sigs) :
    Calls Try.prog 12 #[.agg #[.int .i64 e, .slice a n c], .string text, .slice sa sn sc] w fun r w' => r = .returned (.bool (provesB e l text sigs)) ∧ Below w.heap.size w w' := by
  have hsl := hs.len
  have hsm : sn ≤ 9223372036854775807 := Nat.le_trans hs.cap hs.max
  have hll := h.len
  have hlm := h.max
  have hP := proves_ref e l text sigs
  rw [hll, hsl] at hP
  replace hP := Lib.hid hP
  obtain ⟨w1, hw1⟩ : ∃ w1, w1 = w.alloc (.cells #[.int .i64 e, .slice a n c] 24) := ⟨_, rfl⟩
  have BX := Lib.hid (show Below w.heap.size w w1 by rw [hw1]; exact below_alloc _ _)
  have HI := Lib.hid (show IntsAt w1 a n l from h.below BX.out); have HS := Lib.hid (show SlAt shSig w1 sa sn sc sigs from hs.old BX.out)
  have HX1 := Lib.hid (show w1.heap[w.heap.size]? = some (.cells #[.int .i64 e, .slice a n c] 24 (0, 0)) by rw [hw1]; exact blk_alloc _ _)
  have xl := blk_lt HX1.out
  have hlen := Lib.hid hsl
  clear h hs hsl
  go_enter Try.func12, Try.ntmps12
  go_wp2_with fail
  rw [← hw1]
  clear hw1
  go_loopw [7] (fun i wr => ∃ k : Nat, k ≤ sn ∧ i = .int .i64 k ∧ Hid (sigsRef l text none sigs = sigsRef l text (prevOf sigs k) (sigs.drop k)) ∧ Hid (Below w1.heap.size w1 wr)) (fun i _ => sn - (intOf i).toNat)
  case atStart => exact ⟨0, by omega, rfl, Lib.hid rfl, Lib.hid (Below.refl _ _)⟩
  case round =>
    obtain ⟨k, hk, rfl, HU, HB⟩ := hrel
    by_cases hlt : k < sn
    · obtain ⟨b, o, y, t, rfl, hit, c0, c1, ⟨hy1, hy2⟩, ht⟩ := sig_cells (HS.out.old HB.out) hlt
      have hdr : sigs.drop k = (y, t) :: sigs.drop (k + 1) := by
        obtain ⟨hj, he⟩ := List.getElem?_eq_some_iff.1 hit
        rw [List.drop_eq_getElem_cons hj, he]
      rw [hdr, sigsRef] at HU
      have HPv := Lib.hid (prevOf_succ hit)
      have HXr := Lib.hid (blk_below (blk_below HX1.out HB.out) (below_alloc wr (.cells #[.int .i64 y, .string t] 34)))
      have HBA := Lib.hid (bthen HB.out (below_alloc wr (.cells #[.int .i64 y, .string t] 34)))
      have HIA := Lib.hid (HI.out.below HBA.out)
      have HSA := Lib.hid (HS.out.old HBA.out)
      obtain ⟨wa, hwa⟩ : ∃ wa, wa = wr.alloc (.cells #[.int .i64 y, .string t] 34) := ⟨_, rfl⟩
      have q0 : wa.cell? ⟨wr.heap.size, 0, none⟩ = some (.int .i64 y) := by rw [hwa]; simp
      have q1 : wa.cell? ⟨wr.heap.size, 1, none⟩ = some (.string t) := by rw [hwa]; simp
      have ql : wr.heap.size < wa.heap.size := by rw [hwa]; simp
      rw [← hwa] at HXr HBA HIA HSA
      have x0 : wa.cell? ⟨w.heap.size, 0, none⟩ = some (.int .i64 e) := by rw [blk_cell HXr.out]; rfl
      have x1 : wa.cell? ⟨w.heap.size, 1, none⟩ = some (.slice a n c) := by rw [blk_cell HXr.out]; rfl
      have xlr := blk_lt HXr.out
      have CH := Lib.hid (fun w' (hb : Below wa.heap.size wa w') => rhas_any a n c l y w' (HIA.out.below hb))
      clear hdr hit HXr HIA
      have hk0 : (0 : Int) ≤ (k : Int) := by omega
      have hk1 : (k : Int) < (sn : Int) := by omega
      by_cases h1 : t = text
      case' neg =>
        have h1' := str_neq h1
        rw [if_neg (fun hc => h1 hc.1)] at HU
        clear HPv HSA
        go_wp2_with fail
        rw [← hwa]
        clear hwa
        refine wp_region_below (by kernel_rfl) (by kernel_rfl) ?_
        repeat (refine wpQuiet_step (fun K hK => ?_); go_simp; first | (refine hK _ ?_; clear hK K) | (apply Exists.intro; refine ⟨fun w' hw' => ?_, hK _ ?_⟩; (first | (with_reducible rfl) | (obtain ⟨cc, dd⟩ := bcell hw'; go_simp; rfl)); clear hK K))
        refine wpQuiet_nil ?_
        intro w7 h7
        go_wp2_with fail
        go_ret
        exact ⟨by rw [← hP.out, HU.out]; rfl, bthen BX.out (bthen HBA.out h7)⟩
      case' pos =>
        subst h1
        cases h3 : hasB l y with
        | false =>
          rw [if_neg (by rw [h3]; simp)] at HU
          rw [h3] at CH
          clear h3 HPv HSA
          go_wp2_with fail
          rw [← hwa]
          clear hwa
          refine wp_region_below (by kernel_rfl) (by kernel_rfl) ?_
          repeat (refine wpQuiet_step (fun K hK => ?_); go_simp; first | (refine hK _ ?_; clear hK K) | (apply Exists.intro; refine ⟨fun w' hw' => ?_, hK _ ?_⟩; (first | (go_at_call 30; exact Calls.quiet_below_same hw' (CH.out _ hw')) | (with_reducible rfl) | (obtain ⟨cc, dd⟩ := bcell hw'; go_simp; rfl)); clear hK K))
          refine wpQuiet_nil ?_
          intro w7 h7
          go_wp2_with fail
          go_ret
          exact ⟨by rw [← hP.out, HU.out]; rfl, bthen BX.out (bthen HBA.out h7)⟩
        | true =>
          rw [h3] at CH
          have Hh3 := Lib.hid h3
          clear h3
          by_cases hkz : k = 0
          · subst hkz
            rw [if_pos ⟨rfl, Hh3.out, fun q hq => by rw [prevOf, if_pos rfl] at hq; cases hq⟩, ← HPv.out] at HU
            clear HSA HPv hk0 hk1
            rw [Nat.zero_mul, Nat.add_zero] at c0 c1
            go_wp2_with fail
            rw [← hwa]
            clear hwa
            refine wp_region_below (by kernel_rfl) (by kernel_rfl) ?_
            repeat (refine wpQuiet_step (fun K hK => ?_); go_simp; first | (refine hK _ ?_; clear hK K) | (apply Exists.intro; refine ⟨fun w' hw' => ?_, hK _ ?_⟩; (first | (go_at_call 30; exact Calls.quiet_below_same hw' (CH.out _ hw')) | (with_reducible rfl) | (obtain ⟨cc, dd⟩ := bcell hw'; go_simp; rfl)); clear hK K))
            refine wpQuiet_nil ?_
            intro w7 h7
            clear CH x0 x1 q0 q1 c0 c1
            go_wp2_with fail
            go_roundw
            case rel => exact ⟨1, by omega, rfl, HU, Lib.hid (bthen HBA.out h7)⟩
            case measure => simp [intOf]; omega
          · obtain ⟨j, rfl⟩ : ∃ j, k = j + 1 := ⟨k - 1, by omega⟩
            obtain ⟨b2, o2, z, t2, hao, hit2, d0, d1, ⟨hz1, hz2⟩, _⟩ := sig_cells HSA.out (show j < sn by omega)
            obtain ⟨rfl, rfl⟩ : b = b2 ∧ o = o2 := by simpa using hao
            have hpv : prevOf sigs (j + 1) = some z := prevOf_succ hit2
            rw [hpv] at HU
            have hbl := World.block_lt d0
            have hj1 : ((j + 1 : Nat) : Int) - 1 = (j : Int) := by omega
            have hj2 : (0 : Int) ≤ (j : Int) := by omega
            have hwj : IntKind.i64.wrap (j : Int) = (j : Int) := IntWalk.i64_in _ (by omega)
            have hj3 : (j : Int) < (sn : Int) := by omega
            have hj4 : decide ((0 : Int) < ((j + 1 : Nat) : Int)) = true := decide_eq_true (by omega)
            clear hao hit2 hpv HSA d1
            by_cases hlt2 : z < y
            · have hd : decide (y ≤ z) = false := by simp; omega
              rw [if_pos ⟨rfl, Hh3.out, fun q hq => by injection hq with hq; rw [← hq]; exact hlt2⟩, ← HPv.out] at HU
              clear HPv
              go_wp2_with fail
              rw [← hwa]
              clear hwa
              refine wp_region_below (by kernel_rfl) (by kernel_rfl) ?_
              repeat (refine wpQuiet_step (fun K hK => ?_); go_simp; first | (refine hK _ ?_; clear hK K) | (apply Exists.intro; refine ⟨fun w' hw' => ?_, hK _ ?_⟩; (first | (go_at_call 30; exact Calls.quiet_below_same hw' (CH.out _ hw')) | (with_reducible rfl) | (obtain ⟨cc, dd⟩ := bcell hw'; go_simp; rfl)); clear hK K))
              refine wpQuiet_nil ?_
              intro w7 h7
              clear CH x0 x1 q0 q1 c0 c1 d0 hj1 hj4 hwj
              go_wp2_with fail
              go_roundw
              case rel => exact ⟨j + 2, by omega, by go_num, HU, Lib.hid (bthen HBA.out h7)⟩
              case measure => simp [intOf]; omega
            · have hd : decide (y ≤ z) = true := by simp; omega
              rw [if_neg (fun hc => hlt2 (hc.2.2 z rfl))] at HU
              clear HPv
              go_wp2_with fail
              rw [← hwa]
              clear hwa
              refine wp_region_below (by kernel_rfl) (by kernel_rfl) ?_
              repeat (refine wpQuiet_step (fun K hK => ?_); go_simp; first | (refine hK _ ?_; clear hK K) | (apply Exists.intro; refine ⟨fun w' hw' => ?_, hK _ ?_⟩; (first | (go_at_call 30; exact Calls.quiet_below_same hw' (CH.out _ hw')) | (with_reducible rfl) | (obtain ⟨cc, dd⟩ := bcell hw'; go_simp; rfl)); clear hK K))
              refine wpQuiet_nil ?_
              intro w7 h7
              go_wp2_with fail
              go_ret
              exact ⟨by rw [← hP.out, HU.out]; rfl, bthen BX.out (bthen HBA.out h7)⟩
    · obtain rfl : k = sn := by omega
      have hdr : sigs.drop k = [] := List.drop_of_length_le (by rw [hlen.out]; exact Nat.le_refl _)
      rw [hdr, sigsRef] at HU
      have hP2 := hP.out
      rw [HU.out, Bool.true_and] at hP2
      have HXr := Lib.hid (blk_below HX1.out HB.out)
      have x0 : wr.cell? ⟨w.heap.size, 0, none⟩ = some (.int .i64 e) := by rw [blk_cell HXr.out]; rfl
      have x1 : wr.cell? ⟨w.heap.size, 1, none⟩ = some (.slice a n c) := by rw [blk_cell HXr.out]; rfl
      have xlr := blk_lt HXr.out
      have CR := rright_any e a n c l wr (HI.out.below HB.out)
      have CQ := Lib.hid (fun w => rquorum_any (n : Int) w (by omega) (by omega))
      cases hr : rightB e l with
      | false =>
        rw [hr] at CR hP2
        replace CR := Lib.hid CR
        have Hp := Lib.hid hP2
        clear hP2 hr CQ HU
        go_wp2_with fail
        refine CR.out.mono ?_
        rintro r w2 ⟨rfl, b2⟩
        go_wp2_with fail
        go_ret
        exact ⟨by rw [← Hp.out]; rfl, bthen BX.out (bthen HB.out b2)⟩
      | true =>
        rw [hr, Bool.true_and] at hP2
        rw [hr] at CR
        replace CR := Lib.hid CR
        have Hp := Lib.hid hP2
        clear hP2 hr HU
        generalize quorumP (n : Int) = q at *
        by_cases h1 : q ≤ (k : Int)
        · have h1' : decide (q ≤ (k : Int)) = true := by simpa using h1
          by_cases h2 : k ≤ 16
          · have h2' : decide ((k : Int) ≤ 16) = true := by simp; omega
            go_wp2_with fail
            refine CR.out.mono ?_
            rintro r w2 ⟨rfl, b2⟩
            have y1 := below_cell b2 x1
            go_wp2_with fail
            refine (CQ.out _).mono ?_
            rintro r w3 ⟨rfl, rfl⟩
            go_wp2_with fail
            go_ret
            exact ⟨by rw [← Hp.out]; simp [h1, h2], bthen BX.out (bthen HB.out b2)⟩
          · have h2' : decide ((k : Int) ≤ 16) = false := by simp; omega
            go_wp2_with fail
            refine CR.out.mono ?_
            rintro r w2 ⟨rfl, b2⟩
            have y1 := below_cell b2 x1
            go_wp2_with fail
            refine (CQ.out _).mono ?_
            rintro r w3 ⟨rfl, rfl⟩
            go_wp2_with fail
            go_ret
            exact ⟨by rw [← Hp.out]; simp [h1, h2], bthen BX.out (bthen HB.out b2)⟩
        · have h1' : decide (q ≤ (k : Int)) = false := by simpa using h1
          go_wp2_with fail
          refine CR.out.mono ?_
          rintro r w2 ⟨rfl, b2⟩
          have y1 := below_cell b2 x1
          go_wp2_with fail
          refine (CQ.out _).mono ?_
          rintro r w3 ⟨rfl, rfl⟩
          go_wp2_with fail
          go_ret
          exact ⟨by rw [← Hp.out]; simp; omega, bthen BX.out (bthen HB.out b2)⟩
end Go.Proofs.Ytelmpoaioccpoaa
