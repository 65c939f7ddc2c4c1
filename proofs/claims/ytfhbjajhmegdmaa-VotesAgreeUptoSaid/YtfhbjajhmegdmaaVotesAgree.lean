
/- VotesAgree: if no more members than the faults vote for two things, two tallies, each of which hears what it hears, settle nothing unlike: for every input within the bound the law returns true, and its arguments read as before. The bound is the given one of Upto; no other condition. -/
import Derived.Test.YtfhbjajhmegdmaaVtB
import Derived.Test.YtfhbjajhmegdmaaVtG
import Derived.Test.YtfhbjajhmegdmaaLift
import Derived.Laws.MakeOwn
import Derived.Deep.AppendLies
namespace Go.Proofs.Ytfhbjajhmegdmaa.votesAgree
set_option maxRecDepth 100000
open Go.ChangeShapes Go.WideShapes Go.ChangeAt Go.RowKit
set_option linter.unusedVariables false
set_option linter.unusedSimpArgs false

theorem info_int15 : (Try.prog.info? 3).map (fun i => (i.zero, i.size, i.bytes)) = some (some (.int .i64 0), 1, 8) := by kernel_rfl
theorem info_vote15 : (Try.prog.info? 38).map (fun i => (i.zero, i.size, i.bytes)) = some (some (.agg #[.int .i64 0, .string ⟨#[]⟩, .slice none 0 0, .int .i64 0]), 4, 56) := by kernel_rfl
theorem x_new (w : World) (x : Int) : ∀ j u, [Value.int .i64 x][j]? = some u → (w.alloc (.cells #[.int .i64 x] 3 (0, 0))).cell? ((⟨w.heap.size, 0, none⟩ : Addr).add j) = some u := by
  intro j u h
  rw [Addr.add_lit, blk_cell (blk_alloc w _), ← h]
  simp
theorem v_new (w : World) (x : Int) (t : ByteArray) (a : Option Addr) (n c : Nat) (q : Int) : ∀ j u, [Value.int .i64 x, .string t, .slice a n c, .int .i64 q][j]? = some u → (w.alloc (.cells #[.int .i64 x, .string t, .slice a n c, .int .i64 q] 38 (0, 0))).cell? ((⟨w.heap.size, 0, none⟩ : Addr).add j) = some u := by
  intro j u h
  rw [Addr.add_lit, blk_cell (blk_alloc w _), ← h]
  simp
def wildP (bad l : List Int) (k : Nat) : Nat := ((l.take k).filter (hasB bad)).length
theorem wild_succ {bad l : List Int} {k : Nat} {x : Int} (h : l[k]? = some x) : wildP bad l (k + 1) = wildP bad l k + if hasB bad x = true then 1 else 0 := by
  unfold wildP
  rw [List.take_add_one, h, List.filter_append, List.length_append]
  by_cases hb : hasB bad x = true <;> simp [hb]
def ag31 (p vb cb : Nat) (x : Int) (t : ByteArray) (a' : Option Addr) (n' c' : Nat) (q e : Int) (a : Option Addr) (n c : Nat) (l nx : List Int) : Nat → World → Value → Prop
  | 0 => fun _ v => v = .pointer (some ⟨p, 0, none⟩)
  | 1 => fun _ v => v = .pointer (some ⟨vb, 0, none⟩)
  | 2 => fun _ v => v = .int .i64 x
  | 3 => fun _ v => v = .pointer (some ⟨vb, 1, none⟩)
  | 4 => fun _ v => v = .string t
  | 5 => fun _ v => v = .pointer (some ⟨vb, 2, none⟩)
  | 6 => fun _ v => v = .slice a' n' c'
  | 7 => fun _ v => v = .agg #[.int .i64 x, .string t, .slice a' n' c', .int .i64 q]
  | 8 => fun _ v => v = .agg #[.int .i64 e, .slice a n c]
  | 9 => fun w v => ∃ a8 n8 c8, v = .slice a8 n8 c8 ∧ SlAt shSig w a8 n8 c8 (sgOf q x (vS e l t nx) (vC e l t nx))
  | _ => fun _ _ => False
theorem ag31_stab {p vb cb : Nat} {x : Int} {t : ByteArray} {a' : Option Addr} {n' c' : Nat} {q e : Int} {a : Option Addr} {n c : Nat} {l nx : List Int} : ∀ i w w' v, ag31 p vb cb x t a' n' c' q e a n c l nx i w v → Below w.heap.size w w' → ag31 p vb cb x t a' n' c' q e a n c l nx i w' v
  | 0, w, w', v, h, hb => h
  | 1, w, w', v, h, hb => h
  | 2, w, w', v, h, hb => h
  | 3, w, w', v, h, hb => h
  | 4, w, w', v, h, hb => h
  | 5, w, w', v, h, hb => h
  | 6, w, w', v, h, hb => h
  | 7, w, w', v, h, hb => h
  | 8, w, w', v, h, hb => h
  | 9, w, w', v, ⟨a8, n8, c8, h1, h2⟩, hb => ⟨a8, n8, c8, h1, h2.old hb⟩
  | _ + 10, w, w', v, h, hb => h
def ag32 (p vb cb : Nat) (x : Int) (t : ByteArray) (a' : Option Addr) (n' c' : Nat) (q e : Int) (a : Option Addr) (n c : Nat) (l nx : List Int) : Nat → World → Value → Prop
  | 0 => fun _ v => v = .pointer (some ⟨p, 0, none⟩)
  | 1 => fun _ v => v = .pointer (some ⟨vb, 0, none⟩)
  | 2 => fun _ v => v = .int .i64 x
  | 3 => fun _ v => v = .pointer (some ⟨vb, 1, none⟩)
  | 4 => fun _ v => v = .string t
  | 5 => fun _ v => v = .pointer (some ⟨vb, 2, none⟩)
  | 6 => fun _ v => v = .slice a' n' c'
  | 7 => fun _ v => v = .agg #[.int .i64 x, .string t, .slice a' n' c', .int .i64 q]
  | 8 => fun _ v => v = .agg #[.int .i64 e, .slice a n c]
  | 9 => fun w v => ∃ a8 n8 c8, v = .slice a8 n8 c8 ∧ SlAt shSig w a8 n8 c8 (sgOf q x (vS e l t nx) (vC e l t nx))
  | _ => fun _ _ => False
theorem ag32_stab {p vb cb : Nat} {x : Int} {t : ByteArray} {a' : Option Addr} {n' c' : Nat} {q e : Int} {a : Option Addr} {n c : Nat} {l nx : List Int} : ∀ i w w' v, ag32 p vb cb x t a' n' c' q e a n c l nx i w v → Below w.heap.size w w' → ag32 p vb cb x t a' n' c' q e a n c l nx i w' v
  | 0, w, w', v, h, hb => h
  | 1, w, w', v, h, hb => h
  | 2, w, w', v, h, hb => h
  | 3, w, w', v, h, hb => h
  | 4, w, w', v, h, hb => h
  | 5, w, w', v, h, hb => h
  | 6, w, w', v, h, hb => h
  | 7, w, w', v, h, hb => h
  | 8, w, w', v, h, hb => h
  | 9, w, w', v, ⟨a8, n8, c8, h1, h2⟩, hb => ⟨a8, n8, c8, h1, h2.old hb⟩
  | _ + 10, w, w', v, h, hb => h

set_option maxHeartbeats 4000000 in
theorem walk (w : World) (e : Int) (a : Option Addr) (n c : Nat) (l : List Int) (he : i64 e) (hl : SlAt Sh.int w a n c l) (ba : Option Addr) (bn bc : Nat) (bad : List Int) (hbad : SlAt Sh.int w ba bn bc bad)
    (sa : Option Addr) (sn sc : Nat) (S0 : List Hv) (hs0 : SlAt shVote w sa sn sc S0) (ta : Option Addr) (tn tc : Nat) (S1 : List Hv) (hs1 : SlAt shVote w ta tn tc S1) (HK : shConf.sz (e, l) + Sh.int.slice.sz bad + shVote.slice.two.sz (S0, S1) ≤ 1048576) :
    Calls Try.prog 5 #[.agg #[.int .i64 e, .slice a n c], .slice ba bn bc, .agg #[.slice sa sn sc, .slice ta tn tc]] w fun e w' => e = .returned (.bool true) ∧ Below w.heap.size w w' := by
  obtain ⟨ii, hi, hz0, hz1, hz2⟩ := info_parts info_int15
  obtain ⟨iv, hv, hy0, hy1, hy2⟩ := info_parts info_vote15
  have hsn : sn ≤ 1048576 ∧ tn ≤ 1048576 := by
    have h1 := vote_len (L := S0)
    have h2 := vote_len (L := S1)
    have h3 : shVote.slice.two.sz (S0, S1) = shVote.slice.sz S0 + shVote.slice.sz S1 := rfl
    rw [hs0.len] at h1
    rw [hs1.len] at h2
    omega
  have HL := Lib.hid (ints_of_sl hl); have HBd := Lib.hid (ints_of_sl hbad)
  have hlen := hl.len
  have hnm : n ≤ 9223372036854775807 := Nat.le_trans hl.cap hl.max
  have hnb : n * 8 ≤ 140737488355328 := hl.bytes
  have hnil : a = none → c = 0 ∧ n = 0 := fun h => ⟨hl.nil h, by have := hl.nil h; have := hl.cap; omega⟩
  have CL := Lib.hid lives15_any
  have BX1 := below_alloc w (.cells #[.int .i64 e, .slice a n c] 24 (0, 0))
  have BX2 := below_alloc (w.alloc (.cells #[.int .i64 e, .slice a n c] 24 (0, 0))) (.cells #[.slice sa sn sc, .slice ta tn tc] 59 (0, 0))
  have KC0 := Lib.hid (blk_below (blk_alloc w (.cells #[.int .i64 e, .slice a n c] 24 (0, 0))) BX2)
  have ks := blk_alloc (w.alloc (.cells #[.int .i64 e, .slice a n c] 24 (0, 0))) (.cells #[.slice sa sn sc, .slice ta tn tc] 59 (0, 0))
  rw [World.size_alloc] at ks
  have KS0 := Lib.hid ks
  have B0 := Lib.hid (bthen BX1 BX2)
  have HSC := Lib.hid (show ∀ k, k < 2 → ∃ ak nk ck L, ([Value.slice sa sn sc, .slice ta tn tc] : List Value)[k]? = some (.slice ak nk ck) ∧ SlAt shVote w ak nk ck L ∧ nk ≤ 1048576 from fun k hk => by
    obtain rfl | rfl : k = 0 ∨ k = 1 := by omega
    · exact ⟨sa, sn, sc, S0, rfl, hs0, hsn.1⟩
    · exact ⟨ta, tn, tc, S1, rfl, hs1, hsn.2⟩)
  clear hl hbad hs0 hs1 HK BX1 BX2 ks
  go_enter Try.func5, Try.ntmps5
  go_upto_region 1 with (fail)
  have hz0s : ((w.alloc (.cells #[.int .i64 e, .slice a n c] 24 (0, 0))).alloc (.cells #[.slice sa sn sc, .slice ta tn tc] 59 (0, 0))).heap.size = w.heap.size + 2 := by simp
  generalize (w.alloc (.cells #[.int .i64 e, .slice a n c] 24 (0, 0))).alloc (.cells #[.slice sa sn sc, .slice ta tn tc] 59 (0, 0)) = w0 at *
  go_wp2_with fail
  refine (CL.out w0).mono ?_
  rintro r w1 ⟨rfl, b1⟩
  have hz1s : w.heap.size + 2 ≤ w1.heap.size := by have := b1.size; omega
  have B1 := Lib.hid (bthen B0.out b1)
  have K1 := Lib.hid (blk_below KC0.out b1)
  have S1' := Lib.hid (blk_below KS0.out b1)
  clear b1 B0 KC0 KS0 hz0s
  have k0 : w1.cell? ⟨w.heap.size, 0, none⟩ = some (.int .i64 e) := by rw [blk_cell K1.out]; rfl
  have k1 : w1.cell? ⟨w.heap.size, 1, none⟩ = some (.slice a n c) := by rw [blk_cell K1.out]; rfl
  have CN := Lib.hid (vnew_any e a n c l w1 (HL.out.below B1.out) hnil hnb he)
  go_wp2_with fail
  refine CN.out.mono ?_
  rintro r w2 ⟨b2, h2⟩
  have B2 := Lib.hid (bthen B1.out b2)
  have K2 := Lib.hid (blk_below K1.out b2)
  have S2 := Lib.hid (blk_below S1'.out b2)
  have hz2s : w.heap.size + 2 ≤ w2.heap.size := by have := b2.size; omega
  clear k0 k1 CN
  have k0 : w2.cell? ⟨w.heap.size, 0, none⟩ = some (.int .i64 e) := by rw [blk_cell K2.out]; rfl
  have k1 : w2.cell? ⟨w.heap.size, 1, none⟩ = some (.slice a n c) := by rw [blk_cell K2.out]; rfl
  have CN := Lib.hid (vnew_any e a n c l w2 (HL.out.below B2.out) hnil hnb he)
  rcases h2 with ⟨hr, M1, p, mv, mc, rfl, hM1, hT1⟩ | ⟨hno, rfl⟩
  case inr =>
    clear b2
    go_wp2_with fail
    refine CN.out.mono ?_
    rintro r w3 ⟨b3, h3⟩
    obtain ⟨-, rfl⟩ := h3.resolve_left (fun h => by rw [hno] at h; cases h.1)
    have B3 := Lib.hid (bthen B2.out b3)
    clear b3 h3 k0 k1
    go_wp2_with fail
    go_ret
    exact ⟨rfl, B3.out⟩
  have HT1 := Lib.hid hT1
  have HM1 := Lib.hid (show ∀ j, M1 j → w.heap.size + 2 ≤ j from fun j hj => Nat.le_trans hz1s (hM1 j hj))
  clear b2 hT1 hM1
  go_wp2_with fail
  refine CN.out.mono ?_
  rintro r w3 ⟨b3, h3⟩
  obtain ⟨-, M2, p', mv', mc', rfl, hM2, hT2⟩ := h3.resolve_right (fun h => by rw [hr] at h; cases h.1)
  have h10 := risingB_len (rightB_rising hr).2.2
  have B3 := Lib.hid (bthen B2.out b3)
  have K3 := Lib.hid (blk_below K2.out b3)
  have S3 := Lib.hid (blk_below S2.out b3)
  have hz3s : w.heap.size + 2 ≤ w3.heap.size := by have := b3.size; omega
  have hlt1 := HT1.out.lt
  have HA3 := Lib.hid (show ∃ M1 M2 : Nat → Prop, (∀ j, M1 j → w.heap.size + 2 ≤ j) ∧ (∀ j, M2 j → w.heap.size + 2 ≤ j) ∧ (∀ j, M1 j → ¬ M2 j) ∧ TalAt M1 w3 p mv mc e l [] ∧ TalAt M2 w3 p' mv' mc' e l [] from ⟨M1, M2, HM1.out, fun j hj => Nat.le_trans hz2s (hM2 j hj), fun j h1 h2 => by have := hlt1 j h1; have := hM2 j h2; omega, HT1.out.old b3, hT2⟩)
  clear b3 h3 hT2 hM2 HT1 HM1 hlt1 k0 k1 CN B1 K1 S1' B2 K2 S2 hz1s hz2s
  go_wp2_with fail
  go_loopw [11, 12] (fun wl i wr => ∃ k : Nat, k ≤ n ∧ i = .int .i64 k ∧ wl = .int .i64 (wildP bad l k : Nat) ∧ Hid (Below w3.heap.size w3 wr)) (fun _ i _ => n - (intOf i).toNat)
  case atStart => exact ⟨0, by omega, rfl, rfl, Lib.hid (Below.refl _ _)⟩
  case round =>
    obtain ⟨k, hk, rfl, rfl, HW⟩ := hrel
    have KCr := Lib.hid (blk_below K3.out HW.out)
    have c1 : wr.cell? ⟨w.heap.size, 1, none⟩ = some (.slice a n c) := by rw [blk_cell KCr.out]; rfl
    by_cases hlt : k < n
    · have hd : decide ((k : Int) < (n : Int)) = true := by simp; omega
      obtain ⟨bb, o, x, rfl, hc, hj0, hj1, hdr, hxk⟩ := (HL.out.below (bthen B3.out HW.out)).elem k hlt
      have hws := wild_succ (bad := bad) hxk
      have hwl : wildP bad l k ≤ 10 := Nat.le_trans (List.length_filter_le _ _) (by rw [List.length_take]; omega)
      have hww : IntKind.i64.wrap ((wildP bad l k : Int) + 1) = (wildP bad l k : Int) + 1 := IntWalk.i64_in _ (by omega)
      have CH := Lib.hid (rhas_any ba bn bc bad x wr (HBd.out.below (bthen B3.out HW.out)))
      generalize hasB bad x = hb at *
      clear hdr hxk
      go_wp2_with fail
      refine CH.out.mono ?_
      rintro r w9 ⟨rfl, rfl⟩
      cases hb with
      | false =>
        have hws' : wildP bad l (k + 1) = wildP bad l k := by rw [hws]; simp
        go_wp2_with fail
        go_roundw
        case rel => exact ⟨k + 1, by omega, by go_num, by rw [hws'], HW⟩
        case measure => simp [intOf]; omega
      | true =>
        have hws' : wildP bad l (k + 1) = wildP bad l k + 1 := by rw [hws]; simp
        go_wp2_with fail
        go_roundw
        case rel => exact ⟨k + 1, by omega, by go_num, by rw [hws']; simp, HW⟩
        case measure => simp [intOf]; omega
    · obtain rfl : n = k := by omega
      have hd : decide ((n : Int) < (n : Int)) = false := by simp
      have hwt : wildP bad l n = (l.filter (hasB bad)).length := by unfold wildP; rw [List.take_of_length_le (by omega)]
      rw [hwt]
      go_wp2_with fail
      refine (faults_any (n : Int) wr (by omega) (by omega)).mono ?_
      rintro r w9 ⟨rfl, rfl⟩
      by_cases hwd : faultsP (n : Int) < ((l.filter (hasB bad)).length : Int)
      · have hdw : decide (faultsP (n : Int) < ((l.filter (hasB bad)).length : Int)) = true := by simpa using hwd
        go_wp2_with fail
        go_ret
        exact ⟨rfl, bthen B3.out HW.out⟩
      have hdw : decide (faultsP (n : Int) < ((l.filter (hasB bad)).length : Int)) = false := by simpa using hwd
      have HWild := Lib.hid (show ((l.filter (hasB bad)).length : Int) ≤ faultsP (l.length : Int) by rw [hlen]; omega)
      obtain ⟨w4, hw4⟩ : ∃ w4, w4 = wr := ⟨_, rfl⟩
      subst hw4
      have hz4 := HW.out.size
      obtain ⟨w5, hmk, hown5, hg5⟩ := run_makeSlice_owned (P := Try.prog) w4 (w.heap.size + 2) 22 3 ii (.int .i64 0) 1 Try.underlying22 hi hz0 hz1 .i64 .i64 0 (by omega) (by omega) (by decide) (by omega)
      have hmk' : (Instr.makeSlice 22 (.int .i64 0) (.int .i64 0)).run Try.prog w4 = .ok (.slice (some ⟨w4.heap.size, 0, none⟩) 0 0) w5 := hmk
      have b45 : Below w4.heap.size w4 w5 := grown_below_none hg5
      obtain ⟨M1, M2, g1, g2, g3, t1, t2⟩ := HA3.out
      have b35 := bthen HW.out b45
      have HAG5 := Lib.hid (show Ag w.heap.size (w.heap.size + 2) bad e l p mv mc p' mv' mc' w5 (.slice (some ⟨w4.heap.size, 0, none⟩) 0 0) (.slice none 0 0) [] from
        ⟨⟨hown5, [], World.ownsRow_nil _ _ _ _, rfl⟩, by simp, [], [], M1, M2, VOk.nil hr, VOk.nil hr, Told.nil _ _, Told.nil _ _, g1, g2, g3, (fun j hj => by
          rcases hj with hj | hj
          · have hjj : w4.heap.size = j := by simpa [Value.ownBlock] using hj
            exact ⟨fun hm => by have := t1.lt j hm; omega, fun hm => by have := t2.lt j hm; omega⟩
          · cases hj), t1.old b35, t2.old b35⟩)
      have KC5 := Lib.hid (blk_below K3.out b35)
      have KS5 := Lib.hid (blk_below S3.out b35)
      have W5 := Lib.hid (bthen B3.out b35)
      clear hmk hown5 hg5 b45 b35 g1 g2 g3 t1 t2 HA3 HW K3 S3 KCr c1 hwt hwd B3 hz3s
      go_upto_region 17 with (fail)
      clear hmk' M1 M2
      generalize hgs : w4.heap.size = gs at *
      go_wp2_with fail
      go_loopw [13, 14, 15] (fun vs vf i wr => ∃ k2 : Nat, k2 ≤ 2 ∧ i = .int .i64 k2 ∧ ∃ F : List Hv, F.length ≤ k2 * 1048576 ∧ Hid (Ag w.heap.size (w.heap.size + 2) bad e l p mv mc p' mv' mc' wr vs vf F) ∧ Hid (wr.heap[w.heap.size]? = some (.cells #[.int .i64 e, .slice a n c] 24 (0, 0))) ∧
        Hid (wr.heap[w.heap.size + 1]? = some (.cells #[.slice sa sn sc, .slice ta tn tc] 59 (0, 0))) ∧ Hid (Below w.heap.size w wr)) (fun _ _ i _ => 2 - (intOf i).toNat)
      case atStart => exact ⟨0, by omega, rfl, [], by simp, HAG5, KC5, KS5, W5⟩
      case round =>
        clear HAG5 KC5 KS5 W5
        obtain ⟨k2, hk2, rfl, F, hF, HAG, KC, KS, HW⟩ := hrel
        obtain ⟨wo, hwo⟩ : ∃ wo, wo = wr := ⟨_, rfl⟩
        subst hwo
        by_cases hlt2 : k2 < 2
        · have hd2 : decide ((k2 : Int) < (2 : Int)) = true := by simp; omega
          have hd20 : (0 : Int) ≤ (k2 : Int) := by omega
          have hd21 : (k2 : Int) < (2 : Int) := by omega
          obtain ⟨ak, nk, ck, L, hLk, hL, hnk⟩ := HSC.out k2 hlt2
          have HLL := Lib.hid hL
          have HLk := Lib.hid (show ∀ w' : World, w'.heap[w.heap.size + 1]? = some (.cells #[.slice sa sn sc, .slice ta tn tc] 59 (0, 0)) → w'.cell? ⟨w.heap.size + 1, k2, none⟩ = some (.slice ak nk ck) from fun w' hw' => by rw [blk_cell hw']; simpa using hLk)
          clear hL hLk
          go_wp2_with fail
          go_loopw [13, 14, 16] (fun vs vf i wr => ∃ j : Nat, j ≤ nk ∧ i = .int .i64 j ∧ ∃ F : List Hv, F.length ≤ k2 * 1048576 + j ∧ Hid (Ag w.heap.size (w.heap.size + 2) bad e l p mv mc p' mv' mc' wr vs vf F) ∧ Hid (wr.heap[w.heap.size]? = some (.cells #[.int .i64 e, .slice a n c] 24 (0, 0))) ∧
            Hid (wr.heap[w.heap.size + 1]? = some (.cells #[.slice sa sn sc, .slice ta tn tc] 59 (0, 0))) ∧ Hid (Below w.heap.size w wr)) (fun _ _ i _ => nk - (intOf i).toNat)
          case atStart => exact ⟨0, Nat.zero_le _, rfl, F, Nat.le_trans hF (Nat.le_add_right _ _), HAG, KC, KS, HW⟩
          case round =>
            clear HAG KC KS HW hF F
            obtain ⟨j, hj, rfl, F, hF, HAG, KC, KS, HW⟩ := hrel
            have hk0 := HLk.out wr KS.out
            by_cases hlt3 : j < nk
            · have hd3 : decide ((j : Int) < (nk : Int)) = true := by simp; omega
              have hj0 : (0 : Int) ≤ (j : Int) := by omega
              have hj1 : (j : Int) < (nk : Int) := by omega
              obtain ⟨bb, o, x, t, nx, q, a', n', c', rfl, hy, x0, x1, x2, x3, hvo⟩ := vote_cells_old HLL.out HW.out hlt3
              have HVO := Lib.hid hvo
              have HVI := Lib.hid (hvo _ HW.out)
              clear hy hvo
              obtain ⟨av, cv, rfl⟩ := owns_form HAG.out.fs.1
              obtain ⟨xs, hf2, hrow⟩ := HAG.out.fs.2
              obtain ⟨bv, dv, rfl⟩ := owns_form hf2
              go_upto_region 24 with (fail)
              have kv6 := blk_alloc wr (.cells #[.int .i64 x, .string t, .slice a' n' c', .int .i64 q] 38 (0, 0))
              have b6 := below_alloc wr (.cells #[.int .i64 x, .string t, .slice a' n' c', .int .i64 q] 38 (0, 0))
              have KV6 := Lib.hid kv6
              have HVI6 := Lib.hid (HVI.out.old b6)
              have HAG6 := Lib.hid (HAG.out.old b6)
              have KC6 := Lib.hid (blk_below KC.out b6)
              have KS6 := Lib.hid (blk_below KS.out b6)
              have W6 := Lib.hid (bthen HW.out b6)
              have hF2 := owns_old hf2 b6
              have SLF := Lib.hid (sl_of_row hF2 (hrow.step (Y := fun _ => False) (X' := fun k => w.heap.size ≤ k) (Keep.of_below b6) (fun _ _ h => h.elim) (fun _ _ h => h)) (by show _ * 56 ≤ _; omega))
              have HF2 := Lib.hid hF2
              have HROW := Lib.hid (hrow.step (Y := fun _ => False) (X' := fun k => w.heap.size ≤ k) (Keep.of_below b6) (fun _ _ h => h.elim) (fun _ _ h => h))
              have hvbw : w.heap.size + 2 ≤ wr.heap.size := blk_lt KS.out
              have HFin := Lib.hid (show ∀ w', Below wr.heap.size wr w' → Hid (Ag w.heap.size (w.heap.size + 2) bad e l p mv mc p' mv' mc' w' (.slice av F.length cv) (.slice bv F.length dv) F) ∧ Hid (w'.heap[w.heap.size]? = some (.cells #[.int .i64 e, .slice a n c] 24 (0, 0))) ∧ Hid (w'.heap[w.heap.size + 1]? = some (.cells #[.slice sa sn sc, .slice ta tn tc] 59 (0, 0))) ∧ Hid (Below w.heap.size w w') from fun w' hb => ⟨Lib.hid (HAG.out.old hb), Lib.hid (blk_below KC.out hb), Lib.hid (blk_below KS.out hb), Lib.hid (bthen HW.out hb)⟩)
              have B6r := Lib.hid b6
              have hltr := fun j hj => (hf2.lt j hj).2
              clear kv6 b6 HVI HAG KC KS HW x0 x1 x2 x3 hf2 hrow hF2 hk0
              generalize wr.alloc (.cells #[.int .i64 x, .string t, .slice a' n' c', .int .i64 q] 38 (0, 0)) = w6 at *
              generalize hvb : wr.heap.size = vb at *
              have v0 : w6.cell? ⟨vb, 0, none⟩ = some (.int .i64 x) := by rw [blk_cell KV6.out]; rfl
              have CB := Lib.hid (rhas_any ba bn bc bad x w6 (HBd.out.below W6.out))
              go_wp2_with fail
              refine CB.out.mono ?_
              rintro r w7 ⟨rfl, rfl⟩
              go_upto_if 98 with (fail)
              go_cut [13, 14] (fun vs vf wd => ∃ (F' : List Hv) (x' : Int) (t' : ByteArray) (nx' : List Int) (q' : Int) (a9 : Option Addr) (n9 c9 : Nat), F'.length ≤ k2 * 1048576 + (j + 1) ∧ (hasB bad x' = true ∨ (x', t', nx', q') ∈ F') ∧ Hid (wd.heap[vb]? = some (.cells #[.int .i64 x', .string t', .slice a9 n9 c9, .int .i64 q'] 38 (0, 0))) ∧ Hid (VoteIn wd x' t' a9 n9 c9 nx' q') ∧
                Hid (Ag w.heap.size (w.heap.size + 2) bad e l p mv mc p' mv' mc' wd vs vf F') ∧ Hid (wd.heap[w.heap.size]? = some (.cells #[.int .i64 e, .slice a n c] 24 (0, 0))) ∧ Hid (wd.heap[w.heap.size + 1]? = some (.cells #[.slice sa sn sc, .slice ta tn tc] 59 (0, 0))) ∧ Hid (Below w.heap.size w wd))
              case first =>
                cases hb : hasB bad x with
                | true =>
                  go_wp2_with fail
                  go_meet
                  case rel => exact ⟨F, x, t, nx, q, a', n', c', by omega, .inl hb, KV6, HVI6, HAG6, KC6, KS6, W6⟩
                | false =>
                  have hi64 : ∀ y ∈ F.map (·.1), i64 y := fun y hy => by
                    obtain ⟨f, hf, rfl⟩ := List.mem_map.1 hy
                    obtain ⟨i, hi, rfl⟩ := List.getElem_of_mem hf
                    obtain ⟨_, _, y', _, _, _, _, _, _, _, hy', _, _, _, _, hv⟩ := vote_cells SLF.out hi
                    rw [List.getElem?_eq_getElem hi] at hy'
                    injection hy' with hy'
                    rw [hy']; exact hv.x
                  have CWh := Lib.hid (where15_any av F.length cv (F.map (·.1)) x w6 (ints_of_sl (ints_row HAG6.out.fs.1 (by simp) hi64 (by omega))))
                  have hsaid := Lib.hid HAG6.out.fs.1
                  clear hi64
                  by_cases hix : (0 : Int) ≤ idxFrom 0 (F.map (·.1)) x
                  · obtain ⟨i, hii, f, hfi, hfx⟩ := idx_at hix
                    have hiF : i < F.length := (List.getElem?_eq_some_iff.1 hfi).1
                    obtain ⟨x', t', nx', q'⟩ := f
                    obtain rfl : x' = x := hfx
                    obtain ⟨fb, a9, n9, c9, rfl, z0, z1, z2, z3, hv9⟩ := first_cells HF2.out HROW.out hfi
                    rw [hii] at CWh
                    have hdi : decide ((0 : Int) ≤ (i : Int)) = true := by simp
                    have hi0 : (0 : Int) ≤ (i : Int) := by omega
                    have hi1 : (i : Int) < (F.length : Int) := by omega
                    have v1 : w6.cell? ⟨vb, 1, none⟩ = some (.string t) := by rw [blk_cell KV6.out]; rfl
                    have v2 : w6.cell? ⟨vb, 2, none⟩ = some (.slice a' n' c') := by rw [blk_cell KV6.out]; rfl
                    have v3 : w6.cell? ⟨vb, 3, none⟩ = some (.int .i64 q) := by rw [blk_cell KV6.out]; rfl
                    have fz0 := blk_frozen KV6.out 0; have fz1 := blk_frozen KV6.out 1; have fz2 := blk_frozen KV6.out 2; have fz3 := blk_frozen KV6.out 3
                    have k9 := blk_set (blk_set (blk_set (blk_set KV6.out 0 (.int .i64 x')) 1 (.string t')) 2 (.slice a9 n9 c9)) 3 (.int .i64 q')
                    simp only [List.setIfInBounds_toArray, List.set_cons_zero, List.set_cons_succ] at k9
                    have KV9 := Lib.hid k9
                    have K9 := ((((Keep.refl (fun j => j = vb) w6).set (p := vb) (.inr rfl) 0 (.int .i64 x')).set (p := vb) (.inr rfl) 1 (.string t')).set (p := vb) (.inr rfl) 2 (.slice a9 n9 c9)).set (p := vb) (.inr rfl) 3 (.int .i64 q')
                    have HV9 := Lib.hid (hv9 _ ((Keep.refl (fun k => w.heap.size ≤ k) w6).trans K9 (fun j _ hj => by omega)))
                    obtain ⟨A9, C9, S9, W9⟩ := HFin.out _ (bsetB (bsetB (bsetB (bsetB B6r.out (Nat.le_refl _) 0 (.int .i64 x')) (Nat.le_refl _) 1 (.string t')) (Nat.le_refl _) 2 (.slice a9 n9 c9)) (Nat.le_refl _) 3 (.int .i64 q'))
                    have hmem := List.mem_of_getElem? hfi
                    clear k9 K9 hv9 hfi hix HF2 HROW SLF hsaid HFin B6r HAG6 KC6 KS6 W6 HVI6
                    go_wp2_with fail
                    refine CWh.out.mono ?_
                    rintro r w8 ⟨rfl, rfl⟩
                    go_wp2_with fail
                    go_meet
                    case rel => exact ⟨F, x', t', nx', q', a9, n9, c9, by omega, .inr hmem, KV9, HV9, A9, C9, S9, W9⟩
                  · have hdi : decide ((0 : Int) ≤ idxFrom 0 (F.map (·.1)) x) = false := by simpa using hix
                    have hnoF := Lib.hid (idx_no hix)
                    generalize idxFrom 0 (F.map (·.1)) x = ix at *
                    have ba := below_alloc w6 (.cells #[.int .i64 x] 3 (0, 0))
                    have hlt1 := hsaid.out.lt
                    have hlt2' := HF2.out.lt
                    have hdn := rows_ne hsaid.out HF2.out (by decide)
                    have hdn2 := rows_ne HF2.out hsaid.out (by decide)
                    have hb2 : w.heap.size + 2 ≤ w6.heap.size := by have := blk_lt KV6.out; omega
                    clear hix
                    go_wp2_with fail
                    refine CWh.out.mono ?_
                    rintro r w8 ⟨rfl, rfl⟩
                    go_wp2_with (first | (at_builtin; refine wpList_append_lies _ rfl (.tmp 109) (.tmp 112) 22 rfl (w.heap.size + 2) 3 ii (.int .i64 0) 1 8 Try.underlying22 hi hz0 hz1 hz2 rfl (by decide) (.slice av F.length cv) F.length _ rfl (owns_old hsaid.out ba) ⟨w6.heap.size, 0, none⟩ 1 1 [.int .i64 x] rfl rfl (x_new w6 x) (by simp [Value.oneCell']) (by decide) (by unfold maxLen; omega) (by omega) (by simp; omega) _ rfl ?_) | fail)
                    intro g8 cap8 w8 hown8 hg8 hor8 hlt8
                    have K8 : Keep (fun j => (Value.slice av F.length cv).ownBlock = some j) w6 w8 := (Keep.of_below ba).grown hg8 (fun j hj => .inr hj)
                    have kv8 : w8.heap[vb]? = _ := (K8.block _ (blk_lt KV6.out) (fun h => by
                      rcases hsaid.out.2 with ⟨h0, _⟩ | ⟨g, cap, cur, h0, _, hg, _⟩
                      · rw [h0] at h; cases h
                      · rw [h0] at h
                        have h1 : g = vb := by simpa [Value.ownBlock] using h
                        rw [h1, KV6.out] at hg
                        injection hg with hg
                        injection hg with _ hg _
                        revert hg; decide)).trans KV6.out
                    have hf8 := owns_keep HF2.out K8 (fun j hj hj' => hdn2 j hj hj')
                    have hr8 := HROW.out.step (X' := fun k => w.heap.size ≤ k) K8 (fun j _ hj => by have := (hlt1 j hj).1; omega) (fun _ _ h => h)
                    have v0' : w8.cell? ⟨vb, 0, none⟩ = some (.int .i64 x) := by rw [blk_cell kv8]; rfl
                    have v1' : w8.cell? ⟨vb, 1, none⟩ = some (.string t) := by rw [blk_cell kv8]; rfl
                    have v2' : w8.cell? ⟨vb, 2, none⟩ = some (.slice a' n' c') := by rw [blk_cell kv8]; rfl
                    have v3' : w8.cell? ⟨vb, 3, none⟩ = some (.int .i64 q) := by rw [blk_cell kv8]; rfl
                    have ba8 := below_alloc w8 (.cells #[.int .i64 x, .string t, .slice a' n' c', .int .i64 q] 38 (0, 0))
                    have hz8 := K8.size
                    have hlt8' := hf8.lt
                    have KV8 := Lib.hid kv8
                    have HO8 := Lib.hid hown8; have HF8 := Lib.hid hf8; have HR8 := Lib.hid hr8; have HK8 := Lib.hid K8
                    clear hown8 hf8 hr8 K8 kv8 hg8 v0 CWh ba
                    go_wp2_with (first | (at_builtin; refine wpList_append_lies _ rfl (.tmp 114) (.tmp 116) 30 rfl (w.heap.size + 2) 38 iv (.agg #[.int .i64 0, .string ⟨#[]⟩, .slice none 0 0, .int .i64 0]) 4 56 Try.underlying30 hv hy0 hy1 hy2 rfl (by decide) (.slice bv F.length dv) F.length _ rfl (owns_old HF8.out ba8) ⟨w8.heap.size, 0, none⟩ 1 1 [.int .i64 x, .string t, .slice a' n' c', .int .i64 q] rfl rfl (v_new w8 x t a' n' c' q) (by simp [Value.oneCell']) (by decide) (by unfold maxLen; omega) (by omega) (by simp; omega) _ rfl ?_) | fail)
                    intro g9 cap9 w9 hown9 hg9 hor9 hlt9
                    have K9 : Keep (fun j => (Value.slice bv F.length dv).ownBlock = some j) w8 w9 := (Keep.of_below ba8).grown hg9 (fun j hj => .inr hj)
                    have K69 : Keep (fun j => (Value.slice av F.length cv).ownBlock = some j ∨ (Value.slice bv F.length dv).ownBlock = some j) w6 w9 := ((Keep.refl (fun j => (Value.slice av F.length cv).ownBlock = some j ∨ (Value.slice bv F.length dv).ownBlock = some j) w6).trans HK8.out (fun j _ hj => .inl hj)).trans K9 (fun j _ hj => .inr hj)
                    have W9 := Lib.hid (K69.below W6.out (fun j hj => by rcases hj with hj | hj; exact Nat.le_trans (by omega) (hlt1 j hj).1; exact Nat.le_trans (by omega) (hlt2' j hj).1))
                    have KV9 := Lib.hid ((K9.block _ (blk_lt KV8.out) (fun h => by
                      have := hltr _ h; omega)).trans KV8.out)
                    have KC9 := Lib.hid ((K69.block _ (blk_lt KC6.out) (fun h => by rcases h with h | h; have := (hlt1 _ h).1; omega; have := (hlt2' _ h).1; omega)).trans KC6.out)
                    have KS9 := Lib.hid ((K69.block _ (blk_lt KS6.out) (fun h => by rcases h with h | h; have := (hlt1 _ h).1; omega; have := (hlt2' _ h).1; omega)).trans KS6.out)
                    have hsd : ∀ j, (Value.slice (some ⟨g8, 0, none⟩) (F.length + 1) cap8).ownBlock = some j → ¬ (Value.slice bv F.length dv).ownBlock = some j := fun j hj hj2 => by
                      have hgj : g8 = j := by simpa [Value.ownBlock] using hj
                      rcases hor8 with h | h
                      · exact hdn g8 h (by rw [hgj]; exact hj2)
                      · have := (hlt2' j hj2).2; omega
                    have hs9 := owns_keep HO8.out K9 hsd
                    have hr9 := HR8.out.step (X' := fun k => w.heap.size ≤ k) K9 (fun j _ hj => by have := (hlt2' j hj).1; omega) (fun _ _ h => h)
                    have hrs := hr9.snoc (cs := [.int .i64 x, .string t, .slice a' n' c', .int .i64 q]) (y := (x, t, nx, q)) rfl (fun w' hk => by
                      have hv := HVO.out w' (hk.below W9.out (fun _ h => h))
                      exact ⟨[.int .i64 x], _, rfl, ⟨rfl, hv.x⟩, [.string t], _, rfl, ⟨rfl, hv.u⟩, [.slice a' n' c'], _, rfl, ⟨_, _, _, rfl, hv.s⟩, rfl, hv.q⟩)
                    have hml : (F ++ [(x, t, nx, q)]).length = F.length + 1 := by simp
                    have hmm : intsV (F.map (·.1)) ++ [.int .i64 x] = intsV ((F ++ [(x, t, nx, q)]).map (·.1)) := by simp [intsV]
                    rw [hmm] at hs9
                    have HA9 := Lib.hid (HAG6.out.more K69 (vs' := .slice (some ⟨g8, 0, none⟩) (F.length + 1) cap8) (vf' := .slice (some ⟨g9, 0, none⟩) (F.length + 1) cap9) (f := (x, t, nx, q)) hnoF.out ⟨by rw [hml]; exact hs9, _, by rw [hml]; exact hown9, hrs⟩ (fun j hj => by
                      rcases hj with hj | hj
                      · have hgj : g8 = j := by simpa [Value.ownBlock] using hj
                        rcases hor8 with h | h
                        · exact .inl (.inl (by rw [← hgj]; exact h))
                        · exact .inr (by omega)
                      · have hgj : g9 = j := by simpa [Value.ownBlock] using hj
                        rcases hor9 with h | h
                        · exact .inl (.inr (by rw [← hgj]; exact h))
                        · exact .inr (by omega)))
                    have HV9 := Lib.hid (HVO.out w9 W9.out)
                    clear hown9 hg9 hor9 hlt9 K9 K69 hs9 hr9 hrs hsd HAG6 KC6 KS6 W6 HVI6 HO8 HF8 HR8 HK8 ba8 hlt8' hdn hdn2 hlt1 hlt2' HF2 HROW SLF hsaid HFin B6r v0' v1' v2' v3' KV8
                    go_wp2_with fail
                    go_meet
                    case rel => exact ⟨F ++ [(x, t, nx, q)], x, t, nx, q, a', n', c', by rw [hml]; omega, .inr (by simp), KV9, HV9, HA9, KC9, KS9, W9⟩
              case rest =>
                obtain ⟨F', x', t', nx', q', a9, n9, c9, hF', hmem, KV9, HV9, HA9, KC9, KS9, W9⟩ := hcut
                obtain ⟨x2, hx2⟩ : ∃ x2, x2 = x' := ⟨_, rfl⟩
                subst hx2
                clear KV6 HVI6 HAG6 KC6 KS6 W6 SLF HF2 HROW HFin B6r CB v0 hltr HVO
                have HLc := Lib.hid (HL.out.below W9.out)
                have hB9 : w.heap.size + 2 ≤ wc.heap.size := blk_lt KS9.out
                have HVI := HV9
                have hjn : IntKind.i64.wrap ((j : Int) + 1) = (j : Int) + 1 := IntWalk.i64_in _ (by omega)
                by_cases hk2z : k2 = 0
                · have hkz : ((k2 : Int) == 0) = true := by rw [hk2z]; rfl
                  clear hk2z
                  go_upto_region 31 with (fail)
                  refine wp_region_made 10 (ag31 p vb w.heap.size x2 t' a9 n9 c9 q' e a n c l nx') (fun _ _ => none) rfl (by kernel_rfl) (by kernel_rfl) ag31_stab (fun _ _ _ _ _ h => by cases h) (fun i oo hi ho => ?_) (fun vs w7 hb7 hs hne => ?_)
                  · intro ac wa hba hE hF K hK
                    have b7 := below_undrew hba
                    have hno : ∀ k, (none : Option Nat) = some k → wa.heap.size ≤ k := fun _ h => by cases h
                    have KCa := blk_below KC9.out b7
                    have KVa := blk_below KV9.out b7
                    have z0 : wa.cell? ⟨vb, 0, none⟩ = some (.int .i64 x2) := by rw [blk_cell KVa]; rfl
                    have z1 : wa.cell? ⟨vb, 1, none⟩ = some (.string t') := by rw [blk_cell KVa]; rfl
                    have z2 : wa.cell? ⟨vb, 2, none⟩ = some (.slice a9 n9 c9) := by rw [blk_cell KVa]; rfl
                    have z3 : wa.cell? ⟨vb, 3, none⟩ = some (.int .i64 q') := by rw [blk_cell KVa]; rfl
                    have y0 : wa.cell? ⟨w.heap.size, 0, none⟩ = some (.int .i64 e) := by rw [blk_cell KCa]; rfl
                    have y1 : wa.cell? ⟨w.heap.size, 1, none⟩ = some (.slice a n c) := by rw [blk_cell KCa]; rfl
                    have hi' : i = 0 ∨ i = 1 ∨ i = 2 ∨ i = 3 ∨ i = 4 ∨ i = 5 ∨ i = 6 ∨ i = 7 ∨ i = 8 ∨ i = 9 := by omega
                    rcases hi' with rfl | rfl | rfl | rfl | rfl | rfl | rfl | rfl | rfl | rfl
                    · obtain rfl := Option.some.inj ho
                      have h1 : ac.eval (.tmp 7) = .pointer (some ⟨p, 0, none⟩) := hE 7 (by decide)
                      exact news_val rfl rfl (by generalize ac.eval = ρ at h1; simp only [execOp]; go_simp) (hK _ _ (Below.refl _ _) rfl hno)
                    · obtain rfl := Option.some.inj ho
                      have h1 : ac.eval (.tmp 17) = .pointer (some ⟨vb, 0, none⟩) := hE 17 (by decide)
                      exact news_val rfl rfl (by generalize ac.eval = ρ at h1; simp only [execOp]; go_simp) (hK _ _ (Below.refl _ _) rfl hno)
                    · obtain rfl := Option.some.inj ho
                      have h1 : ac.eval (.tmp 121) = .pointer (some ⟨vb, 0, none⟩) := hF ⟨1, .data⟩ (by simp) rfl 121 rfl
                      exact news_val rfl rfl (by generalize ac.eval = ρ at h1; simp only [execOp]; go_simp) (hK _ _ (Below.refl _ _) rfl hno)
                    · obtain rfl := Option.some.inj ho
                      have h1 : ac.eval (.tmp 17) = .pointer (some ⟨vb, 0, none⟩) := hE 17 (by decide)
                      exact news_val rfl rfl (by generalize ac.eval = ρ at h1; simp only [execOp]; go_simp) (hK _ _ (Below.refl _ _) rfl hno)
                    · obtain rfl := Option.some.inj ho
                      have h1 : ac.eval (.tmp 123) = .pointer (some ⟨vb, 1, none⟩) := hF ⟨3, .data⟩ (by simp) rfl 123 rfl
                      exact news_val rfl rfl (by generalize ac.eval = ρ at h1; simp only [execOp]; go_simp) (hK _ _ (Below.refl _ _) rfl hno)
                    · obtain rfl := Option.some.inj ho
                      have h1 : ac.eval (.tmp 17) = .pointer (some ⟨vb, 0, none⟩) := hE 17 (by decide)
                      exact news_val rfl rfl (by generalize ac.eval = ρ at h1; simp only [execOp]; go_simp) (hK _ _ (Below.refl _ _) rfl hno)
                    · obtain rfl := Option.some.inj ho
                      have h1 : ac.eval (.tmp 125) = .pointer (some ⟨vb, 2, none⟩) := hF ⟨5, .data⟩ (by simp) rfl 125 rfl
                      exact news_val rfl rfl (by generalize ac.eval = ρ at h1; simp only [execOp]; go_simp) (hK _ _ (Below.refl _ _) rfl hno)
                    · obtain rfl := Option.some.inj ho
                      have h1 : ac.eval (.tmp 17) = .pointer (some ⟨vb, 0, none⟩) := hE 17 (by decide)
                      exact news_val rfl rfl (by generalize ac.eval = ρ at h1; simp only [execOp]; go_simp) (hK _ _ (Below.refl _ _) rfl hno)
                    · obtain rfl := Option.some.inj ho
                      have h1 : ac.eval (.tmp 3) = .pointer (some ⟨w.heap.size, 0, none⟩) := hE 3 (by decide)
                      exact news_val rfl rfl (by generalize ac.eval = ρ at h1; simp only [execOp]; go_simp) (hK _ _ (Below.refl _ _) rfl hno)
                    · obtain rfl := Option.some.inj ho
                      have h1 : ac.eval (.tmp 127) = .agg #[.int .i64 x2, .string t', .slice a9 n9 c9, .int .i64 q'] := hF ⟨7, .data⟩ (by simp) rfl 127 rfl
                      have h2 : ac.eval (.tmp 128) = .agg #[.int .i64 e, .slice a n c] := hF ⟨8, .data⟩ (by simp) rfl 128 rfl
                      have hf : ac.eval (.func 14) = .func (.func 14) #[] #[] := rfl
                      refine made_call rfl rfl 14 #[.agg #[.int .i64 x2, .string t', .slice a9 n9 c9, .int .i64 q'], .agg #[.int .i64 e, .slice a n c]] (by generalize ac.eval = ρ at h1 h2 hf; simp only [execOp]; go_simp) (sigs15_any x2 t' a9 n9 c9 nx' q' e a n c l wa he (HLc.out.below b7) HVI.out.t (ints_of_sl (HVI.out.old b7).s) HVI.out.x) ?_
                      rintro r w8 ⟨v8, rfl, ho8, b8⟩
                      obtain ⟨a8, c8, rfl⟩ := owns_form ho8
                      exact ⟨_, rfl, hK _ _ b8 ⟨a8, _, c8, rfl, sigs_row ho8 rfl (sgOf_ok HVI.out.x HVI.out.t) (by have := sgOf_len q' x2 (vS e l t' nx') (vC e l t' nx'); omega)⟩ (fun _ h => by cases h)⟩
                  · have e0 : vs 0 = _ := hs 0 (by omega)
                    have e1 : vs 1 = _ := hs 1 (by omega)
                    have e2 : vs 2 = _ := hs 2 (by omega)
                    have e3 : vs 3 = _ := hs 3 (by omega)
                    have e4 : vs 4 = _ := hs 4 (by omega)
                    have e5 : vs 5 = _ := hs 5 (by omega)
                    have e6 : vs 6 = _ := hs 6 (by omega)
                    have e7 : vs 7 = _ := hs 7 (by omega)
                    have e8 : vs 8 = _ := hs 8 (by omega)
                    obtain ⟨a8, n8, c8, e9, hs8⟩ : ∃ a8 n8 c8, (vs 9) = .slice a8 n8 c8 ∧ SlAt shSig w7 a8 n8 c8 (sgOf q' x2 (vS e l t' nx') (vC e l t' nx')) := hs 9 (by omega)
                    show wpList _ _ _ _ ((((((((((Act.put _ (some 120) (vs 0)).put (some 121) (vs 1)).put (some 122) (vs 2)).put (some 123) (vs 3)).put (some 124) (vs 4)).put (some 125) (vs 5)).put (some 126) (vs 6)).put (some 127) (vs 7)).put (some 128) (vs 8)).put (some 129) (vs 9)) _
                    rw [e0, e1, e2, e3, e4, e5, e6, e7, e8, e9]
                    clear e0 e1 e2 e3 e4 e5 e6 e7 e8 e9 hs hne vs
                    have B7 := hb7
                    have CA := Lib.hid (add1_any (HA9.out.old hb7) (by omega) (Nat.le_trans hB9 hb7.size) x2 t' a9 n9 c9 nx' q' a8 n8 c8 _ hmem (HV9.out.old hb7) hs8)
                    have KC10 := blk_below KC9.out hb7
                    have KS10 := blk_below KS9.out hb7
                    have W10 := Lib.hid (bthen W9.out hb7)
                    have hz7 := hb7.size
                    clear hb7 hs8 B7
                    simp only [List.drop_succ_cons, List.drop_zero, Act.put, List.setIfInBounds_toArray, List.set_cons_succ, List.set_cons_zero]
                    go_wp2_with fail
                    refine CA.out.mono ?_
                    rintro r w8 ⟨⟨z, rfl⟩, b8, HA8⟩
                    have HA8 := Lib.hid HA8
                    have KC8 := Lib.hid ((b8.block _ (by omega)).trans KC10)
                    have KS8 := Lib.hid ((b8.block _ (by omega)).trans KS10)
                    have W8 := Lib.hid (W10.out.trans (b8.mono (by omega)))
                    clear b8 KC10 KS10 CA
                    go_wp2_with fail
                    go_roundw
                    case rel => exact ⟨j + 1, by omega, by go_num, F', hF', HA8, KC8, KS8, W8⟩
                    case measure => simp [intOf]; omega
                · have hkz : ((k2 : Int) == 0) = false := by simp; omega
                  clear hk2z
                  go_upto_region 32 with (fail)
                  refine wp_region_made 10 (ag32 p' vb w.heap.size x2 t' a9 n9 c9 q' e a n c l nx') (fun _ _ => none) rfl (by kernel_rfl) (by kernel_rfl) ag32_stab (fun _ _ _ _ _ h => by cases h) (fun i oo hi ho => ?_) (fun vs w7 hb7 hs hne => ?_)
                  · intro ac wa hba hE hF K hK
                    have b7 := below_undrew hba
                    have hno : ∀ k, (none : Option Nat) = some k → wa.heap.size ≤ k := fun _ h => by cases h
                    have KCa := blk_below KC9.out b7
                    have KVa := blk_below KV9.out b7
                    have z0 : wa.cell? ⟨vb, 0, none⟩ = some (.int .i64 x2) := by rw [blk_cell KVa]; rfl
                    have z1 : wa.cell? ⟨vb, 1, none⟩ = some (.string t') := by rw [blk_cell KVa]; rfl
                    have z2 : wa.cell? ⟨vb, 2, none⟩ = some (.slice a9 n9 c9) := by rw [blk_cell KVa]; rfl
                    have z3 : wa.cell? ⟨vb, 3, none⟩ = some (.int .i64 q') := by rw [blk_cell KVa]; rfl
                    have y0 : wa.cell? ⟨w.heap.size, 0, none⟩ = some (.int .i64 e) := by rw [blk_cell KCa]; rfl
                    have y1 : wa.cell? ⟨w.heap.size, 1, none⟩ = some (.slice a n c) := by rw [blk_cell KCa]; rfl
                    have hi' : i = 0 ∨ i = 1 ∨ i = 2 ∨ i = 3 ∨ i = 4 ∨ i = 5 ∨ i = 6 ∨ i = 7 ∨ i = 8 ∨ i = 9 := by omega
                    rcases hi' with rfl | rfl | rfl | rfl | rfl | rfl | rfl | rfl | rfl | rfl
                    · obtain rfl := Option.some.inj ho
                      have h1 : ac.eval (.tmp 9) = .pointer (some ⟨p', 0, none⟩) := hE 9 (by decide)
                      exact news_val rfl rfl (by generalize ac.eval = ρ at h1; simp only [execOp]; go_simp) (hK _ _ (Below.refl _ _) rfl hno)
                    · obtain rfl := Option.some.inj ho
                      have h1 : ac.eval (.tmp 17) = .pointer (some ⟨vb, 0, none⟩) := hE 17 (by decide)
                      exact news_val rfl rfl (by generalize ac.eval = ρ at h1; simp only [execOp]; go_simp) (hK _ _ (Below.refl _ _) rfl hno)
                    · obtain rfl := Option.some.inj ho
                      have h1 : ac.eval (.tmp 132) = .pointer (some ⟨vb, 0, none⟩) := hF ⟨1, .data⟩ (by simp) rfl 132 rfl
                      exact news_val rfl rfl (by generalize ac.eval = ρ at h1; simp only [execOp]; go_simp) (hK _ _ (Below.refl _ _) rfl hno)
                    · obtain rfl := Option.some.inj ho
                      have h1 : ac.eval (.tmp 17) = .pointer (some ⟨vb, 0, none⟩) := hE 17 (by decide)
                      exact news_val rfl rfl (by generalize ac.eval = ρ at h1; simp only [execOp]; go_simp) (hK _ _ (Below.refl _ _) rfl hno)
                    · obtain rfl := Option.some.inj ho
                      have h1 : ac.eval (.tmp 134) = .pointer (some ⟨vb, 1, none⟩) := hF ⟨3, .data⟩ (by simp) rfl 134 rfl
                      exact news_val rfl rfl (by generalize ac.eval = ρ at h1; simp only [execOp]; go_simp) (hK _ _ (Below.refl _ _) rfl hno)
                    · obtain rfl := Option.some.inj ho
                      have h1 : ac.eval (.tmp 17) = .pointer (some ⟨vb, 0, none⟩) := hE 17 (by decide)
                      exact news_val rfl rfl (by generalize ac.eval = ρ at h1; simp only [execOp]; go_simp) (hK _ _ (Below.refl _ _) rfl hno)
                    · obtain rfl := Option.some.inj ho
                      have h1 : ac.eval (.tmp 136) = .pointer (some ⟨vb, 2, none⟩) := hF ⟨5, .data⟩ (by simp) rfl 136 rfl
                      exact news_val rfl rfl (by generalize ac.eval = ρ at h1; simp only [execOp]; go_simp) (hK _ _ (Below.refl _ _) rfl hno)
                    · obtain rfl := Option.some.inj ho
                      have h1 : ac.eval (.tmp 17) = .pointer (some ⟨vb, 0, none⟩) := hE 17 (by decide)
                      exact news_val rfl rfl (by generalize ac.eval = ρ at h1; simp only [execOp]; go_simp) (hK _ _ (Below.refl _ _) rfl hno)
                    · obtain rfl := Option.some.inj ho
                      have h1 : ac.eval (.tmp 3) = .pointer (some ⟨w.heap.size, 0, none⟩) := hE 3 (by decide)
                      exact news_val rfl rfl (by generalize ac.eval = ρ at h1; simp only [execOp]; go_simp) (hK _ _ (Below.refl _ _) rfl hno)
                    · obtain rfl := Option.some.inj ho
                      have h1 : ac.eval (.tmp 138) = .agg #[.int .i64 x2, .string t', .slice a9 n9 c9, .int .i64 q'] := hF ⟨7, .data⟩ (by simp) rfl 138 rfl
                      have h2 : ac.eval (.tmp 139) = .agg #[.int .i64 e, .slice a n c] := hF ⟨8, .data⟩ (by simp) rfl 139 rfl
                      have hf : ac.eval (.func 14) = .func (.func 14) #[] #[] := rfl
                      refine made_call rfl rfl 14 #[.agg #[.int .i64 x2, .string t', .slice a9 n9 c9, .int .i64 q'], .agg #[.int .i64 e, .slice a n c]] (by generalize ac.eval = ρ at h1 h2 hf; simp only [execOp]; go_simp) (sigs15_any x2 t' a9 n9 c9 nx' q' e a n c l wa he (HLc.out.below b7) HVI.out.t (ints_of_sl (HVI.out.old b7).s) HVI.out.x) ?_
                      rintro r w8 ⟨v8, rfl, ho8, b8⟩
                      obtain ⟨a8, c8, rfl⟩ := owns_form ho8
                      exact ⟨_, rfl, hK _ _ b8 ⟨a8, _, c8, rfl, sigs_row ho8 rfl (sgOf_ok HVI.out.x HVI.out.t) (by have := sgOf_len q' x2 (vS e l t' nx') (vC e l t' nx'); omega)⟩ (fun _ h => by cases h)⟩
                  · have e0 : vs 0 = _ := hs 0 (by omega)
                    have e1 : vs 1 = _ := hs 1 (by omega)
                    have e2 : vs 2 = _ := hs 2 (by omega)
                    have e3 : vs 3 = _ := hs 3 (by omega)
                    have e4 : vs 4 = _ := hs 4 (by omega)
                    have e5 : vs 5 = _ := hs 5 (by omega)
                    have e6 : vs 6 = _ := hs 6 (by omega)
                    have e7 : vs 7 = _ := hs 7 (by omega)
                    have e8 : vs 8 = _ := hs 8 (by omega)
                    obtain ⟨a8, n8, c8, e9, hs8⟩ : ∃ a8 n8 c8, (vs 9) = .slice a8 n8 c8 ∧ SlAt shSig w7 a8 n8 c8 (sgOf q' x2 (vS e l t' nx') (vC e l t' nx')) := hs 9 (by omega)
                    show wpList _ _ _ _ ((((((((((Act.put _ (some 131) (vs 0)).put (some 132) (vs 1)).put (some 133) (vs 2)).put (some 134) (vs 3)).put (some 135) (vs 4)).put (some 136) (vs 5)).put (some 137) (vs 6)).put (some 138) (vs 7)).put (some 139) (vs 8)).put (some 140) (vs 9)) _
                    rw [e0, e1, e2, e3, e4, e5, e6, e7, e8, e9]
                    clear e0 e1 e2 e3 e4 e5 e6 e7 e8 e9 hs hne vs
                    have B7 := hb7
                    have CA := Lib.hid (add2_any (HA9.out.old hb7) (by omega) (Nat.le_trans hB9 hb7.size) x2 t' a9 n9 c9 nx' q' a8 n8 c8 _ hmem (HV9.out.old hb7) hs8)
                    have KC10 := blk_below KC9.out hb7
                    have KS10 := blk_below KS9.out hb7
                    have W10 := Lib.hid (bthen W9.out hb7)
                    have hz7 := hb7.size
                    clear hb7 hs8 B7
                    simp only [List.drop_succ_cons, List.drop_zero, Act.put, List.setIfInBounds_toArray, List.set_cons_succ, List.set_cons_zero]
                    go_wp2_with fail
                    refine CA.out.mono ?_
                    rintro r w8 ⟨⟨z, rfl⟩, b8, HA8⟩
                    have HA8 := Lib.hid HA8
                    have KC8 := Lib.hid ((b8.block _ (by omega)).trans KC10)
                    have KS8 := Lib.hid ((b8.block _ (by omega)).trans KS10)
                    have W8 := Lib.hid (W10.out.trans (b8.mono (by omega)))
                    clear b8 KC10 KS10 CA
                    go_wp2_with fail
                    go_roundw
                    case rel => exact ⟨j + 1, by omega, by go_num, F', hF', HA8, KC8, KS8, W8⟩
                    case measure => simp [intOf]; omega
            · obtain rfl : nk = j := by omega
              have hd3 : decide ((nk : Int) < (nk : Int)) = false := by simp
              have hk2n : IntKind.i64.wrap ((k2 : Int) + 1) = (k2 : Int) + 1 := IntWalk.i64_in _ (by omega)
              have hF2 : F.length ≤ (k2 + 1) * 1048576 := by omega
              go_wp2_with fail
              go_roundw
              case rel => exact ⟨k2 + 1, by omega, by go_num, F, hF2, HAG, KC, KS, HW⟩
              case measure => simp [intOf]; omega
        · obtain rfl : k2 = 2 := by omega
          have hd2 : decide ((2 : Int) < (2 : Int)) = false := by simp
          obtain ⟨V, U, M1, M2, h1, h2, h3, h4, h5, h6, h7, h8, h9, h10'⟩ := HAG.out.ex
          have CS := vsettled_any M1 p mv mc e l V wo h9 h1
          have HU := Lib.hid (fun w' hb => vsettled_any M2 p' mv' mc' e l U w' (h10'.old hb) h2)
          have HAgr := Lib.hid (fun y z hy hz => agree h1 h2 HAG.out.nd h3 h4 HWild.out (y := y) (z := z) hy hz)
          clear h1 h2 h3 h4 h5 h6 h7 h8 h9 h10' HAG KC KS hF
          go_wp2_with fail
          refine CS.mono ?_
          intro r w6 h6
          obtain ⟨b6, tx, a1, n1, c1, ep, a2, n2, c2, a3, n3, c3, rfl, g6⟩ := set_gen h6
          have hG6 := g6
          have ba := below_alloc w6 (.cells #[.string tx, .slice a1 n1 c1, .int .i64 ep, .slice a2 n2 c2, .slice a3 n3 c3] 51 (0, 0))
          have KA := Lib.hid (blk_alloc w6 (.cells #[.string tx, .slice a1 n1 c1, .int .i64 ep, .slice a2 n2 c2, .slice a3 n3 c3] 51 (0, 0)))
          have B6 := Lib.hid (bthen b6 ba)
          have G6 := Lib.hid (g6.step (X' := fun _ => False) (Keep.of_below (X := fun _ => False) ba) (fun _ _ h => h.elim) (fun _ _ h => h.elim))
          have CU := HU.out _ B6.out
          clear h6 b6 g6 hG6 ba CS
          go_wp2_with fail
          generalize w6.alloc (.cells #[.string tx, .slice a1 n1 c1, .int .i64 ep, .slice a2 n2 c2, .slice a3 n3 c3] 51 (0, 0)) = w7 at *
          generalize w6.heap.size = sb at *
          refine CU.mono ?_
          intro r w8 h8
          obtain ⟨b8, ty, d1, m1, f1, eq, d2, m2, f2, d3, m3, f3, rfl, g8⟩ := set_gen h8
          have ba := below_alloc w8 (.cells #[.string ty, .slice d1 m1 f1, .int .i64 eq, .slice d2 m2 f2, .slice d3 m3 f3] 51 (0, 0))
          have KB := Lib.hid (blk_alloc w8 (.cells #[.string ty, .slice d1 m1 f1, .int .i64 eq, .slice d2 m2 f2, .slice d3 m3 f3] 51 (0, 0)))
          have b79 := bthen b8 ba
          have G9 := Lib.hid (g8.step (X' := fun _ => False) (Keep.of_below (X := fun _ => False) ba) (fun _ _ h => h.elim) (fun _ _ h => h.elim))
          have G69 := Lib.hid (G6.out.step (X' := fun _ => False) (Keep.of_below (X := fun _ => False) b79) (fun _ _ h => h.elim) (fun _ _ h => h.elim))
          have KA9 := Lib.hid (blk_below KA.out b79)
          have W9 := Lib.hid (bthen HW.out (bthen B6.out b79))
          clear h8 b8 g8 ba b79 CU KA B6 G6 HU
          go_upto_region 35 with (fail)
          generalize w8.alloc (.cells #[.string ty, .slice d1 m1 f1, .int .i64 eq, .slice d2 m2 f2, .slice d3 m3 f3] 51 (0, 0)) = w9 at *
          generalize w8.heap.size = sc9 at *
          cases hw : winner l V with
          | none =>
            have hok : (none : Option (ByteArray × List Int)).isSome = false := rfl
            go_wp2_with fail
            go_ret
            exact ⟨rfl, W9.out⟩
          | some y =>
            have hok : (some y : Option (ByteArray × List Int)).isSome = true := rfl
            cases hu : winner l U with
            | none =>
              have hok2 : (none : Option (ByteArray × List Int)).isSome = false := rfl
              go_wp2_with fail
              go_ret
              exact ⟨rfl, W9.out⟩
            | some z =>
              have hok2 : (some z : Option (ByteArray × List Int)).isSome = true := rfl
              obtain rfl : y = z := HAgr.out y z hw hu
              obtain ⟨g1, g2, g3⟩ := G69.out.some y hw
              obtain ⟨h1, h2, h3⟩ := G9.out.some y hu
              have CSm := samec_any (e + 1) a2 n2 c2 y.2 (e + 1) d2 m2 f2 y.2 w9 (ints_of_sl g3.self.2.1) (ints_of_sl h3.self.2.1)
              rw [decide_eq_true rfl] at CSm
              replace CSm := Lib.hid CSm
              clear g3 h3
              subst g1 g2 h1 h2
              have s0 : w9.cell? ⟨sb, 0, none⟩ = some (.string y.1) := by rw [blk_cell KA9.out]; rfl
              have s2 : w9.cell? ⟨sb, 2, none⟩ = some (.int .i64 (e + 1)) := by rw [blk_cell KA9.out]; rfl
              have s3 : w9.cell? ⟨sb, 3, none⟩ = some (.slice a2 n2 c2) := by rw [blk_cell KA9.out]; rfl
              have z0 : w9.cell? ⟨sc9, 0, none⟩ = some (.string y.1) := by rw [blk_cell KB.out]; rfl
              have z2 : w9.cell? ⟨sc9, 2, none⟩ = some (.int .i64 (e + 1)) := by rw [blk_cell KB.out]; rfl
              have z3 : w9.cell? ⟨sc9, 3, none⟩ = some (.slice d2 m2 f2) := by rw [blk_cell KB.out]; rfl
              go_wp2_with fail
              refine CSm.out.mono ?_
              rintro r w10 ⟨rfl, b10⟩
              have W10 := Lib.hid (bthen W9.out b10)
              clear b10
              go_wp2_with fail
              go_ret
              exact ⟨rfl, W10.out⟩
set_option maxRecDepth 100000 in
theorem lifted (os : Os) (started : os.Started) (H : Type) (enc : TypeId × Value → H) (F : Stop.Interp) :
    ReturnsInHanded {} Try.checked os 5 .any ((Rows.OpenSpec.upto Rows.votesAgreeSpec).pre6 enc Try.prog Try.f5 Rows.votesAgreeUptoRow.domain false) (((Rows.OpenSpec.upto Rows.votesAgreeSpec).at F).post enc Try.prog Try.f5 false true false false) := by
  refine returnsInHanded_of_cond (C := Try.checked) (s := Rows.OpenSpec.upto Rows.votesAgreeSpec) (k := Rows.uptoSmall) rfl own started (by kernel_rfl) Try.func5
    (OpenSpec.witness (enc := enc) (C := Try.checked) (s := Rows.OpenSpec.upto Rows.votesAgreeSpec) (k := Rows.uptoSmall) rfl false ⟨#[], #[.agg #[.int .i64 0, .slice none 0 0], .slice none 0 0, .agg #[.slice none 0 0, .slice none 0 0]], []⟩ 8 (by kernel_rfl) (by kernel_rfl) (by kernel_rfl)
      (x := ([.agg [.lit (.int .i64 0), .nil], .nil, .agg [.nil, .nil]], [], [])) (by kernel_rfl) rfl (by kernel_rfl)) ?_
  intro W base args ds gs before hval0 hW _ hk _
  have hval : ∀ (j : Nat) t v, Try.f5.params[j]? = some t → args[j]? = some v → Value.okWide Try.prog W .any base t v := hval0
  have hW' := hW
  obtain ⟨p, q, hA0, hV, rfl, hfz, hnd⟩ := hW
  have hA : DataW.TrodAll enc Try.prog W 0 (fun _ => true) true Try.f5.params.toList args.toList ds p := hA0
  rw [Try.params5] at hA hval
  have hA2 := hA
  obtain ⟨v0, vs0, d0, ds0, p0, q0, hargs, rfl, rfl, h0, r0⟩ := trodAll_cons hA
  obtain ⟨v1, vs1, d1, ds1, p1, q1, rfl, rfl, rfl, h1, r1⟩ := trodAll_cons r0
  obtain ⟨v2, vs2, d2, ds2, p2, q2, rfl, rfl, rfl, h2, r2⟩ := trodAll_cons r1
  obtain ⟨rfl, rfl, rfl⟩ := trodAll_nil r2
  obtain rfl : args = #[v0, v1, v2] := by cases args; simp_all
  obtain ⟨rfl, rfl⟩ := trodVars_none hV
  clear hargs
  have hk' : Rows.uptoSmall H [d0, d1, d2] = true := by simpa using hk
  have k0 := hval 0 24 v0 rfl rfl
  obtain ⟨fu0, m0⟩ := h0
  have F0 : Fit Try.prog 24 d0 := fit_upto hk' (by simp) _
  have s0 := cells_agg Try.underlying24 k0
  obtain ⟨y0, E0, g0⟩ := vwConf.2.2 m0 F0
  obtain ⟨p0, l0, a0, n0, c0, rfl, e0, f0, j0⟩ := conf_open E0
  obtain ⟨z0, s01, s02⟩ := s0
  have e0' := agg_of ⟨s01, s02⟩ e0
  subst e0'
  have k1 := hval 1 22 v1 rfl rfl
  obtain ⟨fu1, m1⟩ := h1
  have F1 : Fit Try.prog 22 d1 := fit_upto hk' (by simp) _
  obtain ⟨l1, ⟨a1, n1, c1, e1, f1⟩, g1⟩ := vwInts.2.2 m1 F1
  have e1' := slice_of Try.underlying22 k1 e1
  subst e1'
  have k2 := hval 2 59 v2 rfl rfl
  obtain ⟨fu2, m2⟩ := h2
  have F2 : Fit Try.prog 59 d2 := fit_upto hk' (by simp) _
  have s2 := cells_arr Try.underlying59 k2
  obtain ⟨y2, E2, g2⟩ := vwScripts.2.2 m2 F2
  obtain ⟨l2, t2, a2, n2, c2, b2, o2, q2d, rfl, e2, f2, j2⟩ := scripts_open E2
  obtain ⟨z2, s21, s22⟩ := s2
  have e2' := agg_of ⟨s21, s22⟩ e2
  subst e2'
  have G0 : shConf.sz (p0, l0) ≤ Rows.uptoBulk d0 := g0
  have G1 : Sh.int.slice.sz l1 ≤ Rows.uptoBulk d1 := g1
  have G2 : shVote.slice.two.sz (l2, t2) ≤ Rows.uptoBulk d2 := g2
  have HK : shConf.sz (p0, l0) + Sh.int.slice.sz l1 + shVote.slice.two.sz (l2, t2) ≤ 1048576 := by have h : Rows.uptoBulkAll [d0, d1, d2] ≤ 1048576 := (by simpa [Rows.uptoSmall] using hk'); simp only [Rows.uptoBulkAll] at h; omega
  refine (walk W p0 a0 n0 c0 l0 f0 j0 a1 n1 c1 l1 f1 a2 n2 c2 l2 f2 b2 o2 q2d t2 j2 HK).mono fun e W' ⟨he, bel⟩ => ?_
  subst he
  exact ⟨_, rfl, _, _, _, [], _, [], hW', trodAll_mk1 (shut_bool Try.underlying4 _), trodAll_again laidOut bel (by kernel_rfl) hA2, rfl, bel.frame _, fun h => by cases h⟩

theorem over : Rows.votesAgreeUptoRow.holds Try.pinned (Rows.OpenSpec.upto Rows.votesAgreeSpec) :=
  OpenClaim.holds_of_cond 5 Try.f5 rfl rfl rfl rfl rfl rfl rfl ⟨rfl, rfl, rfl, rfl, rfl⟩ rfl rfl rfl rfl rfl (by kernel_rfl) Try.func5 (by kernel_rfl)
    (of_decide_eq_true (by kernel_rfl)) (by unfold Func.isWrapper; first | (rw [if_pos (by decide +kernel)]; kernel_rfl) | (rw [if_neg (by decide +kernel)]; exact ⟨rfl, rfl⟩))
    (fun os started H enc _ F => lifted os started H enc F)

theorem proved : Rows.VotesAgreeUptoSaid := over
#print axioms proved
end Go.Proofs.Ytfhbjajhmegdmaa.votesAgree
