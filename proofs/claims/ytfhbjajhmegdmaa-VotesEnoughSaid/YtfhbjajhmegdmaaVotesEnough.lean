
/- VotesEnough: so many votes alike as a quorum settle, one fewer doesn't, whoever votes otherwise beside: for every input the law returns true, and its arguments read as before. No condition. -/
import Derived.Test.YtfhbjajhmegdmaaVtQ
import Derived.Test.YtfhbjajhmegdmaaLift
namespace Go.Proofs.Ytfhbjajhmegdmaa.votesEnough
set_option maxRecDepth 100000
open Go.ChangeShapes Go.WideShapes Go.ChangeAt Go.RowKit
set_option linter.unusedVariables false
set_option linter.unusedSimpArgs false

theorem info_int15 : (Try.prog.info? 3).map (fun i => (i.zero, i.size, i.bytes)) = some (some (.int .i64 0), 1, 8) := by kernel_rfl
theorem x_new (w : World) (x : Int) : ∀ j u, [Value.int .i64 x][j]? = some u → (w.alloc (.cells #[.int .i64 x] 3 (0, 0))).cell? ((⟨w.heap.size, 0, none⟩ : Addr).add j) = some u := by
  intro j u h
  rw [Addr.add_lit, blk_cell (blk_alloc w _), ← h]
  simp
def en14 (W bb o m d k : Nat) (x : Int) (t : ByteArray) (cb : Nat) (a : Option Addr) (n c : Nat) : Nat → World → Value → Prop
  | 0 => fun _ v => v = .slice (some ⟨bb, o, none⟩) m d
  | 1 => fun _ v => v = .int .i64 (k : Int)
  | 2 => fun _ v => v = .pointer (some ⟨bb, o + k, none⟩)
  | 3 => fun _ v => v = .int .i64 x
  | 4 => fun _ v => v = .string t
  | 5 => fun _ v => v = .pointer (some ⟨cb, 1, none⟩)
  | 6 => fun _ v => v = .slice a n c
  | 7 => fun _ v => v = .agg #[.int .i64 x, .string t, .slice a n c, .int .i64 0]
  | 8 => fun w v => ∃ g, v = .pointer (some ⟨g, 0, none⟩) ∧ W ≤ g ∧ w.heap[g]? = some (.cells #[.int .i64 0, .string ⟨#[]⟩, .slice none 0 0, .int .i64 0] 38 (0, 0))
  | _ => fun _ _ => False
theorem en14_stab {W bb o m d k : Nat} {x : Int} {t : ByteArray} {cb : Nat} {a : Option Addr} {n c : Nat} : ∀ i w w' v, en14 W bb o m d k x t cb a n c i w v → Below w.heap.size w w' → en14 W bb o m d k x t cb a n c i w' v
  | 0, w, w', v, h, hb => h
  | 1, w, w', v, h, hb => h
  | 2, w, w', v, h, hb => h
  | 3, w, w', v, h, hb => h
  | 4, w, w', v, h, hb => h
  | 5, w, w', v, h, hb => h
  | 6, w, w', v, h, hb => h
  | 7, w, w', v, h, hb => h
  | 8, w, w', v, ⟨g, h1, h2, h3⟩, hb => ⟨g, h1, h2, blk_below h3 hb⟩
  | _ + 9, w, w', v, h, hb => h
def en17 (p vb : Nat) (x : Int) (T : ByteArray) (a : Option Addr) (n c : Nat) (l : List Int) (e : Int) : Nat → World → Value → Prop
  | 0 => fun _ v => v = .pointer (some ⟨p, 0, none⟩)
  | 1 => fun _ v => v = .pointer (some ⟨vb, 0, none⟩)
  | 2 => fun _ v => v = .int .i64 x
  | 3 => fun _ v => v = .pointer (some ⟨vb, 1, none⟩)
  | 4 => fun _ v => v = .string T
  | 5 => fun _ v => v = .pointer (some ⟨vb, 2, none⟩)
  | 6 => fun _ v => v = .slice a n c
  | 7 => fun _ v => v = .agg #[.int .i64 x, .string T, .slice a n c, .int .i64 0]
  | 8 => fun _ v => v = .agg #[.int .i64 e, .slice a n c]
  | 9 => fun w v => ∃ a8 n8 c8, v = .slice a8 n8 c8 ∧ SlAt shSig w a8 n8 c8 (sgOf 0 x (vS e l T l) (vC e l T l))
  | _ => fun _ _ => False
theorem en17_stab {p vb : Nat} {x : Int} {T : ByteArray} {a : Option Addr} {n c : Nat} {l : List Int} {e : Int} : ∀ i w w' v, en17 p vb x T a n c l e i w v → Below w.heap.size w w' → en17 p vb x T a n c l e i w' v
  | 0, w, w', v, h, hb => h
  | 1, w, w', v, h, hb => h
  | 2, w, w', v, h, hb => h
  | 3, w, w', v, h, hb => h
  | 4, w, w', v, h, hb => h
  | 5, w, w', v, h, hb => h
  | 6, w, w', v, h, hb => h
  | 7, w, w', v, h, hb => h
  | 8, w, w', v, h, hb => h
  | 9, w, w', v, ⟨a8, n8, c8, h1, h2⟩, hb => ⟨a8, n8, c8, h1, h2.old hb⟩
  | _ + 10, w, w', v, h, hb => h

set_option maxHeartbeats 4000000 in
theorem walk (w : World) (e : Int) (a : Option Addr) (n c : Nat) (l : List Int) (he : i64 e) (hl : SlAt Sh.int w a n c l) (t : ByteArray) (ht : t.size ≤ 140737488351232) (b : Option Addr) (m d : Nat) (ord : List Int) (hx : SlAt Sh.int w b m d ord) :
    Calls Try.prog 6 #[.agg #[.int .i64 e, .slice a n c], .string t, .slice b m d] w fun e w' => e = .returned (.bool true) ∧ Below w.heap.size w w' := by
  obtain ⟨ii, hi, hz0, hz1, hz2⟩ := info_parts info_int15
  have BX := Lib.hid (below_alloc w (.cells #[.int .i64 e, .slice a n c] 24 (0, 0)))
  have KX := Lib.hid (blk_alloc w (.cells #[.int .i64 e, .slice a n c] 24 (0, 0)))
  have HL := Lib.hid (ints_of_sl hl); have HX := Lib.hid (ints_of_sl hx)
  have hlen := hl.len
  have hnm : n ≤ 9223372036854775807 := Nat.le_trans hl.cap hl.max
  have hmm : m ≤ 9223372036854775807 := Nat.le_trans hx.cap hx.max
  have hnb : n * 8 ≤ 140737488355328 := hl.bytes
  have hnil : a = none → c = 0 ∧ n = 0 := fun h => ⟨hl.nil h, by have := hl.nil h; have := hl.cap; omega⟩
  have CL := Lib.hid lives15_any
  have CR := Lib.hid (fun w' (hb : Below w.heap.size w w') => right_any e a n c l w' (HL.out.below hb))
  clear hl hx
  go_enter Try.func6, Try.ntmps6
  go_wp2_with fail
  refine (CL.out _).mono ?_
  rintro r w1 ⟨rfl, b1⟩
  have B1 := Lib.hid (bthen BX.out b1)
  have K1 := Lib.hid (blk_below KX.out b1)
  have k0 : w1.cell? ⟨w.heap.size, 0, none⟩ = some (.int .i64 e) := by rw [blk_cell K1.out]; rfl
  have k1 : w1.cell? ⟨w.heap.size, 1, none⟩ = some (.slice a n c) := by rw [blk_cell K1.out]; rfl
  clear b1
  go_wp2_with fail
  refine (CR.out _ B1.out).mono ?_
  rintro r w2 ⟨rfl, b2⟩
  have B2 := Lib.hid (bthen B1.out b2)
  have K2 := Lib.hid (blk_below K1.out b2)
  clear k0 k1 b2 BX KX B1 K1
  have k0 : w2.cell? ⟨w.heap.size, 0, none⟩ = some (.int .i64 e) := by rw [blk_cell K2.out]; rfl
  have k1 : w2.cell? ⟨w.heap.size, 1, none⟩ = some (.slice a n c) := by rw [blk_cell K2.out]; rfl
  cases hr : rightB e l with
  | false =>
    go_wp2_with fail
    go_ret
    exact ⟨rfl, B2.out⟩
  | true =>
    by_cases h60 : 60 ≤ e
    · have hd60 : decide ((60 : Int) ≤ e) = true := by simpa using h60
      go_wp2_with fail
      go_ret
      exact ⟨rfl, B2.out⟩
    have hd60 : decide ((60 : Int) ≤ e) = false := by simpa using h60
    by_cases ht0 : t.size = 0
    · obtain rfl : t = ⟨#[]⟩ := size_zero ht0
      have hte0 : (⟨#[]⟩ : ByteArray).toList.isEmpty = true := by rw [empty_toList]; rfl
      go_wp2_with fail
      go_ret
      exact ⟨rfl, B2.out⟩
    have htn : t.toList.isEmpty = false := toList_ne ht0
    have h10 := risingB_len (rightB_rising hr).2.2
    have HG := Lib.hid (fun k => good_next (t := t) hr (by omega) ht0 k)
    have hEz := fun k => enT_size t k
    have CN := Lib.hid (vnew_any e a n c l w2 (HL.out.below B2.out) hnil hnb he)
    go_wp2_with fail
    refine CN.out.mono ?_
    rintro r w3 ⟨b3, h3⟩
    obtain ⟨-, M, p, mv, mc, rfl, hM, hT⟩ := h3.resolve_right (fun h => by rw [hr] at h; cases h.1)
    have hsz2 := blk_lt K2.out
    have B3 := Lib.hid (bthen B2.out b3)
    have K3 := Lib.hid (blk_below K2.out b3)
    have HT3 := Lib.hid (show ∃ M : Nat → Prop, (∀ j, M j → w.heap.size + 1 ≤ j) ∧ (∀ j, (Value.slice none 0 0).ownBlock = some j → ¬ M j) ∧ TalAt M w3 p mv mc e l [] from ⟨M, fun j hj => Nat.le_trans hsz2 (hM j hj), fun j hj => (by cases hj), hT⟩)
    clear k0 k1 b3 h3 CN hT hM B2 K2
    have k0 : w3.cell? ⟨w.heap.size, 0, none⟩ = some (.int .i64 e) := by rw [blk_cell K3.out]; rfl
    have k1 : w3.cell? ⟨w.heap.size, 1, none⟩ = some (.slice a n c) := by rw [blk_cell K3.out]; rfl
    go_wp2_with fail
    refine (quorum_any (n : Int) w3 (by omega) (by omega)).mono ?_
    rintro r w4 ⟨rfl, rfl⟩
    go_wp2_with fail
    go_loopw [10, 11, 12] (fun al vt i wr => ∃ k : Nat, k ≤ m ∧ i = .int .i64 k ∧ ∃ V : List Vt, al = .int .i64 (cntC V (t, l) : Nat) ∧ Hid (EnOk e l t V) ∧ Hid (∃ M : Nat → Prop, (∀ j, M j → w.heap.size + 1 ≤ j) ∧ (∀ j, vt.ownBlock = some j → ¬ M j) ∧ TalAt M wr p mv mc e l V) ∧ Hid (wr.ownsRow (w.heap.size + 1) 3 1 vt V.length (intsV (V.map (·.1)))) ∧ Hid (wr.heap[w.heap.size]? = some (.cells #[.int .i64 e, .slice a n c] 24 (0, 0))) ∧ Hid (Below w.heap.size w wr)) (fun _ _ i _ => m - (intOf i).toNat)
    case atStart => exact ⟨0, by omega, rfl, [], rfl, Lib.hid ⟨VOk.nil hr, fun v hv => (by cases hv)⟩, HT3, Lib.hid (World.ownsRow_nil _ _ _ _), K3, B3⟩
    case round =>
      clear HT3 K3 B3 k0 k1 hsz2
      obtain ⟨k, hk, rfl, V, rfl, HE, HT, HO, KC, HW⟩ := hrel
      by_cases hlt : k < m
      · have hd : decide ((k : Int) < (m : Int)) = true := by simp; omega
        obtain ⟨bb, o, x, rfl, hc, hj0, hj1, hdr, hxk⟩ := (HX.out.below HW.out).elem k hlt
        obtain ⟨av, cv, rfl⟩ := owns_form HO.out
        have hxx : i64 x := HX.out.fit x (List.mem_of_getElem? hxk)
        clear hdr hxk
        have hzw := blk_lt KC.out
        go_upto_region 14 with (fail)
        refine wp_region_made 9 (en14 wr.heap.size bb o m d k x t (w.heap.size) a n c) (fun _ _ => none) rfl (by kernel_rfl) (by kernel_rfl) en14_stab (fun _ _ _ _ _ h => by cases h) (fun i oo hi ho => ?_) (fun vs w7 hb7 hs hne => ?_)
        · intro ac wa hba hE hF K hK
          have b7 := below_undrew hba
          have hno : ∀ k, (none : Option Nat) = some k → wa.heap.size ≤ k := fun _ h => by cases h
          have KCa := blk_below KC.out b7
          have z1 : wa.cell? ⟨w.heap.size, 1, none⟩ = some (.slice a n c) := by rw [blk_cell KCa]; rfl
          have z2 := below_cell b7 hc
          have hi' : i = 0 ∨ i = 1 ∨ i = 2 ∨ i = 3 ∨ i = 4 ∨ i = 5 ∨ i = 6 ∨ i = 7 ∨ i = 8 := by omega
          rcases hi' with rfl | rfl | rfl | rfl | rfl | rfl | rfl | rfl | rfl
          · obtain rfl := Option.some.inj ho
            have h1 : ac.eval (.tmp 2) = .slice (some ⟨bb, o, none⟩) m d := hE 2 (by decide)
            exact news_val rfl rfl (by generalize ac.eval = ρ at h1; simp only [execOp]; go_simp) (hK _ _ (Below.refl _ _) rfl hno)
          · obtain rfl := Option.some.inj ho
            have h1 : ac.eval (.tmp 12) = .int .i64 (k : Int) := hE 12 (by decide)
            exact news_val rfl rfl (by generalize ac.eval = ρ at h1; simp only [execOp]; go_simp) (hK _ _ (Below.refl _ _) rfl hno)
          · obtain rfl := Option.some.inj ho
            have h1 : ac.eval (.tmp 50) = .slice (some ⟨bb, o, none⟩) m d := hF ⟨0, .data⟩ (by simp) rfl 50 rfl
            have h2 : ac.eval (.tmp 51) = .int .i64 (k : Int) := hF ⟨1, .data⟩ (by simp) rfl 51 rfl
            exact news_val rfl rfl (by generalize ac.eval = ρ at h1 h2; simp only [execOp]; go_simp) (hK _ _ (Below.refl _ _) rfl hno)
          · obtain rfl := Option.some.inj ho
            have h1 : ac.eval (.tmp 52) = .pointer (some ⟨bb, o + k, none⟩) := hF ⟨2, .data⟩ (by simp) rfl 52 rfl
            exact news_val rfl rfl (by generalize ac.eval = ρ at h1; simp only [execOp]; go_simp) (hK _ _ (Below.refl _ _) rfl hno)
          · obtain rfl := Option.some.inj ho
            have h1 : ac.eval (.tmp 1) = .string t := hE 1 (by decide)
            exact news_val rfl rfl (by generalize ac.eval = ρ at h1; simp only [execOp]; go_simp) (hK _ _ (Below.refl _ _) rfl hno)
          · obtain rfl := Option.some.inj ho
            have h1 : ac.eval (.tmp 3) = .pointer (some ⟨w.heap.size, 0, none⟩) := hE 3 (by decide)
            exact news_val rfl rfl (by generalize ac.eval = ρ at h1; simp only [execOp]; go_simp) (hK _ _ (Below.refl _ _) rfl hno)
          · obtain rfl := Option.some.inj ho
            have h1 : ac.eval (.tmp 55) = .pointer (some ⟨w.heap.size, 1, none⟩) := hF ⟨5, .data⟩ (by simp) rfl 55 rfl
            exact news_val rfl rfl (by generalize ac.eval = ρ at h1; simp only [execOp]; go_simp) (hK _ _ (Below.refl _ _) rfl hno)
          · obtain rfl := Option.some.inj ho
            have h1 : ac.eval (.tmp 53) = .int .i64 x := hF ⟨3, .data⟩ (by simp) rfl 53 rfl
            have h2 : ac.eval (.tmp 54) = .string t := hF ⟨4, .data⟩ (by simp) rfl 54 rfl
            have h3 : ac.eval (.tmp 56) = .slice a n c := hF ⟨6, .data⟩ (by simp) rfl 56 rfl
            exact news_val rfl rfl (by generalize ac.eval = ρ at h1 h2 h3; simp only [execOp]; go_simp) (hK _ _ (Below.refl _ _) rfl hno)
          · obtain rfl := Option.some.inj ho
            exact news_val rfl rfl (by generalize ac.eval = ρ; simp only [execOp]; go_simp) (hK _ _ (below_alloc _ _) ⟨wa.heap.size, rfl, hba.size, blk_alloc _ _⟩ (fun _ h => by cases h))
        · have e0 : vs 0 = _ := hs 0 (by omega)
          have e1 : vs 1 = _ := hs 1 (by omega)
          have e2 : vs 2 = _ := hs 2 (by omega)
          have e3 : vs 3 = _ := hs 3 (by omega)
          have e4 : vs 4 = _ := hs 4 (by omega)
          have e5 : vs 5 = _ := hs 5 (by omega)
          have e6 : vs 6 = _ := hs 6 (by omega)
          have e7 : vs 7 = _ := hs 7 (by omega)
          obtain ⟨vb, e8, hvb, kvb⟩ : ∃ g, (vs 8) = .pointer (some ⟨g, 0, none⟩) ∧ wr.heap.size ≤ g ∧ w7.heap[g]? = some (.cells #[.int .i64 0, .string ⟨#[]⟩, .slice none 0 0, .int .i64 0] 38 (0, 0)) := hs 8 (by omega)
          show wpList _ _ _ _ (((((((((Act.put _ (some 50) (vs 0)).put (some 51) (vs 1)).put (some 52) (vs 2)).put (some 53) (vs 3)).put (some 54) (vs 4)).put (some 55) (vs 5)).put (some 56) (vs 6)).put (some 57) (vs 7)).put (some 13) (vs 8)) _
          rw [e0, e1, e2, e3, e4, e5, e6, e7, e8]
          clear e0 e1 e2 e3 e4 e5 e6 e7 e8 hs hne vs
          have k8 := blk_set (blk_set (blk_set (blk_set kvb 0 (.int .i64 x)) 1 (.string t)) 2 (.slice a n c)) 3 (.int .i64 0)
          simp only [List.setIfInBounds_toArray, List.set_cons_zero, List.set_cons_succ] at k8
          have c0 := blk_cell kvb 0
          have c1 := blk_cell kvb 1
          have c2 := blk_cell kvb 2
          have c3 := blk_cell kvb 3
          simp only [List.getElem?_toArray, List.getElem?_cons_zero, List.getElem?_cons_succ] at c0 c1 c2 c3
          have f0 := blk_frozen kvb 0; have f1 := blk_frozen kvb 1; have f2 := blk_frozen kvb 2; have f3 := blk_frozen kvb 3
          have B8 := Lib.hid (bset (bset (bset (bset hb7 hvb 0 (.int .i64 x)) hvb 1 (.string t)) hvb 2 (.slice a n c)) hvb 3 (.int .i64 0))
          have KV8 := Lib.hid k8
          clear k8 hb7 kvb hc
          simp only [List.drop_succ_cons, List.drop_zero, Act.put, List.setIfInBounds_toArray, List.set_cons_succ, List.set_cons_zero]
          have hkm : (k : Int).tmod 4 = ((k % 4 : Nat) : Int) := by rw [Int.tmod_eq_emod_of_nonneg (by omega)]; omega
          have hkw : IntKind.i64.wrap (((k % 4 : Nat) : Int)) = ((k % 4 : Nat) : Int) := IntWalk.i64_in _ (by omega)
          go_upto_if 60 with (fail)
          generalize (((w7.setCell ⟨vb, 0, none⟩ (.int .i64 x)).setCell ⟨vb, 1, none⟩ (.string t)).setCell ⟨vb, 2, none⟩ (.slice a n c)).setCell ⟨vb, 3, none⟩ (.int .i64 0) = w8 at *
          clear c0 c1 c2 c3 f0 f1 f2 f3
          go_cut [13] (fun v13 wc => v13 = .pointer (some ⟨vb, 0, none⟩) ∧ Hid (wc.heap[vb]? = some (.cells #[.int .i64 x, .string (enT t k), .slice a n c, .int .i64 0] 38 (0, 0))) ∧ Hid (Below wr.heap.size wr wc))
          case first =>
            have v1 : w8.cell? ⟨vb, 1, none⟩ = some (.string t) := by rw [blk_cell KV8.out]; rfl
            have f1 := blk_frozen KV8.out 1
            by_cases h3 : k % 4 = 3
            · have hT3 : enT t k = t ++ ⟨#[63]⟩ := by rw [enT, if_pos h3]; rfl
              have hk3 : (((k % 4 : Nat) : Int) == 3) = true := by rw [h3]; rfl
              have hcat : ∀ w : World, (Op.stringOp .add t (⟨#[63]⟩ : ByteArray)).run Try.prog w = .ok (.string (t ++ ⟨#[63]⟩)) w := fun w => run_string_add_sum w _ _ (by rw [show (⟨#[63]⟩ : ByteArray).size = 1 from rfl]; omega)
              have k9 := blk_set KV8.out 1 (.string (t ++ ⟨#[63]⟩))
              simp only [List.setIfInBounds_toArray, List.set_cons_zero, List.set_cons_succ] at k9
              have K9 := Lib.hid k9
              have B9 := Lib.hid (bset B8.out hvb 1 (.string (t ++ ⟨#[63]⟩)))
              clear k9
              go_wp2_with fail
              go_meet
              case rel => exact ⟨rfl, by rw [hT3]; exact K9, B9⟩
            · have hT3 : enT t k = t := by rw [enT, if_neg h3]
              have hk3 : (((k % 4 : Nat) : Int) == 3) = false := by simp; omega
              go_wp2_with fail
              go_meet
              case rel => exact ⟨rfl, by rw [hT3]; exact KV8, B8⟩
          case rest =>
            obtain ⟨rfl, KV, B6⟩ := hcut
            clear KV8 B8
            have hTs : (enT t k).size ≤ 140737488355328 := by have := hEz k; omega
            have KC6 := Lib.hid (blk_below KC.out B6.out)
            have HL6 := Lib.hid (HL.out.below (bthen HW.out B6.out))
            have HES := Lib.hid (HE.out.step k x hTs (HG.out k))
            have HEC := Lib.hid (en_app (l := l) (t := t) (V := V) k x)
            have HSF := addE_fresh (V := V) (x := x) (HG.out k)
            have HAV := Lib.hid (addV_fresh (V := V) (x := x) (HG.out k))
            have hzv : vb < wc.heap.size := blk_lt KV.out
            generalize enT t k = T at *
            go_upto_region 17 with (fail)
            refine wp_region_made 10 (en17 p vb x T a n c l e) (fun _ _ => none) rfl (by kernel_rfl) (by kernel_rfl) en17_stab (fun _ _ _ _ _ h => by cases h) (fun i oo hi ho => ?_) (fun vs w7 hb7 hs hne => ?_)
            · intro ac wa hba hE hF K hK
              have b7 := below_undrew hba
              have hno : ∀ k, (none : Option Nat) = some k → wa.heap.size ≤ k := fun _ h => by cases h
              have KVa := blk_below KV.out b7
              have KCa := blk_below KC6.out b7
              have z0 : wa.cell? ⟨vb, 0, none⟩ = some (.int .i64 x) := by rw [blk_cell KVa]; rfl
              have z1 : wa.cell? ⟨vb, 1, none⟩ = some (.string T) := by rw [blk_cell KVa]; rfl
              have z2 : wa.cell? ⟨vb, 2, none⟩ = some (.slice a n c) := by rw [blk_cell KVa]; rfl
              have z3 : wa.cell? ⟨vb, 3, none⟩ = some (.int .i64 0) := by rw [blk_cell KVa]; rfl
              have y0 : wa.cell? ⟨w.heap.size, 0, none⟩ = some (.int .i64 e) := by rw [blk_cell KCa]; rfl
              have y1 : wa.cell? ⟨w.heap.size, 1, none⟩ = some (.slice a n c) := by rw [blk_cell KCa]; rfl
              have hi' : i = 0 ∨ i = 1 ∨ i = 2 ∨ i = 3 ∨ i = 4 ∨ i = 5 ∨ i = 6 ∨ i = 7 ∨ i = 8 ∨ i = 9 := by omega
              rcases hi' with rfl | rfl | rfl | rfl | rfl | rfl | rfl | rfl | rfl | rfl
              · obtain rfl := Option.some.inj ho
                have h1 : ac.eval (.tmp 7) = .pointer (some ⟨p, 0, none⟩) := hE 7 (by decide)
                exact news_val rfl rfl (by generalize ac.eval = ρ at h1; simp only [execOp]; go_simp) (hK _ _ (Below.refl _ _) rfl hno)
              · obtain rfl := Option.some.inj ho
                have h1 : ac.eval (.tmp 13) = .pointer (some ⟨vb, 0, none⟩) := hE 13 (by decide)
                exact news_val rfl rfl (by generalize ac.eval = ρ at h1; simp only [execOp]; go_simp) (hK _ _ (Below.refl _ _) rfl hno)
              · obtain rfl := Option.some.inj ho
                have h1 : ac.eval (.tmp 66) = .pointer (some ⟨vb, 0, none⟩) := hF ⟨1, .data⟩ (by simp) rfl 66 rfl
                exact news_val rfl rfl (by generalize ac.eval = ρ at h1; simp only [execOp]; go_simp) (hK _ _ (Below.refl _ _) rfl hno)
              · obtain rfl := Option.some.inj ho
                have h1 : ac.eval (.tmp 13) = .pointer (some ⟨vb, 0, none⟩) := hE 13 (by decide)
                exact news_val rfl rfl (by generalize ac.eval = ρ at h1; simp only [execOp]; go_simp) (hK _ _ (Below.refl _ _) rfl hno)
              · obtain rfl := Option.some.inj ho
                have h1 : ac.eval (.tmp 68) = .pointer (some ⟨vb, 1, none⟩) := hF ⟨3, .data⟩ (by simp) rfl 68 rfl
                exact news_val rfl rfl (by generalize ac.eval = ρ at h1; simp only [execOp]; go_simp) (hK _ _ (Below.refl _ _) rfl hno)
              · obtain rfl := Option.some.inj ho
                have h1 : ac.eval (.tmp 13) = .pointer (some ⟨vb, 0, none⟩) := hE 13 (by decide)
                exact news_val rfl rfl (by generalize ac.eval = ρ at h1; simp only [execOp]; go_simp) (hK _ _ (Below.refl _ _) rfl hno)
              · obtain rfl := Option.some.inj ho
                have h1 : ac.eval (.tmp 70) = .pointer (some ⟨vb, 2, none⟩) := hF ⟨5, .data⟩ (by simp) rfl 70 rfl
                exact news_val rfl rfl (by generalize ac.eval = ρ at h1; simp only [execOp]; go_simp) (hK _ _ (Below.refl _ _) rfl hno)
              · obtain rfl := Option.some.inj ho
                have h1 : ac.eval (.tmp 13) = .pointer (some ⟨vb, 0, none⟩) := hE 13 (by decide)
                exact news_val rfl rfl (by generalize ac.eval = ρ at h1; simp only [execOp]; go_simp) (hK _ _ (Below.refl _ _) rfl hno)
              · obtain rfl := Option.some.inj ho
                have h1 : ac.eval (.tmp 3) = .pointer (some ⟨w.heap.size, 0, none⟩) := hE 3 (by decide)
                exact news_val rfl rfl (by generalize ac.eval = ρ at h1; simp only [execOp]; go_simp) (hK _ _ (Below.refl _ _) rfl hno)
              · obtain rfl := Option.some.inj ho
                have h1 : ac.eval (.tmp 72) = .agg #[.int .i64 x, .string T, .slice a n c, .int .i64 0] := hF ⟨7, .data⟩ (by simp) rfl 72 rfl
                have h2 : ac.eval (.tmp 73) = .agg #[.int .i64 e, .slice a n c] := hF ⟨8, .data⟩ (by simp) rfl 73 rfl
                have hf : ac.eval (.func 14) = .func (.func 14) #[] #[] := rfl
                refine made_call rfl rfl 14 #[.agg #[.int .i64 x, .string T, .slice a n c, .int .i64 0], .agg #[.int .i64 e, .slice a n c]] (by generalize ac.eval = ρ at h1 h2 hf; simp only [execOp]; go_simp) (sigs15_any x T a n c l 0 e a n c l wa he (HL6.out.below b7) hTs (HL6.out.below b7) hxx) ?_
                rintro r w8 ⟨v8, rfl, ho8, b8⟩
                obtain ⟨a8, c8, rfl⟩ := owns_form ho8
                exact ⟨_, rfl, hK _ _ b8 ⟨a8, _, c8, rfl, sigs_row ho8 rfl (sgOf_ok hxx hTs) (by have := sgOf_len 0 x (vS e l T l) (vC e l T l); omega)⟩ (fun _ h => by cases h)⟩
            · have e0 : vs 0 = _ := hs 0 (by omega)
              have e1 : vs 1 = _ := hs 1 (by omega)
              have e2 : vs 2 = _ := hs 2 (by omega)
              have e3 : vs 3 = _ := hs 3 (by omega)
              have e4 : vs 4 = _ := hs 4 (by omega)
              have e5 : vs 5 = _ := hs 5 (by omega)
              have e6 : vs 6 = _ := hs 6 (by omega)
              have e7 : vs 7 = _ := hs 7 (by omega)
              have e8 : vs 8 = _ := hs 8 (by omega)
              obtain ⟨a8, n8, c8, e9, hs8⟩ : ∃ a8 n8 c8, (vs 9) = .slice a8 n8 c8 ∧ SlAt shSig w7 a8 n8 c8 (sgOf 0 x (vS e l T l) (vC e l T l)) := hs 9 (by omega)
              show wpList _ _ _ _ ((((((((((Act.put _ (some 65) (vs 0)).put (some 66) (vs 1)).put (some 67) (vs 2)).put (some 68) (vs 3)).put (some 69) (vs 4)).put (some 70) (vs 5)).put (some 71) (vs 6)).put (some 72) (vs 7)).put (some 73) (vs 8)).put (some 74) (vs 9)) _
              rw [e0, e1, e2, e3, e4, e5, e6, e7, e8, e9]
              clear e0 e1 e2 e3 e4 e5 e6 e7 e8 e9 hs hne vs
              obtain ⟨M, hM, hMv, hT⟩ := HT.out
              have B7 := Lib.hid (bthen B6.out hb7)
              have CA := Lib.hid (vadd_any M p mv mc e l V x T a n c l a8 n8 c8 _ w7 (hT.old B7.out) HE.out.ok hxx hTs (HL6.out.below hb7) hnil hnb hs8)
              have HMB := Lib.hid hM
              have HMV := Lib.hid hMv
              have HMin := Lib.hid hT.mine
              have HMlt := Lib.hid hT.lt
              have KV7 := Lib.hid (blk_below KV.out hb7)
              have KC7 := Lib.hid (blk_below KC6.out hb7)
              clear hb7 hs8 hT hM hMv HT B6 KV KC6
              simp only [List.drop_succ_cons, List.drop_zero, Act.put, List.setIfInBounds_toArray, List.set_cons_succ, List.set_cons_zero]
              go_wp2_with fail
              refine CA.out.mono ?_
              rintro r w8 ⟨rfl, k8, M8, hM8, hT8⟩
              rw [HAV.out] at hT8
              have hmvw := HMlt.out _ HMin.out.2.1
              have hmcw := HMlt.out _ HMin.out.2.2
              have hmvg := HMB.out _ HMin.out.2.1
              have hmcg := HMB.out _ HMin.out.2.2
              have KC8 := Lib.hid ((k8.block _ (blk_lt KC7.out) (fun h => by rcases h with h | h <;> omega)).trans KC7.out)
              have KV8 := Lib.hid ((k8.block _ (blk_lt KV7.out) (fun h => by rcases h with h | h <;> omega)).trans KV7.out)
              have W7 := Lib.hid (bthen HW.out B7.out)
              have W8 := Lib.hid (k8.below W7.out (fun j hj => by rcases hj with rfl | rfl <;> omega))
              have HO8 := owns_keep (owns_old HO.out B7.out) k8 (fun j hj hj' => by
                rcases hj' with rfl | rfl
                · exact HMV.out _ hj HMin.out.2.1
                · exact HMV.out _ hj HMin.out.2.2)
              have hten := HE.out.ok.ten
              have HIO := Lib.hid (ints_of_sl (ints_row HO8 (by simp) (fun y hy => by
                obtain ⟨v, hv, rfl⟩ := List.mem_map.1 hy
                have := risingB_range (rightB_rising hr).2.2 v.1 (HE.out.ok.good v hv).2.1
                unfold i64; omega) (by omega)))
              have HLt := HO.out.lt
              have HT8 := Lib.hid (show ∃ M : Nat → Prop, (∀ j, M j → w.heap.size + 1 ≤ j) ∧ (∀ j, (Value.slice av V.length cv).ownBlock = some j → ¬ M j) ∧ TalAt M w8 p mv mc e l (if freshB l V x = true then V ++ [(x, T, l)] else V) from ⟨M8, fun j hj => (hM8 j hj).elim (HMB.out j) (fun h => by have := B7.out.size; omega), fun j hj hm => (hM8 j hm).elim (HMV.out j hj) (fun h => by have := (HLt j hj).2; have := B7.out.size; omega), hT8⟩)
              replace HO8 := Lib.hid HO8
              clear hT8 hM8 k8 CA HW B7 HMB HMV HMin HMlt W7 KC7 KV7 HAV HO HLt hmvw hmcw hmvg hmcg
              generalize addE e l V x T l (sgOf 0 x (vS e l T l) (vC e l T l)) = z at *
              go_upto_region 18 with (fail)
              have k0 : w8.cell? ⟨w.heap.size, 1, none⟩ = some (.slice a n c) := by rw [blk_cell KC8.out]; rfl
              have v0 : w8.cell? ⟨vb, 0, none⟩ = some (.int .i64 x) := by rw [blk_cell KV8.out]; rfl
              go_cut [15] (fun fr wd => fr = .bool (freshB l V x) ∧ w8 = wd)
              case first =>
                have hidx := any_idx (V := V) (x := x)
                have CWh := Lib.hid (where15_any av V.length cv (V.map (·.1)) x w8 HIO.out)
                have CHs := Lib.hid (rhas_any a n c l x w8 (HL.out.below W8.out))
                have hfr : freshB l V x = (hasB l x && !(V.any fun v => v.1 == x)) := rfl
                generalize freshB l V x = fr at *
                generalize idxFrom 0 (V.map (·.1)) x = ix at *
                generalize hasB l x = hb at *
                cases hany : V.any (fun v => v.1 == x) with
                | true =>
                  rw [hany] at hidx hfr
                  have hidx' : decide (ix < (0 : Int)) = false := hidx
                  have hfr' : fr = false := by rw [hfr]; simp
                  subst hfr'
                  clear hfr hidx
                  go_wp2_with fail
                  refine CWh.out.mono ?_
                  rintro r w9 ⟨rfl, rfl⟩
                  go_wp2_with fail
                  go_meet
                  case rel => exact ⟨rfl, rfl⟩
                | false =>
                  rw [hany] at hidx hfr
                  have hidx' : decide (ix < (0 : Int)) = true := hidx
                  have hfr' : fr = hb := by rw [hfr]; simp
                  subst hfr'
                  clear hfr hidx
                  go_wp2_with fail
                  refine CWh.out.mono ?_
                  rintro r w9 ⟨rfl, rfl⟩
                  go_wp2_with fail
                  refine CHs.out.mono ?_
                  rintro r w9 ⟨rfl, rfl⟩
                  go_wp2_with fail
                  go_meet
                  case rel => exact ⟨rfl, rfl⟩
              case rest =>
                obtain ⟨rfl, rfl⟩ := hcut
                have hkm : (k : Int).tmod 4 = ((k % 4 : Nat) : Int) := by rw [Int.tmod_eq_emod_of_nonneg (by omega)]; omega
                have hkw : IntKind.i64.wrap (((k % 4 : Nat) : Int)) = ((k % 4 : Nat) : Int) := IntWalk.i64_in _ (by omega)
                have hcl : cntC V (t, l) ≤ 10 := Nat.le_trans (List.length_filter_le _ _) hten
                have hcw : IntKind.i64.wrap ((cntC V (t, l) : Int) + 1) = (cntC V (t, l) : Int) + 1 := IntWalk.i64_in _ (by omega)
                generalize freshB l V x = fr at *
                have hself : (fr != fr) = false := by cases fr <;> rfl
                go_upto_if 92 with (fail)
                go_cut [10, 11] (fun al vt wd => al = .int .i64 (cntC (if fr = true then V ++ [(x, T, l)] else V) (t, l) : Nat) ∧ Hid (wd.ownsRow (w.heap.size + 1) 3 1 vt (if fr = true then V ++ [(x, T, l)] else V).length (intsV ((if fr = true then V ++ [(x, T, l)] else V).map (·.1)))) ∧ Hid (∃ M : Nat → Prop, (∀ j, M j → w.heap.size + 1 ≤ j) ∧ (∀ j, vt.ownBlock = some j → ¬ M j) ∧ TalAt M wd p mv mc e l (if fr = true then V ++ [(x, T, l)] else V)) ∧ Hid (wd.heap[w.heap.size]? = some (.cells #[.int .i64 e, .slice a n c] 24 (0, 0))) ∧ Hid (Below w.heap.size w wd))
                case first =>
                  cases fr with
                  | false =>
                    go_wp2_with fail
                    go_meet
                    case rel => exact ⟨by simp, HO8, HT8, KC8, W8⟩
                  | true =>
                    have v0 : w8.cell? ⟨vb, 0, none⟩ = some (.int .i64 x) := by rw [blk_cell KV8.out]; rfl
                    have hHO := HO8.out
                    have hzz := W8.out.size
                    have ba := below_alloc w8 (.cells #[.int .i64 x] 3 (0, 0))
                    have hlt1 := hHO.lt
                    go_wp2_with (first | (at_builtin; refine wpList_append_lies _ rfl (.tmp 93) (.tmp 96) 22 rfl (w.heap.size + 1) 3 ii (.int .i64 0) 1 8 Try.underlying22 hi hz0 hz1 hz2 rfl (by decide) (.slice av V.length cv) V.length _ rfl (owns_old hHO ba) ⟨w8.heap.size, 0, none⟩ 1 1 [.int .i64 x] rfl rfl (x_new w8 x) (by simp [Value.oneCell']) (by decide) (by unfold maxLen; omega) (by omega) (by have := blk_lt KC8.out; simp; omega) _ rfl ?_) | fail)
                    intro g9 cap9 w9 hown9 hg9 hor9 hlt9
                    have K9 : Keep (fun j => (Value.slice av V.length cv).ownBlock = some j) w8 w9 := (Keep.of_below ba).grown hg9 (fun j hj => .inr hj)
                    obtain ⟨M, hM, hMv, hT⟩ := HT8.out
                    have HT9 := Lib.hid (show ∃ M : Nat → Prop, (∀ j, M j → w.heap.size + 1 ≤ j) ∧ (∀ j, (Value.slice (some ⟨g9, 0, none⟩) (V.length + 1) cap9).ownBlock = some j → ¬ M j) ∧ TalAt M w9 p mv mc e l (V ++ [(x, T, l)]) from ⟨M, hM, fun j hj hm => by
                      have hgj : g9 = j := by simpa [Value.ownBlock] using hj
                      rcases hor9 with h | h
                      · exact hMv g9 h (by rw [hgj]; exact hm)
                      · have := hT.lt j hm
                        have hh : g9 = w8.heap.size + 1 := by simpa using h
                        omega, hT.keep K9 (fun j hj => hMv j hj)⟩)
                    have KC9 := Lib.hid ((K9.block _ (blk_lt KC8.out) (fun h => by have := (hlt1 _ h).1; omega)).trans KC8.out)
                    have W9 := Lib.hid (K9.below W8.out (fun j hj => by have := (hlt1 j hj).1; omega))
                    have hvs : intsV (V.map (·.1)) ++ [.int .i64 x] = intsV ((V ++ [(x, T, l)]).map (·.1)) := by simp [intsV]
                    have hvl : V.length + 1 = (V ++ [(x, T, l)]).length := by simp
                    rw [hvs] at hown9
                    have HO9 := Lib.hid (show w9.ownsRow (w.heap.size + 1) 3 1 (.slice (some ⟨g9, 0, none⟩) (V.length + 1) cap9) (V ++ [(x, T, l)]).length (intsV ((V ++ [(x, T, l)]).map (·.1))) by rw [← hvl]; exact hown9)
                    clear hown9 hg9 hor9 hlt9 K9 hT hM hMv hvs hvl ba hlt1 hHO v0
                    by_cases h3 : k % 4 = 3
                    · have hk3 : (((k % 4 : Nat) : Int) != 3) = false := by rw [h3]; rfl
                      have hEC := HEC.out.1 h3
                      go_wp2_with fail
                      go_meet
                      case rel => exact ⟨by show _ = Value.int .i64 ((cntC (V ++ [(x, T, l)]) (t, l) : Nat) : Int); rw [hEC], HO9, HT9, KC9, W9⟩
                    · have hk3 : (((k % 4 : Nat) : Int) != 3) = true := by simp; omega
                      have hEC := HEC.out.2 h3
                      go_wp2_with fail
                      go_meet
                      case rel => exact ⟨by show _ = Value.int .i64 ((cntC (V ++ [(x, T, l)]) (t, l) : Nat) : Int); rw [hEC]; simp, HO9, HT9, KC9, W9⟩
                case rest =>
                  obtain ⟨rfl, HO9, HT9, KC9, W9⟩ := hcut
                  clear HO8 HT8 KC8 KV8 W8 HIO HEC hkm hkw hcw hself HE hcl
                  generalize (if fr = true then V ++ [(x, T, l)] else V) = V9 at *
                  obtain ⟨a9, c9, rfl⟩ := owns_form HO9.out
                  obtain ⟨M, hM, hMv, hT⟩ := HT9.out
                  have hten9 := HES.out.ok.ten
                  have htwo := two_cnt HES.out.two
                  have hsub : IntKind.i64.wrap ((V9.length : Int) - (cntC V9 (t, l) : Int)) = (cntC V9 (askT t, l) : Int) := by rw [IntWalk.i64_in _ (by omega)]; omega
                  have CS := vsettled_any M p mv mc e l V9 wc hT HES.out.ok
                  have hnx : IntKind.i64.wrap ((k : Int) + 1) = (k : Int) + 1 := IntWalk.i64_in _ (by omega)
                  unfold SetPost at CS
                  have HFin := Lib.hid (show ∀ w', Below wc.heap.size wc w' → Hid (∃ M : Nat → Prop, (∀ j, M j → w.heap.size + 1 ≤ j) ∧ (∀ j, (Value.slice a9 V9.length c9).ownBlock = some j → ¬ M j) ∧ TalAt M w' p mv mc e l V9) ∧ Hid (w'.ownsRow (w.heap.size + 1) 3 1 (.slice a9 V9.length c9) V9.length (intsV (V9.map (·.1)))) ∧ Hid (w'.heap[w.heap.size]? = some (.cells #[.int .i64 e, .slice a n c] 24 (0, 0))) ∧ Hid (Below w.heap.size w w') from fun w' hb => ⟨Lib.hid ⟨M, hM, hMv, hT.old hb⟩, Lib.hid (owns_old HO9.out hb), Lib.hid (blk_below KC9.out hb), Lib.hid (bthen W9.out hb)⟩)
                  have hWI := Lib.hid (fun y => win_iff HES.out.ok y)
                  have hlq : quorumP (n : Int) = quorumP (l.length : Int) := by rw [hlen]
                  clear hT hM hMv HT9 HO9 KC9 W9
                  cases hw : winner l V9 with
                  | none =>
                    rw [hw] at CS
                    dsimp only at CS
                    replace CS := Lib.hid CS
                    have hA : decide (quorumP (n : Int) ≤ (cntC V9 (t, l) : Int)) = false := by
                      rw [decide_eq_false_iff_not, hlq]; intro hc; have := (hWI.out (t, l)).2 hc; rw [hw] at this; cases this
                    have hOq : decide (quorumP (n : Int) ≤ (cntC V9 (askT t, l) : Int)) = false := by
                      rw [decide_eq_false_iff_not, hlq]; intro hc; have := (hWI.out (askT t, l)).2 hc; rw [hw] at this; cases this
                    clear hw hWI hlq htwo
                    go_wp2_with fail
                    refine CS.out.mono ?_
                    rintro r w10 ⟨b10, rfl⟩
                    obtain ⟨F1, F2, F3, F4⟩ := HFin.out _ (bthen b10 (below_alloc w10 (.cells #[.string ⟨#[]⟩, .slice none 0 0, .int .i64 0, .slice none 0 0, .slice none 0 0] 51 (0, 0))))
                    clear b10 CS HFin
                    go_wp2_with fail
                    go_roundw
                    case rel => exact ⟨k + 1, by omega, by go_num, V9, rfl, HES, F1, F2, F3, F4⟩
                    case measure => simp [intOf]; omega
                  | some y =>
                    rw [hw] at CS
                    dsimp only at CS
                    obtain ⟨xv, hxv⟩ := (winner_some hw).2
                    have hwl := who_len HES.out.ok (right_nodup hr) y
                    rw [hwl] at CS
                    replace CS := Lib.hid CS
                    rcases HES.out.two _ hxv with hy | hy
                    · obtain rfl : y = (t, l) := hy
                      have hA : decide (quorumP (n : Int) ≤ (cntC V9 (t, l) : Int)) = true := by
                        rw [decide_eq_true_eq, hlq]; exact (hWI.out (t, l)).1 hw
                      clear hw hWI hlq htwo hxv hwl
                      dsimp only at CS
                      go_wp2_with fail
                      refine CS.out.mono ?_
                      rintro r w10 ⟨b10, a1, c1, a2, n2, c2, a3, c3, rfl, -⟩
                      obtain ⟨F1, F2, F3, F4⟩ := HFin.out _ (bthen b10 (below_alloc w10 (.cells #[.string t, .slice a1 (cntC V9 (t, l)) c1, .int .i64 (e + 1), .slice a2 n2 c2, .slice a3 (cntC V9 (t, l)) c3] 51 (0, 0))))
                      clear b10 CS HFin
                      go_wp2_with fail
                      go_roundw
                      case rel => exact ⟨k + 1, by omega, by go_num, V9, rfl, HES, F1, F2, F3, F4⟩
                      case measure => simp [intOf]; omega
                    · obtain rfl : y = (askT t, l) := hy
                      have hA : decide (quorumP (n : Int) ≤ (cntC V9 (t, l) : Int)) = false := by
                        rw [decide_eq_false_iff_not, hlq]; intro hc; have := (hWI.out (t, l)).2 hc; rw [hw] at this; injection this with this; injection this with this; exact askT_ne t this
                      have hOq : decide (quorumP (n : Int) ≤ (cntC V9 (askT t, l) : Int)) = true := by
                        rw [decide_eq_true_eq, hlq]; exact (hWI.out (askT t, l)).1 hw
                      clear hw hWI hlq htwo hxv hwl
                      dsimp only at CS
                      generalize hNA : cntC V9 (askT t, l) = NA at *
                      go_wp2_with fail
                      refine CS.out.mono ?_
                      rintro r w10 ⟨b10, a1, c1, a2, n2, c2, a3, c3, rfl, -⟩
                      obtain ⟨F1, F2, F3, F4⟩ := HFin.out _ (bthen b10 (below_alloc w10 (.cells #[.string (askT t), .slice a1 NA c1, .int .i64 (e + 1), .slice a2 n2 c2, .slice a3 NA c3] 51 (0, 0))))
                      clear b10 CS HFin
                      go_wp2_with fail
                      go_roundw
                      case rel => exact ⟨k + 1, by omega, by go_num, V9, rfl, HES, F1, F2, F3, F4⟩
                      case measure => simp [intOf]; omega
      · obtain rfl : k = m := by omega
        have hd : decide ((k : Int) < (k : Int)) = false := by simp
        go_wp2_with fail
        go_ret
        exact ⟨rfl, HW.out⟩
set_option maxRecDepth 100000 in
theorem lifted (os : Os) (started : os.Started) (H : Type) (enc : TypeId × Value → H) :
    ReturnsInHanded {} Try.checked os 6 .any (Rows.votesEnoughSpec.pre6 enc Try.prog Try.f6 Rows.votesEnoughRow.domain false) (Rows.votesEnoughSpec.post enc Try.prog Try.f6 false true false false) := by
  refine returnsInHanded_of_change_sized (C := Try.checked) own started (by kernel_rfl) Try.func6
    (ChangeSpec.witness6 (enc := enc) (C := Try.checked) false ⟨#[], #[.agg #[.int .i64 0, .slice none 0 0], .string ⟨#[]⟩, .slice none 0 0], []⟩ 8 (by kernel_rfl) (by kernel_rfl) (by kernel_rfl) (by kernel_rfl)) ?_
  intro W base args ds gs before hval0 hW hcnd hsz _
  have hval : ∀ (j : Nat) t v, Try.f6.params[j]? = some t → args[j]? = some v → Value.okWide Try.prog W .any base t v := hval0
  have hW' := hW
  obtain ⟨p, q, hA0, hV, rfl, hfz, hnd⟩ := hW
  have hA : DataW.TrodAll enc Try.prog W 0 (fun _ => true) true Try.f6.params.toList args.toList ds p := hA0
  rw [Try.params6] at hA hval hsz
  have hA2 := hA
  obtain ⟨v0, vs0, d0, ds0, p0, q0, hargs, rfl, rfl, h0, r0⟩ := trodAll_cons hA
  obtain ⟨v1, vs1, d1, ds1, p1, q1, rfl, rfl, rfl, h1, r1⟩ := trodAll_cons r0
  obtain ⟨v2, vs2, d2, ds2, p2, q2, rfl, rfl, rfl, h2, r2⟩ := trodAll_cons r1
  obtain ⟨rfl, rfl, rfl⟩ := trodAll_nil r2
  obtain rfl : args = #[v0, v1, v2] := by cases args; simp_all
  obtain ⟨rfl, rfl⟩ := trodVars_none hV
  clear hargs
  have k0 := hval 0 24 v0 rfl rfl
  obtain ⟨fu0, m0⟩ := h0
  have w0 := weights_of hsz (j := 0) (t := 24) rfl rfl
  have F0 : Fit Try.prog 24 d0 := .inl w0
  have s0 := cells_agg Try.underlying24 k0
  obtain ⟨y0, E0, g0⟩ := vwConf.2.2 m0 F0
  obtain ⟨p0, l0, a0, n0, c0, rfl, e0, f0, j0⟩ := conf_open E0
  obtain ⟨z0, s01, s02⟩ := s0
  have e0' := agg_of ⟨s01, s02⟩ e0
  subst e0'
  have k1 := hval 1 9 v1 rfl rfl
  obtain ⟨fu1, m1⟩ := h1
  have w1 := weights_of hsz (j := 1) (t := 9) rfl rfl
  have F1 : Fit Try.prog 9 d1 := .inl w1
  obtain ⟨a1, ⟨e1, f1⟩, g1⟩ := vwStr.2.2 m1 F1
  have e1' := string_of Try.underlying9 k1 e1
  subst e1'
  have k2 := hval 2 22 v2 rfl rfl
  obtain ⟨fu2, m2⟩ := h2
  have w2 := weights_of hsz (j := 2) (t := 22) rfl rfl
  have F2 : Fit Try.prog 22 d2 := .inl w2
  obtain ⟨l2, ⟨a2, n2, c2, e2, f2⟩, g2⟩ := vwInts.2.2 m2 F2
  have e2' := slice_of Try.underlying22 k2 e2
  subst e2'
  refine (walk W p0 a0 n0 c0 l0 f0 j0 a1 f1 a2 n2 c2 l2 f2).mono fun e W' ⟨he, bel⟩ => ?_
  subst he
  exact ⟨_, rfl, _, _, _, [], _, [], hW', trodAll_mk1 (shut_bool Try.underlying4 _), trodAll_again laidOut bel (by kernel_rfl) hA2, rfl, bel.frame _, fun h => by cases h⟩

theorem over : Rows.votesEnoughRow.holds Try.pinned (OpenSpec.ofChange Rows.votesEnoughSpec) :=
  OpenClaim.holds_of_wide 6 Try.f6 rfl rfl rfl rfl rfl rfl rfl ⟨rfl, rfl, rfl, rfl, rfl⟩ rfl rfl rfl rfl rfl (by kernel_rfl) Try.func6 (by kernel_rfl)
    (of_decide_eq_true (by kernel_rfl)) (by unfold Func.isWrapper; first | (rw [if_pos (by decide +kernel)]; kernel_rfl) | (rw [if_neg (by decide +kernel)]; exact ⟨rfl, rfl⟩))
    (fun os started H enc _ => lifted os started H enc)

theorem proved : Rows.VotesEnoughSaid := over
#print axioms proved
end Go.Proofs.Ytfhbjajhmegdmaa.votesEnough
