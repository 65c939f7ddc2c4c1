
/- What the reference's like makes, step by step; parts of votes in old memory. No walk yet. -/
import Derived.Test.YtfhbjajhmegdmaaRv1
import Derived.Test.YtfhbjajhmegdmaaVt4
namespace Go.Proofs.Ytfhbjajhmegdmaa
set_option maxRecDepth 100000
open Go.RowKit
set_option linter.unusedVariables false
set_option linter.unusedSimpArgs false

/-- A vote of the tally, copied elsewhere: its parts lie in old memory. -/
theorem rv_part {w wr : World} {al : Option Addr} {n cl : Nat} {L : List Rv} (h : SlAt shRv w al n cl L) (hb : Below w.heap.size w wr) {i : Nat} {y : Rv} (hy : L[i]? = some y) :
    ∃ b o cs, al = some ⟨b, o, none⟩ ∧ Rob (fun k => w.heap.size ≤ k) (fun w' => shRv.E w' y cs) wr ∧ ∀ j v, cs[j]? = some v → w.cell? ⟨b, o + i * 4 + j, none⟩ = some v := by
  obtain ⟨b, o, cs, ha, hE, hc⟩ := h.cell i y hy
  exact ⟨b, o, cs, ha, fun w' hk => shRv.old hE (Keep.below hb hk (fun k h => h)), hc⟩
theorem like_out {V : List Vt} {y : ByteArray × List Int} {l : List Int} {k : Nat} {x : Int} (hx : l[k]? = some x) :
    likeP V y (l.take (k + 1)) = likeP V y (l.take k) ++ V.filter fun v => decide (v.1 = x ∧ v.2 = y) := by
  unfold likeP
  rw [List.take_add_one, hx]
  simp
theorem like_in {V : List Vt} {p : Vt → Bool} {i : Nat} {v : Vt} (hv : V[i]? = some v) : (V.take (i + 1)).filter p = (V.take i).filter p ++ if p v = true then [v] else [] := by
  rw [List.take_add_one, hv, List.filter_append]
  by_cases h : p v = true
  · simp [h]
  · simp [h]
end Go.Proofs.Ytfhbjajhmegdmaa

/- The walk of the reference's like. -/
namespace Go.Proofs.Ytfhbjajhmegdmaa
set_option maxRecDepth 100000
open Go.RowKit
attribute [local irreducible] wpQuiet
set_option linter.unusedVariables false
set_option linter.unusedSimpArgs false

def LikeAt (B W : Nat) (w : World) (e : Int) (o : Value) (L : List Vt) : Prop := ∃ xl, w.ownsRow B 86 4 o L.length xl ∧ rowOf shRv (fun k => W ≤ k) w (L.map (rvOf e)) xl
theorem LikeAt.old {B W : Nat} {w w' : World} {e : Int} {o : Value} {L : List Vt} (h : LikeAt B W w e o L) (hb : Below w.heap.size w w') : LikeAt B W w' e o L := by
  obtain ⟨xl, h1, h2⟩ := h
  exact ⟨xl, owns_old h1 hb, h2.step (Y := fun _ => False) (Keep.of_below hb) (fun _ _ hf => hf.elim) (fun _ _ hx => hx)⟩
def LikePost (e : Int) (V : List Vt) (y : ByteArray × List Int) (l : List Int) (w : World) (r : Ending) (w' : World) : Prop :=
  Below w.heap.size w w' ∧ ∃ o, r = .returned o ∧ LikeAt w.heap.size w.heap.size w' e o (likeP V y l)

set_option maxHeartbeats 2000000 in
theorem like_any (M : Nat → Prop) (q : Nat) (ol : Option Nat) (e : Int) (l : List Int) (V : List Vt) (x : Int) (t : ByteArray) (b : Option Addr) (m d : Nat) (nx : List Int) (sa : Option Addr) (sn sc : Nat) (w : World)
    (h : RTal M w q ol e l V) (hV : VOk e l V) (hx : IntsAt w b m nx) :
    Calls Try.prog 39 #[.pointer (some ⟨q, 0, none⟩), .agg #[.int .i64 x, .string t, .slice b m d, .slice sa sn sc]] w (LikePost e V (t, nx) l w) := by
  have hten := hV.ten
  obtain ⟨a, n, c, al, cl, hp, hI, hS⟩ := h.view hten
  obtain ⟨w1, hw1⟩ : ∃ w1, w1 = w.alloc (.cells #[.int .i64 x, .string t, .slice b m d, .slice sa sn sc] 86) := ⟨_, rfl⟩
  have b1 : Below w.heap.size w w1 := by rw [hw1]; exact below_alloc _ _
  have KB := Lib.hid (show w1.heap[w.heap.size]? = some (.cells #[.int .i64 x, .string t, .slice b m d, .slice sa sn sc] 86 (0, 0)) by rw [hw1]; exact blk_alloc _ _)
  have KP := Lib.hid (blk_below hp b1)
  have B1 := Lib.hid b1; have HI := Lib.hid (hI.old b1); have HS := Lib.hid hS; have HX := Lib.hid (hx.below b1)
  have HL := Lib.hid hI.len
  have hmax := hI.max
  have hcap := hI.cap
  have hn10 := Lib.hid (show n ≤ 10 by rw [← HL.out]; exact (risingB_len (rightB_rising hV.right).2.2).2)
  clear h hp hI hS hx b1
  go_enter Try.func39, Try.ntmps39
  go_wp2_with fail
  rw [← hw1]
  clear hw1
  go_loopw [5, 6] (fun o i wr => ∃ k : Nat, k ≤ n ∧ i = .int .i64 k ∧ Hid (LikeAt w1.heap.size w.heap.size wr e o (likeP V (t, nx) (l.take k))) ∧ Hid (Below w1.heap.size w1 wr)) (fun _ i _ => n - (intOf i).toNat)
  case atStart => exact ⟨0, by omega, rfl, Lib.hid ⟨[], World.ownsRow_nil _ _ _ _, rfl⟩, Lib.hid (Below.refl _ _)⟩
  case round =>
    obtain ⟨k, hk, rfl, HA, Hb⟩ := hrel
    have kp := blk_below KP.out Hb.out
    have p1 : wr.cell? ⟨q, 1, none⟩ = some (.slice a n c) := by rw [blk_cell kp]; rfl
    by_cases hin : k < n
    · obtain ⟨z, hz⟩ : ∃ z, l[k]? = some z := ⟨_, List.getElem?_eq_getElem (by rw [HL.out]; exact hin)⟩
      have HLO := Lib.hid (like_out (V := V) (y := (t, nx)) hz)
      obtain ⟨b0, o0, cs, rfl, ⟨rfl, _⟩, hc⟩ := HI.out.cell k z hz
      have m0 : w1.cell? ⟨b0, o0 + k, none⟩ = some (.int .i64 z) := by
        have := hc 0 _ rfl
        rwa [show Sh.int.k = 1 from rfl, Nat.mul_one, Nat.add_zero] at this
      have HM := Lib.hid m0
      have hk0 : (0 : Int) ≤ (k : Int) := by omega
      have hk1 : (k : Int) < (n : Int) := by omega
      clear hc m0 hz kp
      go_wp2_with fail
      obtain ⟨wo, hwo⟩ : ∃ wo : World, wo = wr := ⟨_, rfl⟩
      subst hwo
      go_loopw [5, 7, 8] (fun o i p wr => ∃ k' : Nat, k' ≤ V.length ∧ i = .int .i64 k' ∧ Hid (LikeAt w1.heap.size w.heap.size wr e o (likeP V (t, nx) (l.take k) ++ (V.take k').filter fun v => decide (v.1 = z ∧ v.2 = (t, nx)))) ∧ Hid (Below w1.heap.size w1 wr)) (fun _ i _ _ => V.length - (intOf i).toNat)
      case atStart => exact ⟨0, by omega, rfl, by simpa using HA, Hb⟩
      case round =>
        clear HA Hb p1
        obtain ⟨j, hj, rfl, HA, Hb⟩ := hrel
        have kp := blk_below KP.out Hb.out
        have kb := blk_below KB.out Hb.out
        have p1 : wr.cell? ⟨q, 1, none⟩ = some (.slice (some ⟨b0, o0, none⟩) n c) := by rw [blk_cell kp]; rfl
        have p2 : wr.cell? ⟨q, 2, none⟩ = some (.slice al V.length cl) := by rw [blk_cell kp]; rfl
        have y1 : wr.cell? ⟨w.heap.size, 1, none⟩ = some (.string t) := by rw [blk_cell kb]; rfl
        have y2 : wr.cell? ⟨w.heap.size, 2, none⟩ = some (.slice b m d) := by rw [blk_cell kb]; rfl
        have lq := blk_lt kp
        have lb := blk_lt kb
        have m0 := below_cell Hb.out HM.out
        have lm := World.block_lt m0
        by_cases hjn : j < V.length
        · obtain ⟨⟨v1, v2, v3⟩, hv⟩ : ∃ v, V[j]? = some v := ⟨_, List.getElem?_eq_getElem hjn⟩
          obtain ⟨b2, o2, cs, rfl, hR, hc⟩ := rv_part HS.out (bthen B1.out Hb.out) (i := j) (y := rvOf e (v1, v2, v3)) (by rw [List.getElem?_map, hv]; rfl)
          obtain ⟨x', t', nx', sg', a', n', c', sa', sn', sc', he, rfl, g1, g2, g3, g4⟩ := rv_open hR.self
          have he' : v1 = x' ∧ v2 = t' ∧ v3 = nx' := by
            simp only [rvOf, Prod.mk.injEq] at he
            exact ⟨he.1, he.2.1, he.2.2.1⟩
          obtain ⟨rfl, rfl, rfl⟩ := he'
          have BW := bthen B1.out Hb.out
          have c0 := below_cell BW (hc 0 _ rfl)
          have c1 := below_cell BW (hc 1 _ rfl)
          have c2 := below_cell BW (hc 2 _ rfl)
          have c3 := below_cell BW (hc 3 _ rfl)
          simp only [Nat.add_zero] at c0
          have l2 := World.block_lt c0
          have hj0 : (0 : Int) ≤ (j : Int) := by omega
          have hj1 : (j : Int) < (V.length : Int) := by omega
          have HR := Lib.hid hR
          have hR2 := Lib.hid (show ∀ w', Below wr.heap.size wr w' → Rob (fun k => w.heap.size ≤ k) (fun w' => shRv.E w' (rvOf e (v1, v2, v3)) [.int .i64 v1, .string v2, .slice a' n' c', .slice sa' sn' sc']) w' from fun w' hb => hR.step (Y := fun _ => False) (Keep.of_below hb) (fun _ _ hf => hf.elim) (fun _ _ hx => hx))
          have HN3 := Lib.hid g3
          have HLI := Lib.hid (like_in (p := fun v => decide (v.1 = z ∧ v.2 = (t, nx))) hv)
          have hno := Lib.hid (show ¬ (v1 = z ∧ v2 = t ∧ v3 = nx) → (V.take (j + 1)).filter (fun v => decide (v.1 = z ∧ v.2 = (t, nx))) = (V.take j).filter (fun v => decide (v.1 = z ∧ v.2 = (t, nx))) from fun h => by
            rw [HLI.out, if_neg (by simpa using h), List.append_nil])
          clear hc hv g3 g4 hR he BW
          have BA := below_alloc wr (.cells #[.int .i64 v1, .string v2, .slice a' n' c', .slice sa' sn' sc'] 86 (0, 0))
          have KV := Lib.hid (blk_alloc wr (.cells #[.int .i64 v1, .string v2, .slice a' n' c', .slice sa' sn' sc'] 86 (0, 0)))
          have HX2 := HX.out.below (bthen Hb.out BA)
          have CS := Lib.hid (fun (w' : World) (hb : Below (wr.alloc (.cells #[.int .i64 v1, .string v2, .slice a' n' c', .slice sa' sn' sc'] 86 (0, 0))).heap.size (wr.alloc (.cells #[.int .i64 v1, .string v2, .slice a' n' c', .slice sa' sn' sc'] 86 (0, 0))) w') => sameints_any a' n' c' v3 b m d nx w' ((ints_of_sl (HN3.out.old BA)).below hb) (HX2.below hb))
          replace HA := Lib.hid (HA.out.old BA)
          replace HR := Lib.hid (hR2.out _ BA)
          go_upto_region 9 with (fail)
          have q1 := below_cell BA p1
          have x1 := below_cell BA y1
          have x2 := below_cell BA y2
          have x0 := below_cell BA m0
          replace Hb := Lib.hid (bthen Hb.out BA)
          clear p1 p2 y1 y2 m0 c0 c1 c2 c3 BA kp kb HX2
          have hlv := blk_lt KV.out
          generalize wr.alloc (.cells #[.int .i64 v1, .string v2, .slice a' n' c', .slice sa' sn' sc'] 86 (0, 0)) = wv at *
          have z0 : wv.cell? ⟨wr.heap.size, 0, none⟩ = some (.int .i64 v1) := by rw [blk_cell KV.out]; rfl
          have z1 : wv.cell? ⟨wr.heap.size, 1, none⟩ = some (.string v2) := by rw [blk_cell KV.out]; rfl
          have z2 : wv.cell? ⟨wr.heap.size, 2, none⟩ = some (.slice a' n' c') := by rw [blk_cell KV.out]; rfl
          have z3 : wv.cell? ⟨wr.heap.size, 3, none⟩ = some (.slice sa' sn' sc') := by rw [blk_cell KV.out]; rfl
          have lq' := World.block_lt q1
          have lb' := World.block_lt x1
          have lm' := World.block_lt x0
          clear lq lb lm l2
          by_cases h1 : v1 = z
          · subst h1
            by_cases h2 : v2 = t
            · subst h2
              cases h3 : (v3 == nx) with
              | true =>
                rw [h3] at CS
                have hnx : v3 = nx := by simpa using h3
                have HN := Lib.hid (show (V.take (j + 1)).filter (fun v => decide (v.1 = v1 ∧ v.2 = (v2, nx))) = (V.take j).filter (fun v => decide (v.1 = v1 ∧ v.2 = (v2, nx))) ++ [(v1, v2, v3)] by rw [HLI.out, if_pos (by simpa using hnx)])
                have HNL := Lib.hid (show (likeP V (v2, nx) (l.take k) ++ (V.take j).filter fun v => decide (v.1 = v1 ∧ v.2 = (v2, nx))).length ≤ 20 by
                  rw [List.length_append, likeP_eq hV.nodup, List.length_map]
                  have e1 : (who (l.take k) V (v2, nx)).length ≤ (l.take k).length := List.length_filter_le _ _
                  have e2 : ((V.take j).filter fun v => decide (v.1 = v1 ∧ v.2 = (v2, nx))).length ≤ (V.take j).length := List.length_filter_le _ _
                  rw [List.length_take] at e1 e2
                  have e3 := hn10.out
                  rw [HL.out] at e1
                  omega)
                refine wp_region_below (by kernel_rfl) (by kernel_rfl) ?_
                repeat (refine wpQuiet_step (fun K hK => ?_); go_simp; first | (refine hK _ ?_; clear hK K) | (apply Exists.intro; refine ⟨fun w' hw' => ?_, hK _ ?_⟩; (first | (go_at_call 41; exact Calls.quiet_below_drawn hw' (CS.out _ hw')) | (with_reducible rfl) | (obtain ⟨cc, dd⟩ := bcell hw'; go_simp; rfl)); clear hK K))
                refine wpQuiet_nil ?_
                intro w9 h9
                have i0 := below_cell h9 z0
                have i1 := below_cell h9 z1
                have i2 := below_cell h9 z2
                have i3' := below_cell h9 z3
                have HR9 := Lib.hid (HR.out.step (Y := fun _ => False) (Keep.of_below h9) (fun _ _ hf => hf.elim) (fun _ _ hx => hx))
                obtain ⟨xl, o1, r1⟩ := HA.out.old h9
                obtain ⟨ao, co, hu5⟩ := owns_form o1
                subst hu5
                have HB9 := Lib.hid (bthen Hb.out h9)
                have O1 := Lib.hid o1; have R1 := Lib.hid r1
                have hHN := HN.out; have hNL := HNL.out
                clear HA Hb h9 z0 z1 z2 z3 q1 x0 x1 x2 o1 r1 CS
                generalize hL9 : (likeP V (v2, nx) (l.take k) ++ (V.take j).filter fun v => decide (v.1 = v1 ∧ v.2 = (v2, nx))) = L9 at *
                have HL9 := Lib.hid hL9
                clear hL9
                obtain ⟨ii, hii, hr0, hr1, hr2⟩ := info_parts info_rv'
                go_wp2_with (first | (at_builtin; refine wpList_append_one _ rfl (.tmp 60) (.tmp 62) 43 rfl w1.heap.size 86 ii (.agg #[.int .i64 0, .string ⟨#[]⟩, .slice none 0 0, .slice none 0 0]) 4 72 Try.underlying43 hii hr0 hr1 hr2 rfl (by decide) (.slice ao L9.length co) L9.length xl rfl (owns_old O1.out (below_alloc w9 _)) ⟨w9.heap.size, 0, none⟩ 1 [.int .i64 v1, .string v2, .slice a' n' c', .slice sa' sn' sc'] rfl rfl (rv_new w9 _ _ _ _ _ _ _ _ _) (by simp [Value.oneCell']) (by unfold maxLen; omega) (by decide) (by omega) (by have := HB9.out.size; simp; omega) ?_) | fail)
                intro v7 w7 ho7 hg7
                have K7 : Keep (fun k => w.heap.size ≤ k) w9 w7 := (Keep.of_below (below_alloc w9 (.cells #[.int .i64 v1, .string v2, .slice a' n' c', .slice sa' sn' sc'] 86 (0, 0)))).grown hg7 (fun k hk => .inr (by have := (O1.out.lt k hk).1; have := B1.out.size; omega))
                have HF := Lib.hid (show LikeAt w1.heap.size w.heap.size w7 e v7 (L9 ++ [(v1, v2, v3)]) from ⟨_, by rw [List.length_append]; exact ho7, by
                  rw [List.map_append]
                  exact (R1.out.step K7 (fun _ _ h => h) (fun _ _ h => h)).snoc rfl (HR9.out.step K7 (fun _ _ h => h) (fun _ _ h => h))⟩)
                have HB7 := Lib.hid (grown_below (bthen HB9.out (below_alloc w9 (.cells #[.int .i64 v1, .string v2, .slice a' n' c', .slice sa' sn' sc'] 86 (0, 0)))) hg7 (fun j hj => (O1.out.lt j hj).1))
                clear ho7 hg7 K7 i0 i1 i2 i3'
                go_wp2_with fail
                go_roundw
                case rel => exact ⟨j + 1, by omega, by go_num, by rw [hHN, ← List.append_assoc, HL9.out]; exact HF, HB7⟩
                case measure => simp [intOf]; omega
              | false =>
                rw [h3] at CS
                have HN := Lib.hid (hno.out (fun h => by rw [h.2.2] at h3; simp at h3))
                refine wp_region_below (by kernel_rfl) (by kernel_rfl) ?_
                repeat (refine wpQuiet_step (fun K hK => ?_); go_simp; first | (refine hK _ ?_; clear hK K) | (apply Exists.intro; refine ⟨fun w' hw' => ?_, hK _ ?_⟩; (first | (go_at_call 41; exact Calls.quiet_below_drawn hw' (CS.out _ hw')) | (with_reducible rfl) | (obtain ⟨cc, dd⟩ := bcell hw'; go_simp; rfl)); clear hK K))
                refine wpQuiet_nil ?_
                intro w9 h9
                have HA2 := Lib.hid (HA.out.old h9)
                have HB2 := Lib.hid (bthen Hb.out h9)
                clear HA Hb h9
                go_wp2_with fail
                go_roundw
                case rel => exact ⟨j + 1, by omega, by go_num, by rw [HN.out]; exact HA2, HB2⟩
                case measure => simp [intOf]; omega
            · have h2' := str_neq h2
              have HN := Lib.hid (hno.out (fun h => h2 h.2.1))
              refine wp_region_below (by kernel_rfl) (by kernel_rfl) ?_
              repeat (refine wpQuiet_step (fun K hK => ?_); go_simp; first | (refine hK _ ?_; clear hK K) | (apply Exists.intro; refine ⟨fun w' hw' => ?_, hK _ ?_⟩; (first | (go_at_call 41; exact Calls.quiet_below_drawn hw' (CS.out _ hw')) | (with_reducible rfl) | (obtain ⟨cc, dd⟩ := bcell hw'; go_simp; rfl)); clear hK K))
              refine wpQuiet_nil ?_
              intro w9 h9
              have HA2 := Lib.hid (HA.out.old h9)
              have HB2 := Lib.hid (bthen Hb.out h9)
              clear HA Hb h9
              go_wp2_with fail
              go_roundw
              case rel => exact ⟨j + 1, by omega, by go_num, by rw [HN.out]; exact HA2, HB2⟩
              case measure => simp [intOf]; omega
          · have h1' : (v1 == z) = false := by simpa using h1
            have HN := Lib.hid (hno.out (fun h => h1 h.1))
            refine wp_region_below (by kernel_rfl) (by kernel_rfl) ?_
            repeat (refine wpQuiet_step (fun K hK => ?_); go_simp; first | (refine hK _ ?_; clear hK K) | (apply Exists.intro; refine ⟨fun w' hw' => ?_, hK _ ?_⟩; (first | (go_at_call 41; exact Calls.quiet_below_drawn hw' (CS.out _ hw')) | (with_reducible rfl) | (obtain ⟨cc, dd⟩ := bcell hw'; go_simp; rfl)); clear hK K))
            refine wpQuiet_nil ?_
            intro w9 h9
            have HA2 := Lib.hid (HA.out.old h9)
            have HB2 := Lib.hid (bthen Hb.out h9)
            clear HA Hb h9
            go_wp2_with fail
            go_roundw
            case rel => exact ⟨j + 1, by omega, by go_num, by rw [HN.out]; exact HA2, HB2⟩
            case measure => simp [intOf]; omega
        · obtain rfl : j = V.length := by omega
          have HF := Lib.hid (show LikeAt w1.heap.size w.heap.size wr e u5 (likeP V (t, nx) (l.take (k + 1))) by
            rw [HLO.out]
            have := HA.out
            rwa [List.take_length] at this)
          clear HA kp kb y1 y2 m0
          go_wp2_with fail
          go_roundw
          case rel => exact ⟨k + 1, by omega, by go_num, HF, Hb⟩
          case measure => simp [intOf]; omega
    · obtain rfl : k = n := by omega
      have BR := Lib.hid (bthen B1.out Hb.out)
      have HF := Lib.hid (show LikeAt w.heap.size w.heap.size wr e u5 (likeP V (t, nx) l) from by
        obtain ⟨xl, h1, h2⟩ := HA.out
        rw [List.take_of_length_le (by rw [HL.out]; exact Nat.le_refl _)] at h1 h2
        exact ⟨xl, owns_lower h1 B1.out.size, h2⟩)
      clear kp HA Hb
      go_wp2_with fail
      go_ret
      exact ⟨BR.out, _, rfl, HF.out⟩
end Go.Proofs.Ytfhbjajhmegdmaa

/- The reference's Settled: what it makes, step by step. No walk yet. -/
namespace Go.Proofs.Ytfhbjajhmegdmaa
set_option maxRecDepth 100000
open Go.RowKit
set_option linter.unusedVariables false
set_option linter.unusedSimpArgs false

theorem own_ne {w : World} {B e s n g : Nat} {v : Value} {xs : List Value} {cs : Array Value} {t : TypeId} {fr : Nat × Nat} (h : w.ownsRow B e s v n xs) (hg : w.heap[g]? = some (.cells cs t fr)) (hne : e ≠ t) : v.ownBlock ≠ some g := fun hk => by
  rcases h.2 with ⟨h0, _⟩ | ⟨g', cap, cur, h0, _, hg', _⟩
  · rw [h0] at hk; cases hk
  · rw [h0] at hk
    have h1 : g' = g := by simpa [Value.ownBlock] using hk
    rw [h1, hg] at hg'
    injection hg' with hg'
    injection hg' with _ hg' _
    exact hne hg'.symm
/-- What is settled so far, as the reference builds it in block g: bytes, epoch, members, both lists of signatures. -/
structure RSt (W : Nat) (w : World) (g : Nat) (tx : ByteArray) (ep : Int) (nx : List Int) (A C : List Sg) : Prop where
  ge : W ≤ g
  ex : ∃ a1 c1 a2 c2 a3 c3, w.heap[g]? = some (.cells #[.string tx, .slice a1 A.length c1, .int .i64 ep, .slice a2 nx.length c2, .slice a3 C.length c3] 54 (0, 0)) ∧
    w.ownsRow W 47 2 (.slice a1 A.length c1) A.length (sigV A) ∧ w.ownsRow W 3 1 (.slice a2 nx.length c2) nx.length (intsV nx) ∧ w.ownsRow W 47 2 (.slice a3 C.length c3) C.length (sigV C) ∧
    (∀ k, (Value.slice a1 A.length c1).ownBlock = some k → (Value.slice a3 C.length c3).ownBlock ≠ some k)
theorem RSt.old {W : Nat} {w w' : World} {g : Nat} {tx : ByteArray} {ep : Int} {nx : List Int} {A C : List Sg} (h : RSt W w g tx ep nx A C) (hb : Below w.heap.size w w') : RSt W w' g tx ep nx A C := by
  obtain ⟨a1, c1, a2, c2, a3, c3, h1, h2, h3, h4, h5⟩ := h.ex
  exact ⟨h.ge, a1, c1, a2, c2, a3, c3, blk_below h1 hb, owns_old h2 hb, owns_old h3 hb, owns_old h4 hb, h5⟩
/-- A signature more in the first list. -/
theorem rst_one {W : Nat} {w w8 : World} {g : Nat} {tx : ByteArray} {ep : Int} {nx : List Int} {A C : List Sg} {s : Sg} {a1 a2 a3 : Option Addr} {c1 c2 c3 g8 c8 : Nat} (hge : W ≤ g)
    (h1 : w.heap[g]? = some (.cells #[.string tx, .slice a1 A.length c1, .int .i64 ep, .slice a2 nx.length c2, .slice a3 C.length c3] 54 (0, 0)))
    (h2 : w.ownsRow W 47 2 (.slice a1 A.length c1) A.length (sigV A)) (h3 : w.ownsRow W 3 1 (.slice a2 nx.length c2) nx.length (intsV nx)) (h4 : w.ownsRow W 47 2 (.slice a3 C.length c3) C.length (sigV C))
    (h5 : ∀ k, (Value.slice a1 A.length c1).ownBlock = some k → (Value.slice a3 C.length c3).ownBlock ≠ some k)
    (hk : Keep (fun k => (Value.slice a1 A.length c1).ownBlock = some k) w w8) (ho : w8.ownsRow W 47 2 (.slice (some ⟨g8, 0, none⟩) (A.length + 1) c8) (A.length + 1) (sigV (A ++ [s])))
    (hor : (Value.slice a1 A.length c1).ownBlock = some g8 ∨ w.heap.size ≤ g8) : RSt W (w8.setCell ⟨g, 1, none⟩ (.slice (some ⟨g8, 0, none⟩) (A.length + 1) c8)) g tx ep nx (A ++ [s]) C := by
  have k1 : w8.heap[g]? = _ := (hk.block g (blk_lt h1) (own_ne h2 h1 (by decide))).trans h1
  have r3 := owns_keep h3 hk (fun k hk' hx => rows_ne h3 h2 (by decide) k hk' hx)
  have r4 := owns_keep h4 hk (fun k hk' hx => h5 k hx hk')
  have k2 := blk_set k1 1 (.slice (some ⟨g8, 0, none⟩) (A.length + 1) c8)
  simp only [List.setIfInBounds_toArray, List.set_cons_zero, List.set_cons_succ] at k2
  refine ⟨hge, some ⟨g8, 0, none⟩, c8, a2, c2, a3, c3, by rw [List.length_append]; exact k2, ?_, owns_setother r3 (own_ne r3 k1 (by decide)) _ _, owns_setother r4 (own_ne r4 k1 (by decide)) _ _, fun k hk8 hk4 => ?_⟩
  · rw [List.length_append]
    exact owns_setother ho (own_ne ho k1 (by decide)) _ _
  · have hg8 : g8 = k := by simpa [Value.ownBlock] using hk8
    rcases hor with h | h
    · exact h5 g8 h (by rw [hg8]; exact hk4)
    · have := (h4.lt k hk4).2; omega
/-- A signature more in the second list. -/
theorem rst_two {W : Nat} {w w8 : World} {g : Nat} {tx : ByteArray} {ep : Int} {nx : List Int} {A C : List Sg} {s : Sg} {a1 a2 a3 : Option Addr} {c1 c2 c3 g8 c8 : Nat} (hge : W ≤ g)
    (h1 : w.heap[g]? = some (.cells #[.string tx, .slice a1 A.length c1, .int .i64 ep, .slice a2 nx.length c2, .slice a3 C.length c3] 54 (0, 0)))
    (h2 : w.ownsRow W 47 2 (.slice a1 A.length c1) A.length (sigV A)) (h3 : w.ownsRow W 3 1 (.slice a2 nx.length c2) nx.length (intsV nx)) (h4 : w.ownsRow W 47 2 (.slice a3 C.length c3) C.length (sigV C))
    (h5 : ∀ k, (Value.slice a1 A.length c1).ownBlock = some k → (Value.slice a3 C.length c3).ownBlock ≠ some k)
    (hk : Keep (fun k => (Value.slice a3 C.length c3).ownBlock = some k) w w8) (ho : w8.ownsRow W 47 2 (.slice (some ⟨g8, 0, none⟩) (C.length + 1) c8) (C.length + 1) (sigV (C ++ [s])))
    (hor : (Value.slice a3 C.length c3).ownBlock = some g8 ∨ w.heap.size ≤ g8) : RSt W (w8.setCell ⟨g, 4, none⟩ (.slice (some ⟨g8, 0, none⟩) (C.length + 1) c8)) g tx ep nx A (C ++ [s]) := by
  have k1 : w8.heap[g]? = _ := (hk.block g (blk_lt h1) (own_ne h4 h1 (by decide))).trans h1
  have r3 := owns_keep h3 hk (fun k hk' hx => rows_ne h3 h4 (by decide) k hk' hx)
  have r2 := owns_keep h2 hk (fun k hk' hx => h5 k hk' hx)
  have k2 := blk_set k1 4 (.slice (some ⟨g8, 0, none⟩) (C.length + 1) c8)
  simp only [List.setIfInBounds_toArray, List.set_cons_zero, List.set_cons_succ] at k2
  refine ⟨hge, a1, c1, a2, c2, some ⟨g8, 0, none⟩, c8, by rw [List.length_append]; exact k2, owns_setother r2 (own_ne r2 k1 (by decide)) _ _, owns_setother r3 (own_ne r3 k1 (by decide)) _ _, ?_, fun k hk8 hk4 => ?_⟩
  · rw [List.length_append]
    exact owns_setother ho (own_ne ho k1 (by decide)) _ _
  · have hg8 : g8 = k := by simpa [Value.ownBlock] using hk4
    rcases hor with h | h
    · exact h5 k hk8 (by rw [← hg8]; exact h)
    · have := (h2.lt k hk8).2; omega
/-- The vote number k of the row: its signatures, cell by cell. -/
theorem rv_sigs {w : World} {a : Option Addr} {n c : Nat} {e : Int} {L : List Vt} (h : SlAt shRv w a n c (L.map (rvOf e))) {k : Nat} {x : Int} {t : ByteArray} {nx : List Int} (hk : L[k]? = some (x, t, nx)) :
    ∃ b o sb so sc, a = some ⟨b, o, none⟩ ∧ w.cell? ⟨b, o + k * 4 + 3, none⟩ = some (.slice (some ⟨sb, so, none⟩) 2 sc) ∧ w.cell? ⟨sb, so, none⟩ = some (.int .i64 x) ∧ w.cell? ⟨sb, so + 1, none⟩ = some (.string (stS e t)) ∧
      w.cell? ⟨sb, so + 2, none⟩ = some (.int .i64 x) ∧ w.cell? ⟨sb, so + 2 + 1, none⟩ = some (.string (textS (e + 1) nx)) := by
  have hkn : k < n := by rw [← h.len, List.length_map]; exact (List.getElem?_eq_some_iff.1 hk).1
  obtain ⟨b, o, x', t', nx', sg, a', n', c', sa, sn, sc, rfl, hy, h0, h1, h2, h3, h4, h5, h6, h7⟩ := rv_cells h hkn
  rw [List.getElem?_map, hk] at hy
  simp only [Option.map_some, rvOf, Option.some.injEq, Prod.mk.injEq] at hy
  obtain ⟨rfl, rfl, rfl, rfl⟩ := hy
  have hsn : 2 = sn := h7.len
  subst hsn
  obtain ⟨sb, so, x1, t1, rfl, g1, g2, g3, _⟩ := sig_cells h7 (i := 0) (by decide)
  obtain ⟨sb', so', x2, t2, hs, q1, q2, q3, _⟩ := sig_cells h7 (i := 1) (by decide)
  injection hs with hs
  injection hs with hs1 hs2 _
  subst hs1 hs2
  simp only [List.getElem?_cons_zero, List.getElem?_cons_succ, Option.some.injEq, Prod.mk.injEq] at g1 q1
  obtain ⟨rfl, rfl⟩ := g1
  obtain ⟨rfl, rfl⟩ := q1
  exact ⟨b, o, sb, so, sc, rfl, h3, by simpa using g2, by simpa using g3, by simpa using q2, by simpa using q3⟩
theorem winner_no {l : List Int} {V : List Vt} (h : ∀ v ∈ V, ¬ quorumP l.length ≤ (cntC V v.2 : Int)) : winner l V = none := by
  cases hw : winner l V with
  | none => rfl
  | some y =>
    obtain ⟨h1, x, h2⟩ := winner_some hw
    exact absurd h1 (h _ h2)
theorem like_len {e : Int} {l : List Int} {V : List Vt} (h : VOk e l V) (y : ByteArray × List Int) : (likeP V y l).length = cntC V y := by
  rw [likeP_eq h.nodup, List.length_map, who_len h (right_nodup h.right)]
end Go.Proofs.Ytfhbjajhmegdmaa
