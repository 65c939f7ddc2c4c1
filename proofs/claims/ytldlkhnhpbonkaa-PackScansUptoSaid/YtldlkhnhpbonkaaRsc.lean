/- Walk of the reference's Scan. -/
import Derived.Test.YtldlkhnhpbonkaaPLive
namespace Go.Proofs.Ytldlkhnhpbonkaa
open Go.RowKit
set_option linter.unusedVariables false

theorem info_rval : (Try.prog.info? 45).map (fun i => (i.zero, i.size, i.bytes)) = some (some (.agg #[.int .i64 0, .int .u64 0, .string ⟨#[]⟩]), 3, 32) := by kernel_rfl

/-- What the reference's Scan answers. -/
def RScanPost (w : World) (shape text : List UInt8) (e : Ending) (w' : World) : Prop :=
  ∃ v, e = .returned (.tuple #[v, .int .i64 (scE shape text)]) ∧ w'.ownsRow w.heap.size 45 3 v (scL shape text).length (vsV (scL shape text)) ∧ Below w.heap.size w w'
theorem rscanPost_nil {w w' : World} {shape text : List UInt8} {k : Int} (hk : scE shape text = k) (h0 : ¬ k = 0) (hb : Below w.heap.size w w') : RScanPost w shape text (.returned (.tuple #[.slice none 0 0, .int .i64 k])) w' := by
  refine ⟨_, by rw [hk], ?_, hb⟩
  rw [scL, hk, if_neg h0]
  exact World.ownsRow_nil _ _ _ _

structure RSBox (w0 : World) (p : Nat) (wr : World) (s : R) (v : Value) (vs : List V) : Prop where
  below : Below w0.heap.size w0 wr
  hp : w0.heap.size ≤ p
  rd : RRd wr p s
  own : wr.ownsRow (p + 1) 45 3 v vs.length (vsV vs)
section
variable {w0 wr w6 w8 : World} {p : Nat} {s s' : R} {v v' : Value} {vs : List V}
theorem rrd_lt' {w : World} {p : Nat} {s : R} (hr : RRd w p s) : p < w.heap.size := by
  obtain ⟨S, hk, h1, h2⟩ := hr
  exact blk_lt hk
theorem RSBox.own6 (h : RSBox w0 p wr s v vs) (ho : Only p none wr w6) : w6.ownsRow (p + 1) 45 3 v vs.length (vsV vs) := by
  refine ⟨h.own.1, ?_⟩
  rcases h.own.2 with hn | ⟨g, cap, cur, rfl, hb, hg, r⟩
  · exact .inl hn
  · exact .inr ⟨g, cap, cur, rfl, hb, by rw [ho.block g (blk_lt hg) (by omega) (by simp)]; exact hg, r⟩
theorem RSBox.step (h : RSBox w0 p wr s v vs) (ho : Only p none wr w6) (hr : RRd w6 p s') (o : Obj) (x : V)
    (hown : w8.ownsRow (p + 1) 45 3 v' (vs.length + 1) (vsV vs ++ vsV [x])) (hg : (w6.alloc o).grownBy w8 v.ownBlock) : RSBox w0 p w8 s' v' (vs ++ [x]) := by
  have hp := h.hp
  have hp6 := rrd_lt' hr
  have hlo : ∀ k, v.ownBlock = some k → p + 1 ≤ k := fun k hk => (h.own.lt k hk).1
  have hB6 : Below w0.heap.size w0 w6 := Only.below h.below ho hp (fun k hk => by cases hk)
  refine ⟨(balloc hB6 o).grown hg (by have := hB6.size; simp; omega) (fun k hk => by have := hlo k hk; omega), hp, ?_, ?_⟩
  · obtain ⟨S, hk, h1, h2⟩ := hr
    refine ⟨S, ?_, h1, h2⟩
    rw [hg.block p (by simp; omega) (fun hc => by have := hlo _ hc.symm; omega), Below.heap_alloc _ _ _ hp6]; exact hk
  · rw [List.length_append, vsV, List.flatMap_append]; exact hown
end
theorem vsV_cells (w : World) (x : V) (c : Array Value) (hc : c.toList = vsV [x]) (t : TypeId) : ∀ ad, (some (⟨w.heap.size, 0, none⟩ : Addr)) = some ad → ∀ j u, (vsV [x])[j]? = some u → (w.alloc (.cells c t)).cell? (ad.add j) = some u := by
  intro ad had j u h
  injection had with had; subst had
  rw [Addr.add_lit, blk_cell (blk_alloc w _), ← h, ← hc]
  simp
theorem letterB_false {c : Nat} (h : ¬ letterB c = true) : ((c : Int) != 98) = true ∧ ((c : Int) != 119) = true ∧ ((c : Int) != 108) = true ∧ ((c : Int) != 113) = true ∧ ((c : Int) != 116) = true := by
  simp [letterB] at h
  simp
  omega
theorem letterB_cases {c : Nat} (h : letterB c = true) : c = 98 ∨ c = 119 ∨ c = 108 ∨ c = 113 ∨ c = 116 := by simp [letterB] at h; omega

set_option maxHeartbeats 4000000 in
theorem rscan_any (shape text : ByteArray) (w : World) (hs : shape.size ≤ 1048576) (hts : text.size ≤ 140737488351232) :
    Calls Try.prog 17 #[.string shape, .string text] w (RScanPost w shape.data.toList text.data.toList) := by
  obtain ⟨ii, hi, hz0, hz1, hz2⟩ := info_parts info_rval
  go_enter Try.func17, Try.ntmps17
  go_wp2_with fail
  go_loop [6] (fun i => ∃ j : Nat, j ≤ shape.size ∧ i = .int .i64 j ∧ Hid (lettersB (shape.data.toList.take j) = true)) (fun i => shape.size - (intOf i).toNat)
  case atStart => exact ⟨0, by omega, rfl, Lib.hid rfl⟩
  case round =>
    obtain ⟨j, hj, rfl, hl⟩ := hrel
    by_cases hlt : j < shape.size
    · obtain ⟨b, hb⟩ : ∃ b, shape.data.toList[j]? = some b := ⟨_, List.getElem?_eq_getElem (by simpa using hlt)⟩
      have hbe : shape[j] = b := by
        have h1 : shape.data.toList[j]? = some shape[j] := by
          rw [Array.getElem?_toList]; exact Array.getElem?_eq_getElem (by exact hlt)
        rw [hb] at h1; injection h1 with h1; exact h1.symm
      have hbt := b.toNat_lt
      by_cases hB : letterB b.toNat = true
      · have HN := Lib.hid (letters_snoc hl.out hb hB)
        have Hbe := Lib.hid hbe
        have hc := letterB_cases hB
        clear hb hB hl
        have hbn : (shape[j].toNat) = b.toNat := by rw [hbe]
        clear hbe
        generalize b.toNat = c at *
        rcases hc with rfl | rfl | rfl | rfl | rfl
        all_goals
          go_wp2_with fail
          go_round
          case rel => exact ⟨j + 1, by omega, by go_num, HN⟩
          case measure => simp [intOf]; omega
      · obtain ⟨n1, n2, n3, n4, n5⟩ := letterB_false hB
        have hE := Lib.hid (show scE shape.data.toList text.data.toList = 1 by rw [scE, letters_bad hb hB]; rfl)
        have hbn : (shape[j].toNat) = b.toNat := by rw [hbe]
        clear hb hB hbe
        generalize b.toNat = c at *
        go_wp2_with fail
        go_ret2
        exact rscanPost_nil hE.out (by omega) (Below.refl _ _)
    · obtain rfl : j = shape.size := by omega
      have hall := hl.out
      rw [List.take_of_length_le (by simp)] at hall
      replace hl := Lib.hid hall
      clear hall hlt hj
      go_wp2_with fail
      have HB := Lib.hid (show RSBox w w.heap.size (w.alloc (.cells #[.string text, .bool false] 28)) (scN (shape.data.toList.take 0) ⟨text.data.toList, false⟩) (.slice none 0 0) (scV (shape.data.toList.take 0) ⟨text.data.toList, false⟩) from
        ⟨below_alloc _ _, Nat.le_refl _, ⟨text, blk_alloc _ _, rfl, hts⟩, World.ownsRow_nil _ _ _ _⟩)
      generalize (w.alloc (.cells #[.string text, .bool false] 28)) = w1 at *
      have hpz : w.heap.size ≤ w.heap.size := Nat.le_refl _
      go_loopw [9, 10] (fun v i wr => ∃ k : Nat, k ≤ shape.size ∧ i = .int .i64 k ∧ Hid ((scN (shape.data.toList.take k) ⟨text.data.toList, false⟩).bad = false) ∧ Hid (RSBox w w.heap.size wr (scN (shape.data.toList.take k) ⟨text.data.toList, false⟩) v (scV (shape.data.toList.take k) ⟨text.data.toList, false⟩))) (fun _ i _ => shape.size - (intOf i).toNat)
      case atStart => exact ⟨0, by omega, rfl, Lib.hid rfl, HB⟩
      case round =>
        clear HB
        obtain ⟨k, hk, rfl, Hbad, HB⟩ := hrel


        by_cases hlt : k < shape.size
        · obtain ⟨b, hb⟩ : ∃ b, shape.data.toList[k]? = some b := ⟨_, List.getElem?_eq_getElem (by simpa using hlt)⟩
          have hbe : shape[k] = b := by
            have h1 : shape.data.toList[k]? = some shape[k] := by
              rw [Array.getElem?_toList]; exact Array.getElem?_eq_getElem (by exact hlt)
            rw [hb] at h1; injection h1 with h1; exact h1.symm
          have hlb : letterB b.toNat = true := by
            have := hl.out
            rw [lettersB, List.all_eq_true] at this
            exact this b (List.mem_of_getElem? hb)
          have Hv := Lib.hid (show scV (shape.data.toList.take (k + 1)) ⟨text.data.toList, false⟩ = scV (shape.data.toList.take k) ⟨text.data.toList, false⟩ ++ [vVal (scN (shape.data.toList.take k) ⟨text.data.toList, false⟩) b.toNat] by rw [List.take_add_one, hb]; exact scV_snoc _ _ _)
          have Hn := Lib.hid (show scN (shape.data.toList.take (k + 1)) ⟨text.data.toList, false⟩ = vNext (scN (shape.data.toList.take k) ⟨text.data.toList, false⟩) b.toNat by rw [List.take_add_one, hb]; exact scN_snoc _ _ _)
          have Hp := Lib.hid (show (vNext (scN (shape.data.toList.take k) ⟨text.data.toList, false⟩) b.toNat).bad = true → scE shape.data.toList text.data.toList = 2 from fun h => by
            have h2 : (scN shape.data.toList ⟨text.data.toList, false⟩).bad = true := by
              rw [← List.take_append_drop (k + 1) shape.data.toList, scN_append]
              exact scN_bad _ _ (by rw [Hn.out]; exact h)
            rw [scE, if_pos hl.out, endE, if_pos h2])
          have hxl : (scV (shape.data.toList.take k) ⟨text.data.toList, false⟩).length ≤ 1048576 := by rw [scV_len, List.length_take]; omega
          generalize scV (shape.data.toList.take k) ⟨text.data.toList, false⟩ = X at *
          generalize scN (shape.data.toList.take k) ⟨text.data.toList, false⟩ = s at *
          have hbn : (shape[k].toNat) = b.toNat := by rw [hbe]
          have hlc := letterB_cases hlb
          have k1 : X.length + 1 ≤ maxLen := by simp only [maxLen]; omega
          have k2 : (X.length + 1) * 32 ≤ 140737488355328 := by omega
          have hpz1 := rrd_lt' HB.out.rd
          clear hb hlb hbe
          generalize b.toNat = c at *
          rcases hlc with rfl | rfl | rfl | rfl | rfl
          · have hV : vVal s ((98 : Nat) : Int) = ⟨rVal s 1, 0, []⟩ := rfl
            have hN : vNext s ((98 : Nat) : Int) = rNext s 1 := rfl
            rw [hV] at Hv
            rw [hN] at Hn Hp
            clear hV hN
            go_wp2_with fail
            refine (rrnum_any w.heap.size s 1 wr HB.out.rd (by omega)).mono ?_
            rintro e' w6 ⟨rfl, hr6, o6⟩
            have Ho := Lib.hid (HB.out.own6 o6)
            have l6 : w.heap.size + 1 ≤ w6.heap.size := by have := o6.size; omega
            go_wp2_with (refine wpList_append_any _ rfl (.tmp 53) (.tmp 57) 40 rfl (w.heap.size + 1) 45 ii (.agg #[.int .i64 0, .int .u64 0, .string ⟨#[]⟩]) 3 32 Try.underlying40 hi hz0 hz1 hz2 rfl (by decide) u9 X.length (vsV X) rfl (owns_below3 Ho.out (below_alloc _ _)) (some ⟨w6.heap.size, 0, none⟩) 1 1 (vsV [⟨rVal s 1, 0, []⟩]) rfl rfl (fun h => by cases h) (vsV_cells w6 ⟨rVal s 1, 0, []⟩ _ rfl _) (vsV_one _) k1 k2 (by simp; omega) ?_)
            intro v' w8 hown8 hg8 _
            have HB8 := Lib.hid (HB.out.step o6 hr6 _ ⟨rVal s 1, 0, []⟩ hown8 hg8)
            obtain ⟨S8, hk8, _, _⟩ := HB8.out.rd
            have k8 : w8.cell? ⟨w.heap.size, 1, none⟩ = some (.bool (rNext s 1).bad) := by rw [blk_cell hk8]; rfl
            clear hown8 hg8 Ho hr6 o6 HB hk8
            cases hbad : (rNext s 1).bad with
            | true =>
              have hE := Lib.hid (Hp.out hbad)
              rw [hbad] at k8
              clear hbad Hp
              go_wp2_with fail
              go_ret2
              exact rscanPost_nil hE.out (by omega) HB8.out.below
            | false =>
              rw [hbad] at k8
              have Hb8 := Lib.hid hbad
              clear hbad Hp
              go_wp2_with fail
              go_roundw
              case rel => exact ⟨k + 1, by omega, by go_num, Lib.hid (by rw [Hn.out]; exact Hb8.out), Lib.hid (by rw [Hn.out, Hv.out]; exact HB8.out)⟩
              case measure => simp [intOf]; omega
          · have hV : vVal s ((119 : Nat) : Int) = ⟨rVal s 2, 0, []⟩ := rfl
            have hN : vNext s ((119 : Nat) : Int) = rNext s 2 := rfl
            rw [hV] at Hv
            rw [hN] at Hn Hp
            clear hV hN
            go_wp2_with fail
            refine (rrnum_any w.heap.size s 2 wr HB.out.rd (by omega)).mono ?_
            rintro e' w6 ⟨rfl, hr6, o6⟩
            have Ho := Lib.hid (HB.out.own6 o6)
            have l6 : w.heap.size + 1 ≤ w6.heap.size := by have := o6.size; omega
            go_wp2_with (refine wpList_append_any _ rfl (.tmp 61) (.tmp 65) 40 rfl (w.heap.size + 1) 45 ii (.agg #[.int .i64 0, .int .u64 0, .string ⟨#[]⟩]) 3 32 Try.underlying40 hi hz0 hz1 hz2 rfl (by decide) u9 X.length (vsV X) rfl (owns_below3 Ho.out (below_alloc _ _)) (some ⟨w6.heap.size, 0, none⟩) 1 1 (vsV [⟨rVal s 2, 0, []⟩]) rfl rfl (fun h => by cases h) (vsV_cells w6 ⟨rVal s 2, 0, []⟩ _ rfl _) (vsV_one _) k1 k2 (by simp; omega) ?_)
            intro v' w8 hown8 hg8 _
            have HB8 := Lib.hid (HB.out.step o6 hr6 _ ⟨rVal s 2, 0, []⟩ hown8 hg8)
            obtain ⟨S8, hk8, _, _⟩ := HB8.out.rd
            have k8 : w8.cell? ⟨w.heap.size, 1, none⟩ = some (.bool (rNext s 2).bad) := by rw [blk_cell hk8]; rfl
            clear hown8 hg8 Ho hr6 o6 HB hk8
            cases hbad : (rNext s 2).bad with
            | true =>
              have hE := Lib.hid (Hp.out hbad)
              rw [hbad] at k8
              clear hbad Hp
              go_wp2_with fail
              go_ret2
              exact rscanPost_nil hE.out (by omega) HB8.out.below
            | false =>
              rw [hbad] at k8
              have Hb8 := Lib.hid hbad
              clear hbad Hp
              go_wp2_with fail
              go_roundw
              case rel => exact ⟨k + 1, by omega, by go_num, Lib.hid (by rw [Hn.out]; exact Hb8.out), Lib.hid (by rw [Hn.out, Hv.out]; exact HB8.out)⟩
              case measure => simp [intOf]; omega
          · have hV : vVal s ((108 : Nat) : Int) = ⟨rVal s 4, 0, []⟩ := rfl
            have hN : vNext s ((108 : Nat) : Int) = rNext s 4 := rfl
            rw [hV] at Hv
            rw [hN] at Hn Hp
            clear hV hN
            go_wp2_with fail
            refine (rrnum_any w.heap.size s 4 wr HB.out.rd (by omega)).mono ?_
            rintro e' w6 ⟨rfl, hr6, o6⟩
            have Ho := Lib.hid (HB.out.own6 o6)
            have l6 : w.heap.size + 1 ≤ w6.heap.size := by have := o6.size; omega
            go_wp2_with (refine wpList_append_any _ rfl (.tmp 69) (.tmp 73) 40 rfl (w.heap.size + 1) 45 ii (.agg #[.int .i64 0, .int .u64 0, .string ⟨#[]⟩]) 3 32 Try.underlying40 hi hz0 hz1 hz2 rfl (by decide) u9 X.length (vsV X) rfl (owns_below3 Ho.out (below_alloc _ _)) (some ⟨w6.heap.size, 0, none⟩) 1 1 (vsV [⟨rVal s 4, 0, []⟩]) rfl rfl (fun h => by cases h) (vsV_cells w6 ⟨rVal s 4, 0, []⟩ _ rfl _) (vsV_one _) k1 k2 (by simp; omega) ?_)
            intro v' w8 hown8 hg8 _
            have HB8 := Lib.hid (HB.out.step o6 hr6 _ ⟨rVal s 4, 0, []⟩ hown8 hg8)
            obtain ⟨S8, hk8, _, _⟩ := HB8.out.rd
            have k8 : w8.cell? ⟨w.heap.size, 1, none⟩ = some (.bool (rNext s 4).bad) := by rw [blk_cell hk8]; rfl
            clear hown8 hg8 Ho hr6 o6 HB hk8
            cases hbad : (rNext s 4).bad with
            | true =>
              have hE := Lib.hid (Hp.out hbad)
              rw [hbad] at k8
              clear hbad Hp
              go_wp2_with fail
              go_ret2
              exact rscanPost_nil hE.out (by omega) HB8.out.below
            | false =>
              rw [hbad] at k8
              have Hb8 := Lib.hid hbad
              clear hbad Hp
              go_wp2_with fail
              go_roundw
              case rel => exact ⟨k + 1, by omega, by go_num, Lib.hid (by rw [Hn.out]; exact Hb8.out), Lib.hid (by rw [Hn.out, Hv.out]; exact HB8.out)⟩
              case measure => simp [intOf]; omega
          · have hV : vVal s ((113 : Nat) : Int) = ⟨0, rVal s 8, []⟩ := rfl
            have hN : vNext s ((113 : Nat) : Int) = rNext s 8 := rfl
            rw [hV] at Hv
            rw [hN] at Hn Hp
            clear hV hN
            go_wp2_with fail
            refine (rbits_any w.heap.size s 8 wr HB.out.rd (by omega)).mono ?_
            rintro e' w6 ⟨rfl, hr6, o6⟩
            have Ho := Lib.hid (HB.out.own6 o6)
            have l6 : w.heap.size + 1 ≤ w6.heap.size := by have := o6.size; omega
            go_wp2_with (refine wpList_append_any _ rfl (.tmp 77) (.tmp 81) 40 rfl (w.heap.size + 1) 45 ii (.agg #[.int .i64 0, .int .u64 0, .string ⟨#[]⟩]) 3 32 Try.underlying40 hi hz0 hz1 hz2 rfl (by decide) u9 X.length (vsV X) rfl (owns_below3 Ho.out (below_alloc _ _)) (some ⟨w6.heap.size, 0, none⟩) 1 1 (vsV [⟨0, rVal s 8, []⟩]) rfl rfl (fun h => by cases h) (vsV_cells w6 ⟨0, rVal s 8, []⟩ _ rfl _) (vsV_one _) k1 k2 (by simp; omega) ?_)
            intro v' w8 hown8 hg8 _
            have HB8 := Lib.hid (HB.out.step o6 hr6 _ ⟨0, rVal s 8, []⟩ hown8 hg8)
            obtain ⟨S8, hk8, _, _⟩ := HB8.out.rd
            have k8 : w8.cell? ⟨w.heap.size, 1, none⟩ = some (.bool (rNext s 8).bad) := by rw [blk_cell hk8]; rfl
            clear hown8 hg8 Ho hr6 o6 HB hk8
            cases hbad : (rNext s 8).bad with
            | true =>
              have hE := Lib.hid (Hp.out hbad)
              rw [hbad] at k8
              clear hbad Hp
              go_wp2_with fail
              go_ret2
              exact rscanPost_nil hE.out (by omega) HB8.out.below
            | false =>
              rw [hbad] at k8
              have Hb8 := Lib.hid hbad
              clear hbad Hp
              go_wp2_with fail
              go_roundw
              case rel => exact ⟨k + 1, by omega, by go_num, Lib.hid (by rw [Hn.out]; exact Hb8.out), Lib.hid (by rw [Hn.out, Hv.out]; exact HB8.out)⟩
              case measure => simp [intOf]; omega
          · have hV : vVal s ((116 : Nat) : Int) = ⟨0, 0, tVal s⟩ := rfl
            have hN : vNext s ((116 : Nat) : Int) = tNext s := rfl
            rw [hV] at Hv
            rw [hN] at Hn Hp
            clear hV hN
            go_wp2_with fail
            refine (rrtext_any w.heap.size s wr HB.out.rd).mono ?_
            rintro e' w6 ⟨rfl, hr6, o6⟩
            have Ho := Lib.hid (HB.out.own6 o6)
            have l6 : w.heap.size + 1 ≤ w6.heap.size := by have := o6.size; omega
            go_wp2_with (refine wpList_append_any _ rfl (.tmp 85) (.tmp 89) 40 rfl (w.heap.size + 1) 45 ii (.agg #[.int .i64 0, .int .u64 0, .string ⟨#[]⟩]) 3 32 Try.underlying40 hi hz0 hz1 hz2 rfl (by decide) u9 X.length (vsV X) rfl (owns_below3 Ho.out (below_alloc _ _)) (some ⟨w6.heap.size, 0, none⟩) 1 1 (vsV [⟨0, 0, tVal s⟩]) rfl rfl (fun h => by cases h) (vsV_cells w6 ⟨0, 0, tVal s⟩ _ rfl _) (vsV_one _) k1 k2 (by simp; omega) ?_)
            intro v' w8 hown8 hg8 _
            have HB8 := Lib.hid (HB.out.step o6 hr6 _ ⟨0, 0, tVal s⟩ hown8 hg8)
            obtain ⟨S8, hk8, _, _⟩ := HB8.out.rd
            have k8 : w8.cell? ⟨w.heap.size, 1, none⟩ = some (.bool (tNext s).bad) := by rw [blk_cell hk8]; rfl
            clear hown8 hg8 Ho hr6 o6 HB hk8
            cases hbad : (tNext s).bad with
            | true =>
              have hE := Lib.hid (Hp.out hbad)
              rw [hbad] at k8
              clear hbad Hp
              go_wp2_with fail
              go_ret2
              exact rscanPost_nil hE.out (by omega) HB8.out.below
            | false =>
              rw [hbad] at k8
              have Hb8 := Lib.hid hbad
              clear hbad Hp
              go_wp2_with fail
              go_roundw
              case rel => exact ⟨k + 1, by omega, by go_num, Lib.hid (by rw [Hn.out]; exact Hb8.out), Lib.hid (by rw [Hn.out, Hv.out]; exact HB8.out)⟩
              case measure => simp [intOf]; omega
        · obtain rfl : k = shape.size := by omega
          have CE := Lib.hid (rrend_any _ _ wr HB.out.rd)
          rw [List.take_of_length_le (by simp)] at HB Hbad CE
          have HE := Lib.hid (scE_end hl.out Hbad.out)
          have HL := Lib.hid (scL_end hl.out Hbad.out)
          have HBl := Lib.hid HB.out.below
          have Hown := Lib.hid (owns_mono3 HB.out.own (show w.heap.size ≤ w.heap.size + 1 by omega))
          generalize endE (scN shape.data.toList ⟨text.data.toList, false⟩) = ee at *
          generalize scV shape.data.toList ⟨text.data.toList, false⟩ = X at *
          clear HB Hbad hlt hk
          by_cases he0 : ee = 0
          · subst he0
            go_wp2_with fail
            refine CE.out.mono ?_
            rintro e' w5 ⟨rfl, rfl⟩
            go_wp2_with fail
            go_ret2
            refine ⟨u9, by rw [HE.out]; rfl, ?_, HBl.out⟩
            rw [HL.out trivial]
            exact Hown.out
          · have he1 : (ee != 0) = true := by simpa using he0
            go_wp2_with fail
            refine CE.out.mono ?_
            rintro e' w5 ⟨rfl, rfl⟩
            go_wp2_with fail
            go_ret2
            exact rscanPost_nil HE.out he0 HBl.out
end Go.Proofs.Ytldlkhnhpbonkaa
