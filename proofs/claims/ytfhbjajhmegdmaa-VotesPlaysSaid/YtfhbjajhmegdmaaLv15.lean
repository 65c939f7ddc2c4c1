
/- lives of the laws on votes. -/
import Derived.Test.YtfhbjajhmegdmaaVt4
namespace Go.Proofs.Ytfhbjajhmegdmaa
set_option maxRecDepth 100000
open Go.RowKit Go.Maps
set_option linter.unusedVariables false
set_option linter.unusedSimpArgs false

set_option maxHeartbeats 1000000 in
theorem four15_any (w : World) : Calls Try.prog 27 #[] w fun r w' => ∃ b, r = .returned (.agg #[.int .i64 0, .slice (some ⟨b, 0, none⟩) 4 4]) ∧ SlAt Sh.int w' (some ⟨b, 0, none⟩) 4 4 [0, 1, 2, 3] ∧ Below w.heap.size w w' := by
  go_enter Try.func27, Try.ntmps27
  go_wp2_with fail
  have k1 := blk_alloc w (.cells #[.int .i64 0, .slice (some ⟨w.heap.size + 1, 0, none⟩) 4 4] 24)
  have b2 := below_alloc (w.alloc (.cells #[.int .i64 0, .slice (some ⟨w.heap.size + 1, 0, none⟩) 4 4] 24)) (.cells #[.int .i64 0, .int .i64 1, .int .i64 2, .int .i64 3] 3)
  have k2 := blk_alloc (w.alloc (.cells #[.int .i64 0, .slice (some ⟨w.heap.size + 1, 0, none⟩) 4 4] 24)) (.cells #[.int .i64 0, .int .i64 1, .int .i64 2, .int .i64 3] 3)
  have k3 := blk_below k1 b2
  rw [World.size_alloc] at k2
  have B2 := bthen (below_alloc w _) b2
  generalize World.alloc (World.alloc _ _) _ = w2 at *
  have x0 : w2.cell? ⟨w.heap.size, 0, none⟩ = some (.int .i64 0) := by rw [blk_cell k3]; rfl
  have x1 : w2.cell? ⟨w.heap.size, 1, none⟩ = some (.slice (some ⟨w.heap.size + 1, 0, none⟩) 4 4) := by rw [blk_cell k3]; rfl
  refine bodyPost_ret (v := .agg #[.int .i64 0, .slice (some ⟨w.heap.size + 1, 0, none⟩) 4 4]) (by simp [results, Try.results27, go_sem, x0, x1]) rfl ⟨w.heap.size + 1, rfl, ?_, B2⟩
  refine ⟨rfl, Nat.le_refl _, by decide, by decide, fun h => (by cases h), fun i y hy => ⟨w.heap.size + 1, 0, [.int .i64 y], rfl, ?_, fun j v hv => ?_⟩⟩
  · have hi : i < 4 := (List.getElem?_eq_some_iff.1 hy).1
    obtain rfl | rfl | rfl | rfl : i = 0 ∨ i = 1 ∨ i = 2 ∨ i = 3 := by omega
    all_goals (injection hy with hy; subst hy; exact ⟨rfl, by simp [i64]⟩)
  · have hj : j = 0 := by have := (List.getElem?_eq_some_iff.1 hv).1; simp at this; omega
    subst hj
    injection hv with hv; subst hv
    have hi : i < 4 := (List.getElem?_eq_some_iff.1 hy).1
    obtain rfl | rfl | rfl | rfl : i = 0 ∨ i = 1 ∨ i = 2 ∨ i = 3 := by omega
    all_goals (injection hy with hy; subst hy; rw [blk_cell k2]; rfl)

theorem sgOf_zero (x : Int) (s t : ByteArray) : sgOf 0 x s t = [(x, s), (x, t)] := by unfold sgOf; simp
theorem addE_honest {e : Int} {l : List Int} {V : List Vt} {x : Int} {t : ByteArray} {nx : List Int} (hG : vGood e l t nx = true) :
    addE e l V x t nx (sgOf 0 x (vS e l t nx) (vC e l t nx)) = if hasB l x = false then 8 else if V.any (fun v => v.1 == x) = true then 7 else 0 := by
  rw [sgOf_zero, vS, vC, if_pos hG, if_pos hG, addE, hG, if_neg (by decide), if_pos rfl]
def liveV (k : Nat) : List Vt := (List.range k).map fun i : Nat => ((i : Int), (⟨#[120]⟩ : ByteArray), ([1, 2, 3, 4] : List Int))
theorem live_good : vGood 0 [0, 1, 2, 3] ⟨#[120]⟩ [1, 2, 3, 4] = true := by decide +kernel
theorem live_add : ∀ k, k < 3 → addE 0 [0, 1, 2, 3] (liveV k) k ⟨#[120]⟩ [1, 2, 3, 4] (sgOf 0 k (vS 0 [0, 1, 2, 3] ⟨#[120]⟩ [1, 2, 3, 4]) (vC 0 [0, 1, 2, 3] ⟨#[120]⟩ [1, 2, 3, 4])) = 0 := by
  intro k hk
  rw [addE_honest live_good]
  obtain rfl | rfl | rfl : k = 0 ∨ k = 1 ∨ k = 2 := by omega
  all_goals decide +kernel
theorem live_addV (k : Nat) (hk : k < 3) : addV 0 [0, 1, 2, 3] (liveV k) k ⟨#[120]⟩ [1, 2, 3, 4] (sgOf 0 k (vS 0 [0, 1, 2, 3] ⟨#[120]⟩ [1, 2, 3, 4]) (vC 0 [0, 1, 2, 3] ⟨#[120]⟩ [1, 2, 3, 4])) = liveV (k + 1) := by
  rw [addV, if_pos (live_add k hk), liveV, liveV, List.range_succ, List.map_append]; rfl
theorem live_right : rightB 0 [0, 1, 2, 3] = true := by decide +kernel
theorem live_ok : ∀ k, k ≤ 3 → VOk 0 [0, 1, 2, 3] (liveV k)
  | 0, _ => VOk.nil live_right
  | k + 1, hk => by rw [← live_addV k (by omega)]; exact (live_ok k (by omega)).add (by decide)
theorem live_won : winner [0, 1, 2, 3] (liveV 3) = some (⟨#[120]⟩, [1, 2, 3, 4]) := by decide +kernel
theorem live_who : who [0, 1, 2, 3] (liveV 3) (⟨#[120]⟩, [1, 2, 3, 4]) = [0, 1, 2] := by decide +kernel

theorem sgOf_len (wrong x : Int) (s t : ByteArray) : 1 ≤ (sgOf wrong x s t).length ∧ (sgOf wrong x s t).length ≤ 3 := by
  unfold sgOf
  split
  · simp
  · split
    · simp
    · split
      · simp
      · split <;> simp
theorem i64_wrap64 (x : Int) : i64 (wrap64 x) := by unfold i64 wrap64; omega
theorem sgOf_ok {wrong x e : Int} {l : List Int} {t : ByteArray} {nx : List Int} (hx : i64 x) (ht : t.size ≤ 140737488355328) : ∀ s ∈ sgOf wrong x (vS e l t nx) (vC e l t nx), i64 s.1 ∧ s.2.size ≤ 1125899906842624 := by
  have h1 := vS_size e l t nx
  have h2 := vC_size e l t nx
  generalize vS e l t nx = S at *
  generalize vC e l t nx = C at *
  have h3 : (S ++ (⟨#[63]⟩ : ByteArray)).size ≤ 1125899906842624 := by rw [ByteArray.size_append, show (⟨#[63]⟩ : ByteArray).size = 1 from rfl]; omega
  have h4 : S.size ≤ 1125899906842624 := by omega
  have h5 : C.size ≤ 1125899906842624 := by omega
  have h6 := i64_wrap64 (x + 1)
  intro s hs
  unfold sgOf at hs
  split at hs
  · simp at hs; rcases hs with rfl | rfl; exact ⟨hx, h3⟩; exact ⟨hx, h5⟩
  · split at hs
    · simp at hs; rcases hs with rfl | rfl; exact ⟨hx, h4⟩; exact ⟨h6, h5⟩
    · split at hs
      · simp at hs; subst hs; exact ⟨hx, h4⟩
      · split at hs
        · simp at hs; rcases hs with rfl | rfl | rfl; exact ⟨hx, h4⟩; exact ⟨hx, h5⟩; exact ⟨hx, h4⟩
        · simp at hs; rcases hs with rfl | rfl; exact ⟨hx, h4⟩; exact ⟨hx, h5⟩

def liveR (p vb g k : Nat) : Nat → World → Value → Prop
  | 0 => fun _ v => v = .pointer (some ⟨p, 0, none⟩)
  | 1 => fun _ v => v = .int .i64 (k : Int)
  | 2 => fun _ v => v = .pointer (some ⟨vb, 1, none⟩)
  | 3 => fun _ v => v = .string ⟨#[120]⟩
  | 4 => fun _ v => v = .pointer (some ⟨vb, 2, none⟩)
  | 5 => fun _ v => v = .slice (some ⟨g, 0, none⟩) 4 4
  | 6 => fun _ v => v = .agg #[.int .i64 (k : Int), .string ⟨#[120]⟩, .slice (some ⟨g, 0, none⟩) 4 4, .int .i64 0]
  | 7 => fun w v => ∃ b, v = .agg #[.int .i64 0, .slice (some ⟨b, 0, none⟩) 4 4] ∧ SlAt Sh.int w (some ⟨b, 0, none⟩) 4 4 [0, 1, 2, 3]
  | 8 => fun w v => ∃ a n c, v = .slice a n c ∧ SlAt shSig w a n c (sgOf 0 (k : Int) (vS 0 [0, 1, 2, 3] ⟨#[120]⟩ [1, 2, 3, 4]) (vC 0 [0, 1, 2, 3] ⟨#[120]⟩ [1, 2, 3, 4]))
  | _ => fun _ _ => False
theorem liveR_stab {p vb g k : Nat} : ∀ i w w' v, liveR p vb g k i w v → Below w.heap.size w w' → liveR p vb g k i w' v
  | 0, w, w', v, h, hb => h
  | 1, w, w', v, h, hb => h
  | 2, w, w', v, h, hb => h
  | 3, w, w', v, h, hb => h
  | 4, w, w', v, h, hb => h
  | 5, w, w', v, h, hb => h
  | 6, w, w', v, h, hb => h
  | 7, w, w', v, ⟨b, h1, h2⟩, hb => ⟨b, h1, h2.old hb⟩
  | 8, w, w', v, ⟨a, n, c, h1, h2⟩, hb => ⟨a, n, c, h1, h2.old hb⟩
  | _ + 9, w, w', v, h, hb => h

set_option maxHeartbeats 2000000 in
theorem lives15_any (w : World) : Calls Try.prog 9 #[] w fun r w' => r = .returned (.bool true) ∧ Below w.heap.size w w' := by
  go_enter Try.func9, Try.ntmps9
  go_wp2_with fail
  refine (four15_any w).mono ?_
  rintro r w1 ⟨b1, rfl, h1, B1⟩
  have HB1 := Lib.hid B1
  have CN := Lib.hid (vnew_any 0 (some ⟨b1, 0, none⟩) 4 4 [0, 1, 2, 3] w1 (ints_of_sl h1) (fun h => by cases h) (by decide) (by simp [i64]))
  clear h1 B1
  go_wp2_with fail
  refine CN.out.mono ?_
  rintro r w2 ⟨B2, h2⟩
  obtain ⟨-, M, p, mv, mc, rfl, hM, hT⟩ := h2.resolve_right (fun h => by rw [live_right] at h; cases h.1)
  clear h2
  have HB2 := Lib.hid (bthen HB1.out B2)
  have HT2 := Lib.hid (show ∃ M : Nat → Prop, (∀ k, M k → w.heap.size ≤ k) ∧ TalAt M w2 p mv mc 0 [0, 1, 2, 3] (liveV 0) from ⟨M, fun k hk => Nat.le_trans HB1.out.size (hM k hk), hT⟩)
  clear CN B2 hM hT HB1
  go_wp2_with fail
  go_loopw [3] (fun i wr => ∃ k : Nat, k ≤ 3 ∧ i = .int .i64 k ∧ Hid (∃ M : Nat → Prop, (∀ k, M k → w.heap.size ≤ k) ∧ TalAt M wr p mv mc 0 [0, 1, 2, 3] (liveV k)) ∧ Hid (Below w.heap.size w wr)) (fun i _ => 3 - (intOf i).toNat)
  case atStart => exact ⟨0, by omega, rfl, HT2, HB2⟩
  case round =>
    clear HT2 HB2
    obtain ⟨k, hk, rfl, HT, HW⟩ := hrel
    by_cases hlt : k < 3
    · have hd : decide ((k : Int) < (3 : Int)) = true := by simp; omega
      have m1 := made_ints wr [1, 2, 3, 4] 3 (by simp [i64]) (by decide)
      simp only [intsV, List.map_cons, List.map_nil, List.length_cons, List.length_nil, Nat.zero_add, Nat.reduceAdd] at m1
      go_upto_region 8 with (fail)
      have kv := blk_alloc (wr.alloc (.cells #[.int .i64 1, .int .i64 2, .int .i64 3, .int .i64 4] 3 (0, 0))) (.cells #[.int .i64 (k : Int), .string ⟨#[120]⟩, .slice (some ⟨wr.heap.size, 0, none⟩) 4 4, .int .i64 0] 38 (0, 0))
      have hb6 := below_alloc (wr.alloc (.cells #[.int .i64 1, .int .i64 2, .int .i64 3, .int .i64 4] 3 (0, 0))) (.cells #[.int .i64 (k : Int), .string ⟨#[120]⟩, .slice (some ⟨wr.heap.size, 0, none⟩) 4 4, .int .i64 0] 38 (0, 0))
      have hx6 := ints_of_sl (m1.old hb6)
      have B6 := Lib.hid (bthen (below_alloc wr (.cells #[.int .i64 1, .int .i64 2, .int .i64 3, .int .i64 4] 3 (0, 0))) hb6)
      rw [World.size_alloc] at kv
      have KV := Lib.hid kv
      clear m1 kv hb6
      generalize (wr.alloc (.cells #[.int .i64 1, .int .i64 2, .int .i64 3, .int .i64 4] 3 (0, 0))).alloc (.cells #[.int .i64 (k : Int), .string ⟨#[120]⟩, .slice (some ⟨wr.heap.size, 0, none⟩) 4 4, .int .i64 0] 38 (0, 0)) = w6 at *
      generalize hg : wr.heap.size = g at *
      generalize hvb : g + 1 = vb at *
      have HX6 := Lib.hid hx6
      clear hx6
      refine wp_region_made 9 (liveR p vb g k) (fun _ _ => none) rfl (by kernel_rfl) (by kernel_rfl) liveR_stab (fun _ _ _ _ _ h => by cases h) (fun i oo hi ho => ?_) (fun vs w7 hb7 hs hne => ?_)
      · intro ac wa hba hE hF K hK
        have b7 := below_undrew hba
        have hno : ∀ k, (none : Option Nat) = some k → wa.heap.size ≤ k := fun _ h => by cases h
        have b7' := b7
        have hx := HX6.out
        have KVa := blk_below KV.out b7
        have z0 : wa.cell? ⟨vb, 0, none⟩ = some (.int .i64 (k : Int)) := by rw [blk_cell KVa]; rfl
        have z1 : wa.cell? ⟨vb, 1, none⟩ = some (.string ⟨#[120]⟩) := by rw [blk_cell KVa]; rfl
        have z2 : wa.cell? ⟨vb, 2, none⟩ = some (.slice (some ⟨g, 0, none⟩) 4 4) := by rw [blk_cell KVa]; rfl
        have z3 : wa.cell? ⟨vb, 3, none⟩ = some (.int .i64 0) := by rw [blk_cell KVa]; rfl
        have hi' : i = 0 ∨ i = 1 ∨ i = 2 ∨ i = 3 ∨ i = 4 ∨ i = 5 ∨ i = 6 ∨ i = 7 ∨ i = 8 := by omega
        rcases hi' with rfl | rfl | rfl | rfl | rfl | rfl | rfl | rfl | rfl
        · obtain rfl := Option.some.inj ho
          have h1 : ac.eval (.tmp 1) = .pointer (some ⟨p, 0, none⟩) := hE 1 (by decide)
          exact news_val rfl rfl (by generalize ac.eval = ρ at h1; simp only [execOp]; go_simp) (hK _ _ (Below.refl _ _) rfl hno)
        · obtain rfl := Option.some.inj ho
          have h1 : ac.eval (.tmp 3) = .int .i64 (k : Int) := hE 3 (by decide)
          exact news_val rfl rfl (by generalize ac.eval = ρ at h1; simp only [execOp]; go_simp) (hK _ _ (Below.refl _ _) rfl hno)
        · obtain rfl := Option.some.inj ho
          have h1 : ac.eval (.tmp 4) = .pointer (some ⟨vb, 0, none⟩) := hE 4 (by decide)
          exact news_val rfl rfl (by generalize ac.eval = ρ at h1; simp only [execOp]; go_simp) (hK _ _ (Below.refl _ _) rfl hno)
        · obtain rfl := Option.some.inj ho
          have h1 : ac.eval (.tmp 27) = .pointer (some ⟨vb, 1, none⟩) := hF ⟨2, .data⟩ (by simp) rfl 27 rfl
          exact news_val rfl rfl (by generalize ac.eval = ρ at h1; simp only [execOp]; go_simp) (hK _ _ (Below.refl _ _) rfl hno)
        · obtain rfl := Option.some.inj ho
          have h1 : ac.eval (.tmp 4) = .pointer (some ⟨vb, 0, none⟩) := hE 4 (by decide)
          exact news_val rfl rfl (by generalize ac.eval = ρ at h1; simp only [execOp]; go_simp) (hK _ _ (Below.refl _ _) rfl hno)
        · obtain rfl := Option.some.inj ho
          have h1 : ac.eval (.tmp 29) = .pointer (some ⟨vb, 2, none⟩) := hF ⟨4, .data⟩ (by simp) rfl 29 rfl
          exact news_val rfl rfl (by generalize ac.eval = ρ at h1; simp only [execOp]; go_simp) (hK _ _ (Below.refl _ _) rfl hno)
        · obtain rfl := Option.some.inj ho
          have h1 : ac.eval (.tmp 4) = .pointer (some ⟨vb, 0, none⟩) := hE 4 (by decide)
          exact news_val rfl rfl (by generalize ac.eval = ρ at h1; simp only [execOp]; go_simp) (hK _ _ (Below.refl _ _) rfl hno)
        · obtain rfl := Option.some.inj ho
          have hf : ac.eval (.func 27) = .func (.func 27) #[] #[] := rfl
          refine made_call rfl rfl 27 #[] (by generalize ac.eval = ρ at hf; simp only [execOp]; go_simp) (four15_any wa) ?_
          rintro r w8 ⟨b8, rfl, h8, b8'⟩
          exact ⟨_, rfl, hK _ _ b8' ⟨b8, rfl, h8⟩ (fun _ h => by cases h)⟩
        · obtain rfl := Option.some.inj ho
          have h1 : ac.eval (.tmp 31) = .agg #[.int .i64 (k : Int), .string ⟨#[120]⟩, .slice (some ⟨g, 0, none⟩) 4 4, .int .i64 0] := hF ⟨6, .data⟩ (by simp) rfl 31 rfl
          obtain ⟨b7, h2, hs7⟩ : ∃ b, (ac.eval (.tmp 32)) = .agg #[.int .i64 0, .slice (some ⟨b, 0, none⟩) 4 4] ∧ SlAt Sh.int wa (some ⟨b, 0, none⟩) 4 4 [0, 1, 2, 3] := hF ⟨7, .data⟩ (by simp) rfl 32 rfl
          have hf : ac.eval (.func 14) = .func (.func 14) #[] #[] := rfl
          refine made_call rfl rfl 14 #[.agg #[.int .i64 (k : Int), .string ⟨#[120]⟩, .slice (some ⟨g, 0, none⟩) 4 4, .int .i64 0], .agg #[.int .i64 0, .slice (some ⟨b7, 0, none⟩) 4 4]] (by generalize ac.eval = ρ at h1 h2 hf; simp only [execOp]; go_simp) (sigs15_any (k : Int) ⟨#[120]⟩ (some ⟨g, 0, none⟩) 4 4 [1, 2, 3, 4] 0 0 (some ⟨b7, 0, none⟩) 4 4 [0, 1, 2, 3] wa (by simp [i64]) (ints_of_sl hs7) (by decide) (hx.below b7') (by unfold i64; omega)) ?_
          rintro r w8 ⟨v8, rfl, ho8, b8⟩
          obtain ⟨a8, c8, rfl⟩ := owns_form ho8
          exact ⟨_, rfl, hK _ _ b8 ⟨a8, _, c8, rfl, sigs_row ho8 rfl (sgOf_ok (by unfold i64; omega) (by decide)) (by have := sgOf_len 0 (k : Int) (vS 0 [0, 1, 2, 3] ⟨#[120]⟩ [1, 2, 3, 4]) (vC 0 [0, 1, 2, 3] ⟨#[120]⟩ [1, 2, 3, 4]); omega)⟩ (fun _ h => by cases h)⟩
      · have e0 : vs 0 = _ := hs 0 (by omega)
        have e1 : vs 1 = _ := hs 1 (by omega)
        have e2 : vs 2 = _ := hs 2 (by omega)
        have e3 : vs 3 = _ := hs 3 (by omega)
        have e4 : vs 4 = _ := hs 4 (by omega)
        have e5 : vs 5 = _ := hs 5 (by omega)
        have e6 : vs 6 = _ := hs 6 (by omega)
        obtain ⟨b7, e7, hs7⟩ : ∃ b, (vs 7) = .agg #[.int .i64 0, .slice (some ⟨b, 0, none⟩) 4 4] ∧ SlAt Sh.int w7 (some ⟨b, 0, none⟩) 4 4 [0, 1, 2, 3] := hs 7 (by omega)
        obtain ⟨a8, n8, c8, e8, hs8⟩ : ∃ a n c, (vs 8) = .slice a n c ∧ SlAt shSig w7 a n c (sgOf 0 (k : Int) (vS 0 [0, 1, 2, 3] ⟨#[120]⟩ [1, 2, 3, 4]) (vC 0 [0, 1, 2, 3] ⟨#[120]⟩ [1, 2, 3, 4])) := hs 8 (by omega)
        show wpList _ _ _ _ (((((((((Act.put _ (some 25) (vs 0)).put (some 26) (vs 1)).put (some 27) (vs 2)).put (some 28) (vs 3)).put (some 29) (vs 4)).put (some 30) (vs 5)).put (some 31) (vs 6)).put (some 32) (vs 7)).put (some 33) (vs 8)) _
        rw [e0, e1, e2, e3, e4, e5, e6, e7, e8]
        clear e0 e1 e2 e3 e4 e5 e6 e7 e8 hs hne vs
        have hgz := hg
        have B7 := Lib.hid (bthen (by rw [hgz]; exact B6.out : Below wr.heap.size wr w6) hb7)
        have HX7 := Lib.hid (HX6.out.below hb7)
        have HS7 := Lib.hid hs8
        obtain ⟨M, hM, hT⟩ := HT.out
        have CA := Lib.hid (vadd_any M p mv mc 0 [0, 1, 2, 3] (liveV k) (k : Int) ⟨#[120]⟩ (some ⟨g, 0, none⟩) 4 4 [1, 2, 3, 4] a8 n8 c8 _ w7 (hT.old B7.out) (live_ok k (by omega)) (by unfold i64; omega) (by decide) HX7.out (fun h => by cases h) (by decide) HS7.out)
        have HE := Lib.hid (live_add k hlt)
        have HV := Lib.hid (live_addV k hlt)
        have HMB := Lib.hid hM
        have HMin := Lib.hid hT.mine
        clear hb7 hs7 hs8 hT hM HT B6 HX6 KV
        simp only [List.drop_succ_cons, List.drop_zero, Act.put, List.setIfInBounds_toArray, List.set_cons_succ, List.set_cons_zero]
        go_wp2_with fail
        refine CA.out.mono ?_
        rintro r w8 ⟨rfl, k8, M8, hM8, hT8⟩
        rw [HE.out]
        rw [HV.out] at hT8
        have hgw : w.heap.size ≤ g := by rw [← hgz]; exact HW.out.size
        have W7 := Lib.hid (bthen HW.out B7.out)
        have W8 := Lib.hid (k8.below W7.out (fun j hj => by
          rcases hj with rfl | rfl
          · exact HMB.out _ HMin.out.2.1
          · exact HMB.out _ HMin.out.2.2))
        have HT8 := Lib.hid (show ∃ M : Nat → Prop, (∀ k, M k → w.heap.size ≤ k) ∧ TalAt M w8 p mv mc 0 [0, 1, 2, 3] (liveV (k + 1)) from ⟨M8, fun j hj => (hM8 j hj).elim (HMB.out j) (fun h => Nat.le_trans W7.out.size h), hT8⟩)
        clear hT8 hM8 k8 CA HE HV HW W7 B7 HX7 HS7 HMB HMin
        go_wp2_with fail
        go_roundw
        case rel => exact ⟨k + 1, by omega, by go_num, HT8, W8⟩
        case measure => simp [intOf]; omega
    · obtain rfl : k = 3 := by omega
      have hd : decide ((3 : Int) < (3 : Int)) = false := by simp
      obtain ⟨M, hM, hT⟩ := HT.out
      have CS := vsettled_any M p mv mc 0 [0, 1, 2, 3] (liveV 3) wr hT (live_ok 3 (by omega))
      unfold SetPost at CS
      rw [live_won] at CS
      dsimp only at CS
      rw [live_who] at CS
      replace CS := Lib.hid CS
      have HTT := Lib.hid hT
      clear hT hM
      go_wp2_with fail
      refine CS.out.mono ?_
      rintro r w2 ⟨b2, a1, c1, a2, n2, c2, a3, c3, rfl, -⟩
      have W2 := Lib.hid (bthen HW.out b2)
      have CC := Lib.hid (fun w' (hb : Below w2.heap.size w2 w') => vcount_any M p mv mc 0 [0, 1, 2, 3] (liveV 3) w' (HTT.out.old (bthen b2 hb)))
      have hl3 : (liveV 3).length = 3 := by decide
      rw [hl3] at CC
      clear b2 CS HTT HW HT hl3
      simp only [List.length_cons, List.length_nil, Nat.zero_add, Nat.reduceAdd]
      go_wp2_with fail
      refine (CC.out _ (below_alloc w2 _)).mono ?_
      rintro r w3 ⟨rfl, rfl⟩
      go_wp2_with fail
      go_ret
      exact ⟨rfl, bthen W2.out (below_alloc w2 _)⟩
end Go.Proofs.Ytfhbjajhmegdmaa

/- Readings of the arguments of witanlaw15. -/
namespace Go.Proofs.Ytfhbjajhmegdmaa
set_option maxRecDepth 100000
open Go.ChangeShapes Go.WideShapes Go.ChangeAt Go.RowKit Go.Deep
set_option linter.unusedVariables false
set_option linter.unusedSimpArgs false

/-- A vote as a law hears it: whose, the bytes, the members, what is wrong. -/
abbrev Hv := Int × ByteArray × List Int × Int
def shVote : Sh Hv := (Sh.int.pair (Sh.str.pair (Sh.int.slice.pair Sh.int))).bytes 56
theorem vwVote : Vw Try.prog 38 shVote := vw_struct Try.underlying38 (fsv_cons vwInt (fsv_cons vwStr (fsv_cons vwInts (fsv_one vwInt) rfl) rfl) rfl) (by kernel_rfl) (by kernel_rfl)
theorem vwVotes : Vw Try.prog 30 shVote.slice := vw_slice Try.underlying30 (by kernel_rfl) (by kernel_rfl) vwVote (by decide) (by decide)
structure VoteIn (w : World) (x : Int) (t : ByteArray) (a : Option Addr) (n c : Nat) (l : List Int) (q : Int) : Prop where
  x : i64 x
  u : t.size ≤ 140737488351232
  t : t.size ≤ 140737488355328
  s : SlAt Sh.int w a n c l
  q : i64 q
theorem VoteIn.old {w w' : World} {x : Int} {t : ByteArray} {a : Option Addr} {n c : Nat} {l : List Int} {q : Int} (h : VoteIn w x t a n c l q) (hb : Below w.heap.size w w') : VoteIn w' x t a n c l q := ⟨h.x, h.u, h.t, h.s.old hb, h.q⟩
theorem vote_open {w : World} {y : Hv} {cs : List Value} (h : shVote.E w y cs) : ∃ x t l q a n c, y = (x, t, l, q) ∧ cs = [.int .i64 x, .string t, .slice a n c, .int .i64 q] ∧ VoteIn w x t a n c l q := by
  obtain ⟨x, t, l, q⟩ := y
  obtain ⟨_, _, rfl, ⟨rfl, h1⟩, _, _, rfl, ⟨rfl, h2⟩, _, _, rfl, ⟨a, n, c, rfl, h3⟩, rfl, h4⟩ := h
  exact ⟨x, t, l, q, a, n, c, rfl, rfl, h1, h2, Nat.le_trans h2 (by decide), h3, h4⟩
theorem vote_cells {w : World} {a : Option Addr} {n c : Nat} {l : List Hv} (h : SlAt shVote w a n c l) {i : Nat} (hi : i < n) :
    ∃ b o x t l' q a' n' c', a = some ⟨b, o, none⟩ ∧ l[i]? = some (x, t, l', q) ∧ w.cell? ⟨b, o + i * 4, none⟩ = some (.int .i64 x) ∧ w.cell? ⟨b, o + i * 4 + 1, none⟩ = some (.string t) ∧ w.cell? ⟨b, o + i * 4 + 2, none⟩ = some (.slice a' n' c') ∧ w.cell? ⟨b, o + i * 4 + 3, none⟩ = some (.int .i64 q) ∧ VoteIn w x t a' n' c' l' q := by
  obtain ⟨y, hy⟩ : ∃ y, l[i]? = some y := ⟨_, List.getElem?_eq_getElem (by rw [h.len]; exact hi)⟩
  obtain ⟨b, o, cs, ha, hE, hc⟩ := h.cell i y hy
  obtain ⟨x, t, l', q, a', n', c', rfl, rfl, hv⟩ := vote_open hE
  exact ⟨b, o, x, t, l', q, a', n', c', ha, hy, hc 0 _ rfl, hc 1 _ rfl, hc 2 _ rfl, hc 3 _ rfl, hv⟩
theorem VoteIn.nil {w : World} {x : Int} {t : ByteArray} {a : Option Addr} {n c : Nat} {l : List Int} {q : Int} (h : VoteIn w x t a n c l q) : a = none → c = 0 ∧ n = 0 := fun hn => ⟨h.s.nil hn, by have := h.s.nil hn; have := h.s.cap; omega⟩
end Go.Proofs.Ytfhbjajhmegdmaa
