
/- Walk of the reference's Add. -/
import Derived.Test.YtdeomokhjmnfhaaRt2
namespace Go.Proofs.Ytdeomokhjmnfhaa
open Go.RowKit
set_option linter.unusedVariables false

def RAddPost (X : Nat → Prop) (B q : Nat) (ol : Option Nat) (c0 : Cf) (L : List Lk) (y : Lk) (x : Int) (w : World) (r : Ending) (w' : World) : Prop :=
  r = .returned (.int .i64 x) ∧ (x ≠ 0 → Below w.heap.size w w') ∧ (x = 0 → ∃ X' ol', (ol' = ol ∨ ∃ k, ol' = some k ∧ w.heap.size ≤ k) ∧ XSub X X' w ∧ RTrk X' w' B q ol' c0 (L ++ [y]) ∧ Keep (rX q ol) w w')

set_option maxHeartbeats 2000000 in
theorem radd_any (X : Nat → Prop) (B q : Nat) (ol : Option Nat) (c0 : Cf) (L : List Lk) (e : Int) (a : Option Addr) (n c : Nat) (l : List Int) (sa : Option Addr) (sn sc : Nat) (sigs : List Sg) (w : World)
    (h : RTrk X w B q ol c0 L) (hB : B ≤ w.heap.size) (hL : L.length ≤ 900) (he : i64 e) (hI : SlAt Sh.int w a n c l) (hS : SlAt shSig w sa sn sc sigs) :
    Calls Try.prog 39 #[.pointer (some ⟨q, 0, none⟩), .agg #[.int .i64 e, .slice a n c, .slice sa sn sc]] w (RAddPost X B q ol c0 L ((e, l), sigs) (validC (lastC c0 L).1 (lastC c0 L).2 e l sigs) w) := by
  obtain ⟨il, hil, hl0, hl1, hl2⟩ := info_parts info_link'
  obtain ⟨x, hxv⟩ : ∃ x, x = validC (lastC c0 L).1 (lastC c0 L).2 e l sigs := ⟨_, rfl⟩
  rw [← hxv]
  have HXV := Lib.hid hxv
  clear hxv
  obtain ⟨wa, hwa⟩ : ∃ wa, wa = w.alloc (.cells #[.int .i64 e, .slice a n c, .slice sa sn sc] 27) := ⟨_, rfl⟩
  have ba : Below w.heap.size w wa := by rw [hwa]; exact below_alloc _ _
  have kx : wa.heap[w.heap.size]? = some (.cells #[.int .i64 e, .slice a n c, .slice sa sn sc] 27 (0, 0)) := by rw [hwa]; exact blk_alloc _ _
  have ht := h.old ba
  obtain ⟨a0, n0, k0, al, cl, hp, he0, hI0, hS0⟩ := ht.view (by omega)
  have p2 : (w.alloc (.cells #[.int .i64 e, .slice a n c, .slice sa sn sc] 27)).cell? ⟨q, 2, none⟩ = some (.slice al L.length cl) := by rw [← hwa, blk_cell hp]; rfl
  have CA := Lib.hid (rat_any X B q ol c0 L L.length wa ht (by omega))
  have HG := Lib.hid (lastC_get L c0)
  have HT := Lib.hid ht; have BA := Lib.hid ba; have KX := Lib.hid kx; have HI := Lib.hid (hI.old ba); have HS := Lib.hid (hS.old ba); have HP := Lib.hid hp
  have lx := blk_lt kx
  have lq := blk_lt hp
  have hqw : q < w.heap.size := h.lt.1
  have HO := Lib.hid (rX_lt h)
  have HW := Lib.hid (show w.heap.size ≤ wa.heap.size from ba.size)
  clear h ht hI hS ba kx hp hI0 hS0
  go_enter Try.func39, Try.ntmps39
  go_wp2_with fail
  rw [← hwa]
  clear hwa p2
  refine CA.out.mono ?_
  rintro r w1 ⟨b1, h1⟩
  rcases h1 with ⟨k, e1, l1, a1, n1, c1, hk, hc, rfl, hs1, he1⟩ | ⟨hbad, _⟩
  · have hk' : L.length = k := by omega
    subst hk'
    rw [HG.out] at hc
    injection hc with hc
    have hlast : lastC c0 L = (e1, l1) := hc
    have hxe := HXV.out
    rw [hlast] at hxe
    have HXE := Lib.hid hxe
    clear hxe HXV
    have B1 := Lib.hid b1
    have HS1 := Lib.hid hs1
    clear hk hc hlast CA HG b1 hs1
    obtain ⟨wb, hwb⟩ : ∃ wb, wb = w1.alloc (.cells #[.int .i64 e1, .slice a1 n1 c1] 24) := ⟨_, rfl⟩
    have bb : Below w1.heap.size w1 wb := by rw [hwb]; exact below_alloc _ _
    have kb := blk_below (blk_below KX.out B1.out) bb
    have m0 : wb.cell? ⟨w.heap.size, 0, none⟩ = some (.int .i64 e) := by rw [blk_cell kb]; rfl
    have m1 : wb.cell? ⟨w.heap.size, 1, none⟩ = some (.slice a n c) := by rw [blk_cell kb]; rfl
    have m2 : wb.cell? ⟨w.heap.size, 2, none⟩ = some (.slice sa sn sc) := by rw [blk_cell kb]; rfl
    rw [hwb] at m0 m1 m2
    have CV := Lib.hid (rvalid_any e1 a1 n1 c1 l1 e a n c l sa sn sc sigs wb (ints_of_sl (HS1.out.old bb)) (ints_of_sl (HI.out.old (bthen B1.out bb))) (HS.out.old (bthen B1.out bb)))
    have BB := Lib.hid (bthen B1.out bb)
    rw [← HXE.out] at CV
    clear HXE
    clear kb bb
    go_wp2_with fail
    rw [← hwb]
    clear hwb m0 m1 m2
    refine CV.out.mono ?_
    rintro r w2 ⟨rfl, b2⟩
    have B2 := Lib.hid (bthen BB.out b2)
    clear b2 CV BB
    by_cases hx0 : x = 0
    · subst hx0
      obtain ⟨vl, xl, a5, n5, k5, hp2, _, _, o2, e2, r2⟩ := (HT.out.old B2.out).ex
      obtain ⟨al2, cl2, rfl⟩ := owns_form o2
      have kb2 := blk_below KX.out B2.out
      have m0 : w2.cell? ⟨w.heap.size, 0, none⟩ = some (.int .i64 e) := by rw [blk_cell kb2]; rfl
      have m1 : w2.cell? ⟨w.heap.size, 1, none⟩ = some (.slice a n c) := by rw [blk_cell kb2]; rfl
      have m2 : w2.cell? ⟨w.heap.size, 2, none⟩ = some (.slice sa sn sc) := by rw [blk_cell kb2]; rfl
      have p2 : w2.cell? ⟨q, 2, none⟩ = some (.slice al2 L.length cl2) := by rw [blk_cell hp2]; rfl
      have CP := Lib.hid (fun (w' : World) (hb : Below w2.heap.size w2 w') => copied_any e a n c l sa sn sc sigs w' (HI.out.old (bthen B2.out hb)) (HS.out.old (bthen B2.out hb)))
      have HP2 := Lib.hid hp2; have O2 := Lib.hid o2; have E2 := Lib.hid e2; have R2 := Lib.hid r2
      have HT2 := Lib.hid (HT.out.old B2.out)
      have lq2 := blk_lt hp2
      have k1 : L.length + 1 ≤ maxLen := by simp only [maxLen]; omega
      have k2 : (L.length + 1) * 56 ≤ 140737488355328 := by omega
      have hB2 := Lib.hid (show B ≤ w2.heap.size by have := B2.out.size; have := HW.out; omega)
      have HL2 := Lib.hid hl2
      clear hp2 o2 e2 r2 kb2 hl2
      go_wp2_with fail
      go_region_law (first
        | (refine step_at 22 rfl ?_; refine step_calls rfl 22 #[.agg #[.int .i64 e, .slice a n c, .slice sa sn sc]] (by go_simp) (CP.out _ (below_drewN (Below.refl _ _) 1)) ?_; rintro r w6 ⟨a6, c6, s6, d6, rfl, ho5, ho6, hd6, b6⟩; refine ⟨_, rfl, ?_⟩; have q0 := below_cell b6 (w := w2.drew) (b := q) (o := 2) (v := .slice al2 L.length cl2) (by simpa using p2); have q1 : (w6.alloc (.cells #[.int .i64 e, .slice a6 n c6, .slice s6 sn d6] 27)).cell? ⟨q, 2, none⟩ = some (.slice al2 L.length cl2) := below_cell (below_alloc w6 _) q0; have l6 := Lib.hid (show B ≤ w6.heap.size by have := b6.size; have := hB2.out; simp at *; omega); have hp6 := Lib.hid (show w6.heap[q]? = some (.cells #[.int .i64 c0.1, .slice a5 n5 k5, .slice al2 L.length cl2] 75 (0, 0)) by rw [b6.block q (by show q < w2.drew.heap.size; simpa using lq2)]; exact HP2.out))
        | (refine step_append_lies _ rfl (.tmp 27) (.tmp 30) 36 rfl B 27 il (.agg #[.int .i64 0, .slice none 0 0, .slice none 0 0]) 3 56 Try.underlying36 hil hl0 hl1 HL2.out rfl (by decide) (.slice al2 L.length cl2) L.length xl (by rfl) (by exact owns_old (owns_old O2.out (below_drewN (Below.refl _ _) 1)) (bthen b6 (below_alloc _ _))) ⟨w6.heap.size, 0, none⟩ 1 1 [.int .i64 e, .slice a6 n c6, .slice s6 sn d6] (by rfl) rfl (by exact link_new _ _ _ _ _ _ _ _ _) (by simp [Value.oneCell']) (by decide) k1 k2 (by have := l6.out; simp; omega) _ rfl ?_; intro g cap w8 hown8 hg8 hor8 hlt8; have hp8 := Lib.hid (show w8.heap[q]? = some (.cells #[.int .i64 c0.1, .slice a5 n5 k5, .slice al2 L.length cl2] 75 (0, 0)) by rw [hg8.block q (by have := blk_lt hp6.out; simp; omega) (by rw [E2.out]; exact Ne.symm HT2.out.nol), Below.heap_alloc _ _ _ (blk_lt hp6.out)]; exact hp6.out); have m8 : w8.cell? ⟨q, 2, none⟩ = some (.slice al2 L.length cl2) := (by rw [blk_cell hp8.out]; rfl); have m9 : w8.frozen? ⟨q, 2, none⟩ = false := blk_frozen hp8.out 2))
      all_goals
        have hz6 : w2.heap.size ≤ w6.heap.size := by have := b6.size; simpa using this
        have hw2 : w.heap.size ≤ w2.heap.size := by have := B2.out.size; have := HW.out; omega
        have ho5' := owns_lower (owns_old ho5 (below_alloc w6 (.cells #[.int .i64 e, .slice a6 n c6, .slice s6 sn d6] 27))) (show w2.heap.size ≤ w2.drew.heap.size by simp)
        have ho6' := owns_lower (owns_old ho6 (below_alloc w6 (.cells #[.int .i64 e, .slice a6 n c6, .slice s6 sn d6] 27))) (show w2.heap.size ≤ w2.drew.heap.size by simp)
        have hb7 : Below w2.heap.size w2 (w6.alloc (.cells #[.int .i64 e, .slice a6 n c6, .slice s6 sn d6] 27)) := bthen (bthen (below_drewN (Below.refl _ _) 1) b6) (below_alloc _ _)
        have HG := RTrk.grow (C := w6.heap.size) HT2.out HP2.out R2.out E2.out hb7 ho5' ho6' (fun k hk => (ho5.lt k hk).2) (fun k hk => (ho6.lt k hk).2) (by simp) HI.out.len HS.out.len he (ints_of_sl HI.out).fit (sl_fit HS.out) HI.out.bytes HS.out.bytes hown8 (by rw [E2.out] at hg8; exact hg8) (by
          rcases hor8 with h8 | h8
          · left; rw [← E2.out, h8]; rfl
          · right; exact ⟨g, rfl, by rw [h8]; simp, by rw [h8]; simp; omega⟩)
        obtain ⟨⟨X1, hx1, ht1⟩, hk1⟩ := HG
        have HF := Lib.hid (show ∃ X' ol', (ol' = ol ∨ ∃ k, ol' = some k ∧ w.heap.size ≤ k) ∧ XSub X X' w ∧ RTrk X' (w8.setCell ⟨q, 2, none⟩ (.slice (some ⟨g, 0, none⟩) (L.length + 1) cap)) B q ol' c0 (L ++ [((e, l), sigs)]) ∧ Keep (rX q ol) w (w8.setCell ⟨q, 2, none⟩ (.slice (some ⟨g, 0, none⟩) (L.length + 1) cap)) from
          ⟨X1, _, by
            rcases hor8 with h8 | h8
            · left; rw [← E2.out, h8]; rfl
            · right; exact ⟨g, rfl, by rw [h8]; simp; omega⟩, (XSub.refl X w).trans hx1 hw2, ht1, (Keep.of_below (bthen BA.out B2.out)).trans hk1 (fun _ _ h => h)⟩)
        clear ho5' ho6' hb7 hx1 ht1 hk1 hown8 hg8 hor8 ho5 ho6 b6 m8 m9 q0 q1 hp8
        go_wp2_with fail
        go_ret
        exact ⟨rfl, fun h => (h rfl).elim, fun _ => HF.out⟩
    · have hx0' : (x == 0) = false := by simpa using hx0
      go_wp2_with fail
      go_ret
      exact ⟨rfl, fun _ => bthen BA.out B2.out, fun h => (hx0 h).elim⟩
  · omega
end Go.Proofs.Ytdeomokhjmnfhaa
