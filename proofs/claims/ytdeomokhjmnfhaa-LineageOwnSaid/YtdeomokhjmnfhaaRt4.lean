
/- Walk of the reference's Take. -/
import Derived.Test.YtdeomokhjmnfhaaRt3
namespace Go.Proofs.Ytdeomokhjmnfhaa
open Go.RowKit
attribute [local irreducible] wpQuiet
set_option linter.unusedVariables false

def RTakePost (X : Nat → Prop) (B q : Nat) (ol : Option Nat) (c0 : Cf) (chain : List Lk) (x : Int) (w : World) (r : Ending) (w' : World) : Prop :=
  r = .returned (.int .i64 x) ∧ (x ≠ 0 → Below w.heap.size w w') ∧ (x = 0 → ∃ X' ol', (∀ j, rX q ol' j → rX q ol j ∨ w.heap.size ≤ j) ∧ XSub X X' w ∧ RTrk X' w' B q ol' c0 chain ∧ Keep (rX q ol) w w')

/-- The new list put in. -/
theorem RTrk.put {X XF : Nat → Prop} {w w' : World} {B q f : Nat} {ol olF : Option Nat} {c0 : Cf} {L chain : List Lk} {e0 : Int} {a : Option Addr} {n c : Nat} {vl vF : Value} (h : RTrk X w B q ol c0 L) (hF : RTrk XF w' w.heap.size f olF c0 chain) (hx : XSub X XF w) (hb : Below w.heap.size w w') (hB : B ≤ w.heap.size)
    (hp : w'.heap[q]? = some (.cells #[.int .i64 e0, .slice a n c, vl] 75 (0, 0))) (hf : ∃ e1 a1 n1 c1, w'.heap[f]? = some (.cells #[.int .i64 e1, .slice a1 n1 c1, vF] 75 (0, 0))) :
    ∃ X' ol', (∀ j, rX q ol' j → rX q ol j ∨ w.heap.size ≤ j) ∧ XSub X X' w ∧ RTrk X' (w'.setCell ⟨q, 2, none⟩ vF) B q ol' c0 chain ∧ Keep (rX q ol) w (w'.setCell ⟨q, 2, none⟩ vF) := by
  obtain ⟨hql, _⟩ := h.lt
  obtain ⟨vl0, xl0, a0, n0, k0, hp0, he0, hI0, _⟩ := (h.old hb).ex
  rw [hp] at hp0
  obtain ⟨rfl, ⟨rfl, rfl, rfl⟩, rfl⟩ : e0 = c0.1 ∧ (a = a0 ∧ n = n0 ∧ c = k0) ∧ vl = vl0 := by simpa using hp0
  obtain ⟨vf, xf, af, nf, kf, hpf, _, _, of, ef, rf⟩ := hF.ex
  obtain ⟨e1, a1, n1, c1, hf⟩ := hf
  rw [hf] at hpf
  obtain ⟨_, _, rfl⟩ : e1 = c0.1 ∧ (a1 = af ∧ n1 = nf ∧ c1 = kf) ∧ vF = vf := by simpa using hpf
  have hK : Keep (rX q ol) w (w'.setCell ⟨q, 2, none⟩ vF) := (Keep.of_below hb).set (.inr (.inl rfl)) 2 vF
  have hK' : Keep (fun k => k = q) w' (w'.setCell ⟨q, 2, none⟩ vF) := (Keep.refl (fun k => k = q) w').set (p := q) (.inr rfl) 2 vF
  have hol : ∀ k, olF = some k → w.heap.size ≤ k := fun k hk => (hF.lt.2 k hk).1
  have hXq : XF q := hx.2 q hql (h.own q (.inl rfl))
  refine ⟨XF, olF, fun j hj => ?_, hx, ⟨h.hB, fun hc => by have := hol q hc; omega, fun k hk => ?_, fun k hk => hF.new k (by simpa [World.setCell] using hk), vF, xf, a, n, c, by rw [blk_set hp]; rfl, he0, ?_, ?_, ef, rf.step hK' (fun k _ hk => by rw [hk]; exact hXq) (fun _ _ h => h)⟩, hK⟩
  · rcases hj with hj | hj
    · exact .inl (.inl hj)
    · exact .inr (hol j hj)
  · rcases hk with rfl | hk
    · exact hXq
    · exact hF.own k (.inr hk)
  · exact hI0.step hK' (fun k _ hk => by rw [hk]; exact h.own q (.inl rfl)) (fun k _ hk => hx.1 k hk)
  · exact owns_setother (owns_lower of hB) (by rw [ef]; exact fun hc => by have := hol q hc; omega) 2 vF

set_option maxHeartbeats 2000000 in
theorem rtake_any (X : Nat → Prop) (B q : Nat) (ol : Option Nat) (c0 : Cf) (L : List Lk) (a : Option Addr) (n c : Nat) (chain : List Lk) (w : World)
    (h : RTrk X w B q ol c0 L) (hB : B ≤ w.heap.size) (hL : L.length ≤ 900) (hc : SlAt shLink w a n c chain) :
    Calls Try.prog 40 #[.pointer (some ⟨q, 0, none⟩), .slice a n c] w (RTakePost X B q ol c0 chain (takeC c0 (L.map (·.1)) chain) w) := by
  have hlen := hc.len
  have hmax := Nat.le_trans hc.cap hc.max
  by_cases hn : n ≤ 64
  · obtain ⟨x, hxv⟩ : ∃ x, x = takeC c0 (L.map (·.1)) chain := ⟨_, rfl⟩
    rw [← hxv]
    have HXV := Lib.hid (show x = checkC c0 (c0 :: L.map (·.1)) chain by rw [hxv, takeC, if_neg (by omega)])
    have hn64 : decide (64 < (n : Int)) = false := by simp; omega
    obtain ⟨a0, n0, k0, al, cl, hp, he0, hI0, hS0⟩ := h.view (by omega)
    have p0 : w.cell? ⟨q, 0, none⟩ = some (.int .i64 c0.1) := by rw [blk_cell hp]; rfl
    have p1 : w.cell? ⟨q, 1, none⟩ = some (.slice a0 n0 k0) := by rw [blk_cell hp]; rfl
    have lq := blk_lt hp
    have bF := below_alloc w (.cells #[.int .i64 c0.1, .slice a0 n0 k0, .slice none 0 0] 75)
    have HF := Lib.hid (show RTrk X (w.alloc (.cells #[.int .i64 c0.1, .slice a0 n0 k0, .slice none 0 0] 75)) w.heap.size w.heap.size none c0 [] from by
      obtain ⟨vl0, xl0, a1, n1, k1, hp1, _, hI1, _⟩ := h.ex
      rw [hp] at hp1
      obtain ⟨⟨rfl, rfl, rfl⟩, _⟩ : (a0 = a1 ∧ n0 = n1 ∧ k0 = k1) ∧ _ := by simpa using hp1
      refine ⟨Nat.le_refl _, by simp, fun k hk => ?_, fun k hk => h.new k (by simp at hk; omega), .slice none 0 0, [], a0, n0, k0, blk_alloc _ _, he0, hI1.step (Keep.of_below (X := fun _ => False) bF) (fun _ _ h => h.elim) (fun _ _ h => h), World.ownsRow_nil _ _ _ _, rfl, rfl⟩
      rcases hk with rfl | hk
      · exact h.new _ (Nat.le_refl _)
      · cases hk)
    have HT := Lib.hid h; have HC := Lib.hid hc; have HL := Lib.hid hlen; have BF := Lib.hid bF; have HP := Lib.hid hp; have HS0 := Lib.hid hS0
    have hNl : (L.map (·.1)).length = L.length := List.length_map _
    clear h hc hlen hp he0 hI0 hS0 hxv bF hNl
    go_enter Try.func40, Try.ntmps40
    go_wp2_with fail
    clear p0 p1
    go_loopw [6] (fun i wr => ∃ k : Nat, k ≤ n ∧ i = .int .i64 k ∧ Hid (∃ XF olF, RTrk XF wr w.heap.size w.heap.size olF c0 (chain.take k) ∧ XSub X XF w ∧ Below w.heap.size w wr ∧ w.heap.size ≤ wr.heap.size ∧ chainC c0 (chain.take k) = 0)) (fun i _ => n - (intOf i).toNat)
    case atStart => exact ⟨0, by omega, rfl, Lib.hid ⟨X, none, HF.out, XSub.refl X w, BF.out, BF.out.size, rfl⟩⟩
    case round =>
      clear HF BF
      obtain ⟨k, hk, rfl, HR⟩ := hrel
      obtain ⟨XF, olF, hF, hxs, hb, hz, hch⟩ := HR.out
      by_cases hlt : k < n
      · obtain ⟨⟨⟨e, l⟩, sg⟩, hy⟩ : ∃ y, chain[k]? = some y := ⟨_, List.getElem?_eq_getElem (by rw [HL.out]; exact hlt)⟩
        obtain ⟨b, o, a1, n1, c1, sa, sn, sc, rfl, m0, m1, m2, he, hs1, hg1⟩ := link_cells (HC.out.old hb) hy
        have hj0 : (0 : Int) ≤ (k : Int) := by omega
        have hj1 : (k : Int) < (n : Int) := by omega
        have CA := radd_any XF w.heap.size w.heap.size olF c0 (chain.take k) e a1 n1 c1 l sa sn sc sg wr hF hz (by simp; omega) he hs1 hg1
        obtain ⟨v, hv⟩ : ∃ v, v = validC (lastC c0 (chain.take k)).1 (lastC c0 (chain.take k)).2 e l sg := ⟨_, rfl⟩
        rw [← hv] at CA
        have hsn := chainC_snoc (chain.take k) c0 ((e, l), sg) hch
        rw [← hv, show chain.take k ++ [((e, l), sg)] = chain.take (k + 1) by rw [List.take_add_one, hy]; rfl] at hsn
        have CA := Lib.hid CA
        have HSN := Lib.hid hsn; have HXS := Lib.hid hxs; have HB := Lib.hid hb; have HF := Lib.hid hF
        have HTK := Lib.hid (show chain.take k ++ [((e, l), sg)] = chain.take (k + 1) by rw [List.take_add_one, hy]; rfl)
        clear hF hxs hb hch hy he hs1 hg1 hv hsn HR
        go_wp2_with fail
        refine CA.out.mono ?_
        rintro r w2 ⟨rfl, h1, h2⟩
        by_cases hv0 : v = 0
        · subst hv0
          obtain ⟨X2, ol2, h3, h4, h5, h6⟩ := h2 rfl
          have HN := Lib.hid (show ∃ XF olF, RTrk XF w2 w.heap.size w.heap.size olF c0 (chain.take (k + 1)) ∧ XSub X XF w ∧ Below w.heap.size w w2 ∧ w.heap.size ≤ w2.heap.size ∧ chainC c0 (chain.take (k + 1)) = 0 from
            ⟨X2, ol2, by rw [← HTK.out]; exact h5, HXS.out.trans h4 hz, h6.below HB.out (fun k hk => rX_ge HF.out k hk), Nat.le_trans hz h6.size, HSN.out⟩)
          clear h1 h2 h3 h4 h5 h6 CA HSN HXS HB HF HTK m0 m1 m2
          go_wp2_with fail
          go_roundw
          case rel => exact ⟨k + 1, by omega, by go_num, HN⟩
          case measure => simp [intOf]; omega
        · have B2 := Lib.hid (bthen HB.out (h1 hv0))
          have HV := Lib.hid (show x = v from by
            have h3 : chainC c0 (chain.take (k + 1)) ≠ 0 := by rw [HSN.out]; exact hv0
            have h4 := chainC_bad (chain.take (k + 1)) (chain.drop (k + 1)) c0 h3
            rw [List.take_append_drop, HSN.out] at h4
            rw [HXV.out, checkC, h4, if_pos hv0])
          have hv0' : (v != 0) = true := by simpa using hv0
          clear h1 h2 CA HSN HXS HB HF HTK m0 m1 m2
          go_wp2_with fail
          go_ret
          exact ⟨by rw [HV.out]; rfl, fun _ => B2.out, fun h => (hv0 (by rw [← HV.out]; exact h)).elim⟩
      · obtain rfl : n = k := by omega
        rw [List.take_of_length_le (by rw [HL.out]; exact Nat.le_refl _)] at hF hch
        have HF := Lib.hid hF; have HXS := Lib.hid hxs; have HB := Lib.hid hb; have HCH := Lib.hid hch
        clear hF hxs hb hch HR
        go_wp2_with fail
        obtain ⟨wo, rfl⟩ : ∃ wo : World, wo = wr := ⟨_, rfl⟩
        go_loopw [8] (fun i wr => ∃ k : Nat, k ≤ n ∧ k ≤ L.length ∧ i = .int .i64 k ∧ Hid (∀ j, j < k → ¬ Differs (c0 :: L.map (·.1)) chain j) ∧ Hid (Below wo.heap.size wo wr)) (fun i _ => n - (intOf i).toNat)
        case atStart => exact ⟨0, by omega, by omega, rfl, Lib.hid (fun j hj => by omega), Lib.hid (Below.refl _ _)⟩
        case round =>
          clear hlt
          obtain ⟨k, hk, hkL, rfl, HD, Hb⟩ := hrel
          have hb := bthen HB.out Hb.out
          have kp := blk_below HP.out hb
          have p2 : wr.cell? ⟨q, 2, none⟩ = some (.slice al L.length cl) := by rw [blk_cell kp]; rfl
          have lq2 := blk_lt kp
          have HKP := Lib.hid kp
          clear kp
          by_cases hin : k < n ∧ k < L.length
          · obtain ⟨h1, h2⟩ := hin
            obtain ⟨⟨⟨e, l⟩, sg⟩, hy⟩ : ∃ y, chain[k]? = some y := ⟨_, List.getElem?_eq_getElem (by rw [HL.out]; exact h1)⟩
            obtain ⟨⟨⟨e', l'⟩, sg'⟩, hz⟩ : ∃ y, L[k]? = some y := ⟨_, List.getElem?_eq_getElem h2⟩
            obtain ⟨b, o, a1, n1, c1, sa, sn, sc, rfl, m0, m1, m2, he, hs1, hg1⟩ := link_cells (HC.out.old hb) hy
            obtain ⟨b', o', a2, n2, c2, sa', sn', sc', rfl, m0', m1', m2', he', hs1', hg1'⟩ := link_cells (HS0.out.old hb) hz
            have hj0 : (0 : Int) ≤ (k : Int) := by omega
            have hj1 : (k : Int) < (n : Int) := by omega
            have hj2 : (k : Int) < (L.length : Int) := by omega
            have lb := World.block_lt m0
            have lb' := World.block_lt m0'
            have CS := fun (w' : World) (hb : Below wr.heap.size wr w') => sameints_any a1 n1 c1 l a2 n2 c2 l' w' ((ints_of_sl hs1).below hb) ((ints_of_sl hs1').below hb)
            have HY := Lib.hid hy; have HZ := Lib.hid hz
            cases hee : (l == l') with
            | true =>
              rw [hee] at CS
              have CS := Lib.hid CS
              have HDk := Lib.hid (show ∀ j, j < k + 1 → ¬ Differs (c0 :: L.map (·.1)) chain j from fun j hj hd => by
                rcases Nat.lt_or_ge j k with h | h
                · exact HD.out j h hd
                · obtain rfl : j = k := by omega
                  obtain ⟨c, y, h1, h2, h3⟩ := hd
                  rw [HY.out] at h2
                  simp [HZ.out] at h1
                  injection h2 with h2
                  subst h1 h2
                  have hl : l = l' := by simpa using hee
                  exact h3 hl.symm)
              clear hy hz hs1 hs1' hg1 hg1' he he' hee hb
              go_wp2_with fail
              refine wp_region_below (by kernel_rfl) (by kernel_rfl) ?_
              repeat (refine wpQuiet_step (fun K hK => ?_); go_simp; first | (refine hK _ ?_; clear hK K) | (apply Exists.intro; refine ⟨fun w' hw' => ?_, hK _ ?_⟩; (first | (go_at_call 36; exact Calls.quiet_below_drawn hw' (CS.out _ hw')) | (with_reducible rfl) | (obtain ⟨cc, dd⟩ := bcell hw'; go_simp; rfl)); clear hK K))
              refine wpQuiet_nil ?_
              intro w9 h9
              have B9 := Lib.hid (bthen Hb.out h9)
              clear h9 m0 m1 m2 m0' m1' m2' p2
              go_wp2_with fail
              go_roundw
              case rel => exact ⟨k + 1, by omega, by omega, by go_num, HDk, B9⟩
              case measure => simp [intOf]; omega
            | false =>
              rw [hee] at CS
              have CS := Lib.hid CS
              have HV := Lib.hid (show x = 22 from by
                rw [HXV.out, checkC, HCH.out, if_neg (by simp), if_pos]
                exact otherB_true (j := k) ⟨_, _, by simp [HZ.out]; rfl, HY.out, fun h => by simp at hee; exact hee h.symm⟩)
              clear hy hz hs1 hs1' hg1 hg1' he he' hee
              go_wp2_with fail
              refine wp_region_below (by kernel_rfl) (by kernel_rfl) ?_
              repeat (refine wpQuiet_step (fun K hK => ?_); go_simp; first | (refine hK _ ?_; clear hK K) | (apply Exists.intro; refine ⟨fun w' hw' => ?_, hK _ ?_⟩; (first | (go_at_call 36; exact Calls.quiet_below_drawn hw' (CS.out _ hw')) | (with_reducible rfl) | (obtain ⟨cc, dd⟩ := bcell hw'; go_simp; rfl)); clear hK K))
              refine wpQuiet_nil ?_
              intro w9 h9
              have B9 := Lib.hid (bthen hb h9)
              clear h9 m0 m1 m2 m0' m1' m2' p2
              go_wp2_with fail
              go_ret
              exact ⟨by rw [HV.out]; rfl, fun _ => B9.out, fun h => by rw [HV.out] at h; cases h⟩
          · have HO := Lib.hid (show otherB (c0 :: L.map (·.1)) chain = false from otherB_false fun j hj hd => by
              rcases Nat.lt_or_ge j k with h | h
              · exact HD.out j h hd
              · obtain ⟨c, y, h1, h2, _⟩ := hd
                have h3 := (List.getElem?_eq_some_iff.1 h1).1
                simp at h3
                rw [HL.out] at hj
                exact hin ⟨by omega, by omega⟩)
            have htest : decide ((k : Int) < (n : Int)) = true → decide (k < L.length) = false := fun h => by
              simp at h ⊢
              exact Nat.le_of_not_lt fun hc => hin ⟨h, hc⟩
            by_cases hold : n ≤ L.length
            · have HV := Lib.hid (show x = 17 from by
                rw [HXV.out, checkC, HCH.out, if_neg (by simp), HO.out, if_neg (by simp), if_pos (by rw [HL.out]; simp; omega)])
              have hold' : decide (n ≤ L.length) = true := by simpa using hold
              have HBF := Lib.hid hb
              clear hb HD
              by_cases hkn : k < n
              · have hkl : decide (k < L.length) = false := htest (by simpa using hkn)
                clear htest hin
                go_wp2_with fail
                go_ret
                exact ⟨by rw [HV.out]; rfl, fun _ => HBF.out, fun h => by rw [HV.out] at h; cases h⟩
              · clear htest hin
                go_wp2_with fail
                go_ret
                exact ⟨by rw [HV.out]; rfl, fun _ => HBF.out, fun h => by rw [HV.out] at h; cases h⟩
            · have HV := Lib.hid (show x = 0 from by
                rw [HXV.out, checkC, HCH.out, if_neg (by simp), HO.out, if_neg (by simp), if_neg (by rw [HL.out]; simp; omega)])
              have hold' : decide (n ≤ L.length) = false := by simpa using hold
              have hF2 := HF.out.old Hb.out
              obtain ⟨vf, xf, af, nf, kf, hpf, -, -, of, -⟩ := hF2.ex
              obtain ⟨aL, cL, rfl⟩ := owns_form of
              clear of
              have f2 : wr.cell? ⟨w.heap.size, 2, none⟩ = some (.slice aL chain.length cL) := by rw [blk_cell hpf]; rfl
              have pf : ∀ o, wr.frozen? ⟨q, o, none⟩ = false := fun o => blk_frozen HKP.out o
              have HPUT := Lib.hid (HT.out.put hF2 HXS.out hb hB HKP.out ⟨_, _, _, _, hpf⟩)
              clear hb HD hpf hF2
              by_cases hkn : k < n
              · have hkl : decide (k < L.length) = false := htest (by simpa using hkn)
                clear htest hin
                go_wp2_with fail
                go_ret
                exact ⟨by rw [HV.out]; rfl, fun h => (h HV.out).elim, fun _ => HPUT.out⟩
              · omega
  · have HX := Lib.hid (show takeC c0 (L.map (·.1)) chain = 3 by rw [takeC, if_pos (by omega)])
    rw [HX.out]
    have hn64 : decide (64 < (n : Int)) = true := by simp; omega
    clear HX h hc hlen hB hL
    go_enter Try.func40, Try.ntmps40
    go_wp2_with fail
    go_ret
    exact ⟨rfl, fun _ => Below.refl _ _, fun h => by cases h⟩
end Go.Proofs.Ytdeomokhjmnfhaa
