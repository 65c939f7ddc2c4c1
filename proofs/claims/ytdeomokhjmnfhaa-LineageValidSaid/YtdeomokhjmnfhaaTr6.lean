
/- Walk of Chain. -/
import Derived.Test.YtdeomokhjmnfhaaTr5
namespace Go.Proofs.Ytdeomokhjmnfhaa
open Go.RowKit
set_option linter.unusedVariables false

/-- A link whose lists are the owner's own, from block B on. -/
def shOLink (B : Nat) : Sh Lk where
  k := 3
  bs := 56
  E := fun w y cs => ∃ a n c sa sn sc, cs = [.int .i64 y.1.1, .slice a n c, .slice sa sn sc] ∧ i64 y.1.1 ∧ w.ownsRow B 3 1 (.slice a n c) n (intsV y.1.2) ∧ y.1.2.length = n ∧ (∀ x ∈ y.1.2, i64 x) ∧ n * 8 ≤ 140737488355328 ∧
    w.ownsRow B 62 2 (.slice sa sn sc) sn (sigV y.2) ∧ y.2.length = sn ∧ (∀ s ∈ y.2, i64 s.1 ∧ s.2.size ≤ 140737488351232) ∧ sn * 24 ≤ 140737488355328
  sz := fun _ => 0
  len := fun ⟨a, n, c, sa, sn, sc, h, _⟩ => by rw [h]; rfl
  old := fun ⟨a, n, c, sa, sn, sc, h, he, h1, h2, h3, h4, h5, h6, h7, h8⟩ hb => ⟨a, n, c, sa, sn, sc, h, he, owns_old h1 hb, h2, h3, h4, owns_old h5 hb, h6, h7, h8⟩
theorem olink_link {B : Nat} {w : World} {y : Lk} {cs : List Value} (h : (shOLink B).E w y cs) : shLink.E w y cs := by
  obtain ⟨a, n, c, sa, sn, sc, rfl, he, h1, h2, h3, h4, h5, h6, h7, h8⟩ := h
  exact ⟨[.int .i64 y.1.1, .slice a n c], [.slice sa sn sc], rfl, ⟨[.int .i64 y.1.1], [.slice a n c], rfl, ⟨rfl, he⟩, a, n, c, rfl, ints_row h1 h2 h3 h4⟩, sa, sn, sc, rfl, sigs_row h5 h6 h7 h8⟩
def chainL (cs : List Cf) (ss : List (List Sg)) : List Lk := cs.tail.zip ss
theorem chainL_get {cs : List Cf} {ss : List (List Sg)} {i : Nat} {c : Cf} {s : List Sg} (h1 : cs[i + 1]? = some c) (h2 : ss[i]? = some s) : (chainL cs ss)[i]? = some (c, s) := by
  rw [chainL, List.getElem?_zip_eq_some]
  exact ⟨by rw [List.getElem?_tail]; exact h1, h2⟩

theorem link_new (w : World) (e : Int) (a : Option Addr) (n c : Nat) (sa : Option Addr) (sn sc : Nat) (t : TypeId) : ∀ j u, [Value.int .i64 e, .slice a n c, .slice sa sn sc][j]? = some u → (w.alloc (.cells #[.int .i64 e, .slice a n c, .slice sa sn sc] t)).cell? ((⟨w.heap.size, 0, none⟩ : Addr).add j) = some u := by
  intro j u h
  rw [Addr.add_lit, blk_cell (blk_alloc w _), ← h]
  simp
theorem info_link' : (Try.prog.info? 27).map (fun i => (i.zero, i.size, i.bytes)) = some (some (.agg #[.int .i64 0, .slice none 0 0, .slice none 0 0]), 3, 56) := by kernel_rfl

def ChainPost (l : List Lk) (w : World) (r : Ending) (w' : World) : Prop :=
  Below w.heap.size w w' ∧ ∃ a c xs, r = .returned (.slice a l.length c) ∧ w'.ownsRow w.heap.size 27 3 (.slice a l.length c) l.length xs ∧ rowOf (shOLink w.heap.size) (fun j => j < w.heap.size ∨ (Value.slice a l.length c).ownBlock = some j) w' l xs

set_option maxHeartbeats 1000000 in
theorem chain_any (B p : Nat) (oc os : Option Nat) (cs : List Cf) (ss : List (List Sg)) (w : World) (h : Trk w B p oc os cs ss) (hcl : cs.length = ss.length + 1) (hsl : ss.length ≤ 100) :
    Calls Try.prog 13 #[.pointer (some ⟨p, 0, none⟩)] w (ChainPost (chainL cs ss) w) := by
  obtain ⟨il, hil, hl0, hl1, hl2⟩ := info_parts info_link'
  obtain ⟨ac, cc, ag, cg, hp, hC, hG⟩ := h.view (by omega) (by omega)
  have p0 : w.cell? ⟨p, 0, none⟩ = some (.slice ac cs.length cc) := by rw [blk_cell hp]; rfl
  have p1 : w.cell? ⟨p, 1, none⟩ = some (.slice ag ss.length cg) := by rw [blk_cell hp]; rfl
  have HC := Lib.hid hC; have HG := Lib.hid hG; have HP := Lib.hid hp
  generalize hn : ss.length = n at *
  have hn0 : (0 : Int) ≤ (n : Int) := by omega
  have HCL := Lib.hid hcl; have HN := Lib.hid hn
  clear h hp hC hG hcl hn
  go_enter Try.func13, Try.ntmps13
  go_wp2_with (first | (at_make; refine wpList_make_own _ rfl _ _ 36 rfl w.heap.size 27 il (.agg #[.int .i64 0, .slice none 0 0, .slice none 0 0]) 3 Try.underlying36 hil hl0 hl1 _ _ _ n rfl rfl rfl (by rw [hl2]; omega) (by simp only [maxLen]; omega) (Nat.le_refl _) ?_) | fail)
  intro w1 hown hgrow
  have hb1 := Lib.hid (show Below w.heap.size w w1 from (Below.refl _ w).grown hgrow (Nat.le_refl _) (fun k hk => by cases hk))
  have q0 := below_cell hb1.out p0
  have q1 := below_cell hb1.out p1
  have HO0 := Lib.hid hown
  have HL2 := Lib.hid hl2
  clear hown hgrow p0 p1 hl2
  have HL := Lib.hid hil
  go_wp2_with fail
  go_loopw [3, 19] (fun v i wr => ∃ k : Nat, k ≤ n ∧ i = .int .i64 k ∧ Hid (∃ a c xs, v = .slice a k c ∧ wr.ownsRow w.heap.size 27 3 (.slice a k c) k xs ∧ rowOf (shOLink w.heap.size) (fun j => j < w.heap.size ∨ (Value.slice a k c).ownBlock = some j) wr ((chainL cs ss).take k) xs) ∧ Hid (Below w.heap.size w wr)) (fun _ i _ => n - (intOf i).toNat)
  case atStart => exact ⟨0, by omega, rfl, Lib.hid ⟨_, _, [], rfl, HO0.out, rfl⟩, hb1⟩
  case round =>
    clear HO0 q0 q1
    obtain ⟨k, hk, rfl, Hv, Hb⟩ := hrel
    have q0 : wr.cell? ⟨p, 0, none⟩ = some (.slice ac cs.length cc) := by rw [blk_cell (blk_below HP.out Hb.out)]; rfl
    have q1 : wr.cell? ⟨p, 1, none⟩ = some (.slice ag n cg) := by rw [blk_cell (blk_below HP.out Hb.out)]; rfl
    by_cases hlt : k < n
    · obtain ⟨av, cv, xs, rfl, ho, hr⟩ := Hv.out
      obtain ⟨⟨e, l⟩, hcm⟩ : ∃ y, cs[k + 1]? = some y := ⟨_, List.getElem?_eq_getElem (by rw [HCL.out]; omega)⟩
      obtain ⟨sg, hsm⟩ : ∃ y, ss[k]? = some y := ⟨_, List.getElem?_eq_getElem (by rw [HN.out]; omega)⟩
      obtain ⟨b, o, a', n', c', rfl, d0, d1, he0, hs0⟩ := conf_cells (HC.out.old Hb.out) hcm
      obtain ⟨b2, o2, ys, rfl, ⟨sa, sn, sc, rfl, hS⟩, hys⟩ := (HG.out.old Hb.out).cell k _ hsm
      have d2 := hys 0 _ rfl
      simp only [Nat.add_zero, show shSig.slice.k = 1 from rfl, Nat.mul_one] at d2
      have HK := Lib.hid (chainL_get hcm hsm)
      have HO := Lib.hid ho; have HR := Lib.hid hr; have HS0 := Lib.hid hs0; have HS := Lib.hid hS
      have hki : IntKind.i64.wrap ((k : Int) + 1) = ((k + 1 : Nat) : Int) := IntWalk.i64_in _ (by omega)
      have hk1 : k + 1 < cs.length := by rw [HCL.out]; omega
      clear ho hr hs0 hS hys hcm hsm Hv
      go_wp2_with fail
      refine (own_any e a' n' c' l wr (ints_of_sl HS0.out) (fun hn => ⟨HS0.out.nil hn, by have := HS0.out.nil hn; have := HS0.out.cap; omega⟩) HS0.out.bytes).mono ?_
      rintro r w6 ⟨a6, c6, rfl, ho6, b6⟩
      have HO6 := Lib.hid ho6; have B6 := Lib.hid b6
      clear ho6 b6 q0 q1 d0 d1 d2
      go_wp2_with fail
      refine (clone_sigs sa sn sc sg w6 (HS.out.old B6.out)).mono ?_
      rintro r w7 ⟨v7, rfl, ho7, b7⟩
      obtain ⟨a7, c7, rfl⟩ := owns_form ho7
      have HO7 := Lib.hid ho7; have B7 := Lib.hid b7
      have hzr := Hb.out.size; have hz6 := b7.size; have hz5 := B6.out.size
      clear ho7 b7
      have k1 : k + 1 ≤ maxLen := by simp only [maxLen]; omega
      have k2 : (k + 1) * 56 ≤ 140737488355328 := by omega
      have HOW := Lib.hid (owns_old HO.out (bthen (bthen B6.out B7.out) (below_alloc w7 (.cells #[.int .i64 e, .slice a6 n' c6, .slice a7 sn c7] 27))))
      go_wp2_with (first | (at_builtin; refine wpList_append_lies _ rfl (.tmp 24) (.tmp 37) 36 rfl w.heap.size 27 il (.agg #[.int .i64 0, .slice none 0 0, .slice none 0 0]) 3 56 Try.underlying36 hil hl0 hl1 HL2.out rfl (by decide) (.slice av k cv) k xs rfl HOW.out ⟨w7.heap.size, 0, none⟩ 1 1 [.int .i64 e, .slice a6 n' c6, .slice a7 sn c7] rfl rfl (link_new w7 e a6 n' c6 a7 sn c7 _) (by simp [Value.oneCell']) (by decide) k1 k2 (by simp; omega) _ rfl ?_) | fail)
      intro g cap w8 hown8 hg8 hor8 hlt8
      have HN8 := Lib.hid (show (∃ a c xs', Value.slice (some ⟨g, 0, none⟩) (k + 1) cap = .slice a (k + 1) c ∧ w8.ownsRow w.heap.size 27 3 (.slice a (k + 1) c) (k + 1) xs' ∧ rowOf (shOLink w.heap.size) (fun j => j < w.heap.size ∨ (Value.slice a (k + 1) c).ownBlock = some j) w8 ((chainL cs ss).take (k + 1)) xs') ∧ Below w.heap.size w w8 by
        have hb7 := bthen (bthen B6.out B7.out) (below_alloc w7 (.cells #[.int .i64 e, .slice a6 n' c6, .slice a7 sn c7] 27))
        have hb6 := bthen B7.out (below_alloc w7 (.cells #[.int .i64 e, .slice a6 n' c6, .slice a7 sn c7] 27))
        have K8 : Keep (fun j => (Value.slice av k cv).ownBlock = some j) wr w8 := (Keep.of_below hb7).grown hg8 (fun k hk => .inr hk)
        have K6 : Keep (fun j => (Value.slice av k cv).ownBlock = some j) w6 w8 := (Keep.of_below hb6).grown hg8 (fun k hk => .inr hk)
        have K7 : Keep (fun j => (Value.slice av k cv).ownBlock = some j) w7 w8 := (Keep.of_below (below_alloc w7 _)).grown hg8 (fun k hk => .inr hk)
        have hol := HO.out.lt
        refine ⟨⟨_, _, _, rfl, hown8, ?_⟩, grown_below (bthen Hb.out hb7) hg8 (fun j hj => (hol j hj).1)⟩
        rw [List.take_add_one, HK.out]
        have m6 := owns_keep HO6.out K6 (fun j hj hc => by have := (HO6.out.lt j hj).1; have := (hol j hc).2; omega)
        have m7 := owns_keep HO7.out K7 (fun j hj hc => by have := (HO7.out.lt j hj).1; have := (hol j hc).2; omega)
        refine (HR.out.step K8 (fun j _ hj => .inr hj) (fun j hj hx => ?_)).snoc rfl (fun w' hk' => ⟨a6, n', c6, a7, sn, c7, rfl, he0, owns_lower (owns_keep m6 hk' (fun j hj hx => ?_)) hzr, HS0.out.len, (ints_of_sl HS0.out).fit, HS0.out.bytes, owns_lower (owns_keep m7 hk' (fun j hj hx => ?_)) (by omega), HS.out.len, sl_fit HS.out, HS.out.bytes⟩)
        · rcases hx with hx | hx
          · exact .inl hx
          · have hx : some g = some j := hx
            injection hx with hx; subst hx
            rcases hor8 with h8 | h8
            · exact .inr h8
            · omega
        · have h1 := HO6.out.lt j hj
          rcases hx with hx | hx
          · omega
          · have hx : some g = some j := hx
            injection hx with hx; subst hx
            rcases hor8 with h8 | h8
            · have := (hol _ h8).2; omega
            · omega
        · have h1 := HO7.out.lt j hj
          rcases hx with hx | hx
          · omega
          · have hx : some g = some j := hx
            injection hx with hx; subst hx
            rcases hor8 with h8 | h8
            · have := (hol _ h8).2; omega
            · omega)
      clear hown8 hg8 hor8 hlt8
      go_wp2_with fail
      go_roundw
      case rel => exact ⟨k + 1, by omega, rfl, Lib.hid HN8.out.1, Lib.hid HN8.out.2⟩
      case measure => simp [intOf]; omega
    · obtain ⟨av, cv, xs, rfl, ho, hr⟩ := Hv.out
      obtain rfl : k = n := by omega
      have HO := Lib.hid ho; have HR := Lib.hid hr
      clear ho hr Hv
      go_wp2_with fail
      go_ret
      have hlen : (chainL cs ss).length = k := by rw [chainL, List.length_zip, List.length_tail, HCL.out, HN.out]; omega
      refine ⟨Hb.out, ?_⟩
      rw [hlen]
      exact ⟨av, cv, xs, rfl, HO.out, by have := HR.out; rwa [List.take_of_length_le (Nat.le_of_eq hlen)] at this⟩
end Go.Proofs.Ytdeomokhjmnfhaa
