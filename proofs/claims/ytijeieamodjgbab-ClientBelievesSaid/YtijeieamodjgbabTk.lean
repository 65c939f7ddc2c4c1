
/- Slices whose things stay, whatever is done to some blocks; a tracker that is cut to its first configuration; walk of Take. -/
import Derived.Test.YtijeieamodjgbabTr9
import Derived.Deep.RegionHeld3

namespace Go.Proofs.Ytijeieamodjgbab
set_option maxRecDepth 100000
open Go.RowKit
set_option linter.unusedVariables false

/-- A slice that reads as a list, whatever is done to blocks of X. -/
structure RSl {α : Type} (S : Sh α) (X : Nat → Prop) (w : World) (a : Option Addr) (n c : Nat) (l : List α) : Prop where
  sl : SlAt S w a n c l
  el : ∀ i y, l[i]? = some y → ∃ b o cs, a = some ⟨b, o, none⟩ ∧ Rob X (fun w' => S.E w' y cs) w ∧ ∀ j v, cs[j]? = some v → Rob X (fun w' => w'.cell? ⟨b, o + i * S.k + j, none⟩ = some v) w
section
variable {α : Type} {S : Sh α} {X X' Y : Nat → Prop} {w0 w w1 : World} {a : Option Addr} {n c : Nat} {l : List α}
theorem RSl.rob (h : RSl S X w a n c l) : Rob X (fun w' => SlAt S w' a n c l) w := fun w' hk =>
  ⟨h.sl.len, h.sl.cap, h.sl.max, h.sl.bytes, h.sl.nil, fun i y hy => by
    obtain ⟨b, o, cs, ha, hE, hc⟩ := h.el i y hy
    exact ⟨b, o, cs, ha, hE w' hk, fun j v hv => hc j v hv w' hk⟩⟩
theorem RSl.step (h : RSl S X w a n c l) (hk : Keep Y w w1) (hY : ∀ k, k < w.heap.size → Y k → X k) (hX : ∀ k, k < w.heap.size → X' k → X k) : RSl S X' w1 a n c l :=
  ⟨h.rob w1 ⟨hk.os, hk.tape, hk.output, hk.size, fun k h1 h2 => hk.block k h1 (fun hc => h2 (hY k h1 hc))⟩, fun i y hy => by
    obtain ⟨b, o, cs, ha, hE, hc⟩ := h.el i y hy
    exact ⟨b, o, cs, ha, hE.step hk hY hX, fun j v hv => (hc j v hv).step hk hY hX⟩⟩
/-- What is older than all blocks of X. -/
theorem rsl_old (h : SlAt S w0 a n c l) (hb : Below w0.heap.size w0 w) (hX : ∀ k, X k → w0.heap.size ≤ k) : RSl S X w a n c l :=
  ⟨h.old hb, fun i y hy => by
    obtain ⟨b, o, cs, ha, hE, hc⟩ := h.cell i y hy
    exact ⟨b, o, cs, ha, fun w' hk => S.old hE (hk.below hb hX), fun j v hv w' hk => below_cell (hk.below hb hX) (hc j v hv)⟩⟩
theorem rsl_row {B e : Nat} {xs : List Value} (ho : w.ownsRow B e S.k (.slice a n c) l.length xs) (hr : rowOf S X w l xs) (hb : n * S.bs ≤ 140737488355328) (hX : ∀ k, (Value.slice a n c).ownBlock = some k → ¬ X k) : RSl S X w a n c l :=
  ⟨sl_of_row ho hr hb, fun i y hy => by
    obtain ⟨cs, hc, hR, hx⟩ := hr.get hy
    rcases ho.2 with ⟨hv, h0⟩ | ⟨g, cap, cur, hv, hB, hg, hnc, hcm, hs, ht⟩
    · rw [List.eq_nil_of_length_eq_zero h0] at hy; cases hy
    · injection hv with h1 h2 h3
      subst h1
      refine ⟨g, 0, cs, rfl, hR, fun j v hv w' hk => ?_⟩
      have := (owns_keep ho hk hX).cells (g := g) rfl _ _ (hx j v hv)
      rw [Addr.add_lit, Nat.zero_add] at this
      rw [Nat.zero_add]; exact this⟩
end

/-- A tracker that is cut to its first configuration. -/
theorem Trk.cut {X : Nat → Prop} {w : World} {B p : Nat} {oc os : Option Nat} {c0 : Cf} {cs : List Cf} {ss : List (List Sg)} (h : Trk X w B p oc os (c0 :: cs) ss) :
    ∃ g cap vs, w.heap[p]? = some (.cells #[.slice (some ⟨g, 0, none⟩) (cs.length + 1) cap, vs] 98 (0, 0)) ∧ 1 ≤ cap ∧
      Trk X ((w.setCell ⟨p, 0, none⟩ (.slice (some ⟨g, 0, none⟩) 1 cap)).setCell ⟨p, 1, none⟩ (.slice none 0 0)) B p oc none [c0] [] ∧
      Keep (trX p oc os) w ((w.setCell ⟨p, 0, none⟩ (.slice (some ⟨g, 0, none⟩) 1 cap)).setCell ⟨p, 1, none⟩ (.slice none 0 0)) := by
  obtain ⟨vc, vs, xc, xs, hp, h1, e1, r1, h2, e2, r2⟩ := h.ex
  rcases h1.2 with ⟨_, h0⟩ | ⟨g, cap, cur, rfl, hb, hg, hnc, hcm, hs, ht⟩
  · cases h0
  · obtain ⟨cs1, xs', rfl, hl1, hR, _⟩ := r1
    have hgp : g ≠ p := fun hc => h.noc (by rw [← e1, hc]; rfl)
    have hK : Keep (trX p oc os) w ((w.setCell ⟨p, 0, none⟩ (.slice (some ⟨g, 0, none⟩) 1 cap)).setCell ⟨p, 1, none⟩ (.slice none 0 0)) :=
      ((Keep.refl _ _).set (.inr (.inl rfl)) 0 _).set (.inr (.inl rfl)) 1 _
    have h1c : 1 ≤ cap := by have : cs.length + 1 ≤ cap := hnc; omega
    refine ⟨g, cap, vs, hp, h1c, ⟨h.hB, h.noc, by simp, fun k hk => by simp, fun k hk => h.own k (by
      rcases hk with hk | hk | hk
      · exact .inl hk
      · exact .inr (.inl hk)
      · cases hk), fun k hk => h.new k (by simpa [World.setCell] using hk), .slice (some ⟨g, 0, none⟩) 1 cap, .slice none 0 0, cs1, [], ?_, ⟨hl1, .inr ⟨g, cap, cur, rfl, hb, ?_, h1c, hcm, hs, ?_⟩⟩, e1, ?_, World.ownsRow_nil _ _ _ _, rfl, rfl⟩, hK⟩
    · exact blk_set (blk_set hp 0 _) 1 _
    · exact blk_set_other (blk_set_other hg p 0 _ hgp) p 1 _ hgp
    · have hl1' : cs1.length = 2 := hl1
      have h5 : cs1 = (cs1 ++ xs').take 2 := by rw [List.take_append_of_le_length (by omega), List.take_of_length_le (by omega)]
      rw [h5, ← ht, List.take_take]
      congr 1
      show 1 * 2 = min 2 ((cs.length + 1) * 2)
      omega
    · exact ⟨cs1, [], by simp, hl1, hR.step hK (fun k _ hc => h.own k hc) (fun _ _ hc => hc), rfl⟩

def takeC (c0 : Cf) (cs : List Cf) (chain : List Lk) : Int := if 64 < chain.length then 3 else checkC c0 (c0 :: cs) chain
/-- What Take leaves. -/
def TakePost (X : Nat → Prop) (B p : Nat) (oc os : Option Nat) (c0 : Cf) (chain : List Lk) (x : Int) (w : World) (r : Ending) (w' : World) : Prop :=
  r = .returned (.int .i64 x) ∧ (x ≠ 0 → Below w.heap.size w w') ∧ (x = 0 → ∃ X' oc' os', (∀ j, trX p oc' os' j → trX p oc os j ∨ w.heap.size ≤ j) ∧ XSub X X' w ∧ Trk X' w' B p oc' os' (c0 :: chain.map (·.1)) (chain.map (·.2)) ∧ Keep (trX p oc os) w w')

set_option maxHeartbeats 2000000 in
theorem take_any (X : Nat → Prop) (B p : Nat) (oc os : Option Nat) (c0 : Cf) (cs : List Cf) (ss : List (List Sg)) (a : Option Addr) (n c : Nat) (chain : List Lk) (w : World)
    (h : Trk X w B p oc os (c0 :: cs) ss) (hB : B ≤ w.heap.size) (hcl : (c0 :: cs).length ≤ 1000) (hsl : ss.length ≤ 1000) (hc : RSl shLink (trX p oc os) w a n c chain) :
    Calls Try.prog 36 #[.pointer (some ⟨p, 0, none⟩), .slice a n c] w (TakePost X B p oc os c0 chain (takeC c0 cs chain) w) := by
  have hlen := hc.sl.len
  have hmax := Nat.le_trans hc.sl.cap hc.sl.max
  by_cases hn : n ≤ 64
  · have CK := Lib.hid (check_any X B p oc os c0 cs ss a n c chain w h hcl hsl hc.sl (by omega))
    have HX := Lib.hid (show takeC c0 cs chain = checkC c0 (c0 :: cs) chain by rw [takeC, if_neg (by omega)])
    generalize hx : checkC c0 (c0 :: cs) chain = x at *
    have hn64 : decide (64 < (n : Int)) = false := by simp; omega
    rw [HX.out]
    have HT := Lib.hid h; have HC := Lib.hid hc; have HL := Lib.hid hlen; have HB := Lib.hid hB; have HCL := Lib.hid hcl; have HSL := Lib.hid hsl
    clear hx HX h hc hlen hB hcl hsl
    go_enter Try.func36, Try.ntmps36
    go_wp2_with fail
    refine CK.out.mono ?_
    rintro r w1 ⟨rfl, b1⟩
    by_cases hx0 : x = 0
    · subst hx0
      obtain ⟨g, cap, vs, hp, h1c, ht, hk⟩ := (HT.out.old b1).cut
      have p0 : w1.cell? ⟨p, 0, none⟩ = some (.slice (some ⟨g, 0, none⟩) (cs.length + 1) cap) := by rw [blk_cell hp]; rfl
      have p1 : w1.cell? ⟨p, 1, none⟩ = some vs := by rw [blk_cell hp]; rfl
      have pf : ∀ o, w1.frozen? ⟨p, o, none⟩ = false := fun o => blk_frozen hp o
      have HT1 := Lib.hid ht; have HK1 := Lib.hid hk; have B1 := Lib.hid b1
      clear hp ht hk b1 CK HT
      go_wp2_with fail
      have HS := Lib.hid (show Trk X _ B p oc none (c0 :: (chain.take 0).map (·.1)) ((chain.take 0).map (·.2)) ∧ Keep (trX p oc os) w _ from ⟨HT1.out, (Keep.of_below B1.out).trans HK1.out (fun _ _ hx => hx)⟩)
      clear HT1 HK1 p0 p1 pf
      go_loopw [32] (fun i wr => ∃ k : Nat, k ≤ n ∧ i = .int .i64 k ∧ Hid (∃ X' oc' os', (∀ j, trX p oc' os' j → trX p oc os j ∨ w.heap.size ≤ j) ∧ XSub X X' w ∧ Trk X' wr B p oc' os' (c0 :: (chain.take k).map (·.1)) ((chain.take k).map (·.2)) ∧ Keep (trX p oc os) w wr)) (fun i _ => n - (intOf i).toNat)
      case atStart => exact ⟨0, by omega, rfl, Lib.hid ⟨X, oc, none, fun j hj => .inl (by
        rcases hj with hj | hj | hj
        · exact .inl hj
        · exact .inr (.inl hj)
        · cases hj), XSub.refl X w, HS.out.1, HS.out.2⟩⟩
      case round =>
        clear HS
        obtain ⟨k, hk, rfl, HR⟩ := hrel
        by_cases hlt : k < n
        · obtain ⟨⟨⟨e, l⟩, sg⟩, hy⟩ : ∃ y, chain[k]? = some y := ⟨_, List.getElem?_eq_getElem (by rw [HL.out]; exact hlt)⟩
          obtain ⟨X1, oc', os', hX, hxs, ht, hK⟩ := HR.out
          obtain ⟨b, o, cs1, rfl, hE, hcell⟩ := HC.out.el k _ hy
          obtain ⟨e', l', sg', a1, n1, c1, sa, sn, sc, hey, rfl, he, hs1, hg1⟩ := link_open hE.self
          injection hey with h1 h2
          injection h1 with h1 h3
          subst h1 h2 h3
          have m0 : wr.cell? ⟨b, o + k * 3, none⟩ = some (.int .i64 e) := hcell 0 _ rfl wr hK
          have m1 : wr.cell? ⟨b, o + k * 3 + 1, none⟩ = some (.slice a1 n1 c1) := hcell 1 _ rfl wr hK
          have m2 : wr.cell? ⟨b, o + k * 3 + 2, none⟩ = some (.slice sa sn sc) := hcell 2 _ rfl wr hK
          have kx := below_alloc wr (.cells #[.int .i64 e, .slice a1 n1 c1, .slice sa sn sc] 61)
          have hR1 : Rob (trX p oc' os') (fun w' => SlAt shSig w' sa sn sc sg) (wr.alloc (.cells #[.int .i64 e, .slice a1 n1 c1, .slice sa sn sc] 61)) := by
            refine (Rob.step hE (hK.trans (Keep.of_below (X := trX p oc os) kx) (fun _ _ hx => hx)) (fun _ _ hx => hx) (fun j hj hx => ?_)).mono (fun w' hw' => ?_)
            · rcases hX j hx with h | h
              · exact h
              · omega
            · obtain ⟨_, _, _, _, _, _, _, _, _, h1, h2, _, _, h3⟩ := link_open hw'
              simp at h2
              injection h1 with h4 h5
              rw [h5]
              obtain ⟨rfl, _, _, rfl, rfl, rfl⟩ : _ ∧ _ ∧ _ ∧ _ ∧ _ ∧ _ := by
                obtain ⟨h1, ⟨h2, h3, h4⟩, h5, h6, h7⟩ := h2
                exact ⟨h1, h2, h3, h5, h6, h7⟩
              exact h3
          have hI1 : SlAt Sh.int (wr.alloc (.cells #[.int .i64 e, .slice a1 n1 c1, .slice sa sn sc] 61)) a1 n1 c1 l := by
            obtain ⟨_, _, _, _, _, _, _, _, _, h1, h2, _, h3, _⟩ := link_open (hE _ (hK.alloc (.cells #[.int .i64 e, .slice a1 n1 c1, .slice sa sn sc] 61)))
            simp at h2
            injection h1 with h4 h5
            injection h4 with h4 h6
            rw [h6]
            obtain ⟨_, ⟨rfl, rfl, rfl⟩, _⟩ := h2
            exact h3
          have hlk : k ≤ 64 := by omega
          have CG := Lib.hid (grow_any X1 B p oc' os' _ _ e a1 n1 c1 l sa sn sc sg _ (ht.old kx) (Nat.le_trans HB.out (Nat.le_trans hK.size kx.size)) (by simp; omega) (by simp; omega) he hI1 hR1)
          have HK := Lib.hid (hK.trans (Keep.of_below (X := trX p oc os) kx) (fun _ _ hx => hx))
          have HXX := Lib.hid hX
          have HXS := Lib.hid hxs
          have HT1 := Lib.hid (show (chain.take (k + 1)).map (·.1) = (chain.take k).map (·.1) ++ [(e, l)] by rw [List.take_add_one, hy]; simp)
          have HT2 := Lib.hid (show (chain.take (k + 1)).map (·.2) = (chain.take k).map (·.2) ++ [sg] by rw [List.take_add_one, hy]; simp)
          clear hy hE hcell hs1 hg1 he hR1 hI1 ht hX hK kx HR hxs
          go_wp2_with fail
          refine CG.out.mono ?_
          rintro r w2 ⟨rfl, X2, oc2, os2, h1, h2, hxs2, h3, h4⟩
          have HN := Lib.hid (show ∃ X' oc' os', (∀ j, trX p oc' os' j → trX p oc os j ∨ w.heap.size ≤ j) ∧ XSub X X' w ∧ Trk X' w2 B p oc' os' (c0 :: (chain.take (k + 1)).map (·.1)) ((chain.take (k + 1)).map (·.2)) ∧ Keep (trX p oc os) w w2 from
            ⟨X2, oc2, os2, fun j hj => by
              have hz := HK.out.size
              rcases hj with hj | hj | hj
              · exact .inl (.inl hj)
              · rcases h1 with rfl | ⟨k', rfl, hk'⟩
                · exact HXX.out j (.inr (.inl hj))
                · injection hj with hj; exact .inr (by omega)
              · rcases h2 with rfl | ⟨k', rfl, hk'⟩
                · exact HXX.out j (.inr (.inr hj))
                · injection hj with hj; exact .inr (by omega), HXS.out.trans hxs2 HK.out.size, by rw [HT1.out, HT2.out]; exact h3, HK.out.trans h4 (fun j hj hx => by
              rcases HXX.out j hx with h | h
              · exact h
              · omega)⟩)
          clear h1 h2 h3 h4 hxs2 CG HK HXX HXS HT1 HT2 m0 m1 m2
          go_wp2_with fail
          go_roundw
          case rel => exact ⟨k + 1, by omega, by go_num, HN⟩
          case measure => simp [intOf]; omega
        · obtain rfl : n = k := by omega
          have HN := Lib.hid (show ∃ X' oc' os', (∀ j, trX p oc' os' j → trX p oc os j ∨ w.heap.size ≤ j) ∧ XSub X X' w ∧ Trk X' wr B p oc' os' (c0 :: chain.map (·.1)) (chain.map (·.2)) ∧ Keep (trX p oc os) w wr from by
            have := HR.out
            rwa [List.take_of_length_le (by rw [HL.out]; exact Nat.le_refl _)] at this)
          clear HR
          go_wp2_with fail
          go_ret
          exact ⟨rfl, fun h => (h rfl).elim, fun _ => HN.out⟩
    · go_wp2_with fail
      go_ret
      exact ⟨rfl, fun _ => b1, fun h => (hx0 h).elim⟩
  · have HX := Lib.hid (show takeC c0 cs chain = 3 by rw [takeC, if_pos (by omega)])
    rw [HX.out]
    clear HX h hc hlen hB hcl hsl
    go_enter Try.func36, Try.ntmps36
    go_wp2_with fail
    go_ret
    exact ⟨rfl, fun _ => Below.refl _ _, fun h => by cases h⟩
end Go.Proofs.Ytijeieamodjgbab

/- Plain laws of a tracker: what is known after a call. No program in sight. -/
namespace Go.Proofs.Ytijeieamodjgbab
set_option maxRecDepth 100000
set_option linter.unusedVariables false

theorem validC_zero {e0 : Int} {l0 : List Int} {e1 : Int} {l1 : List Int} {s : List Sg} (h : validC e0 l0 e1 l1 s = 0) : rightB e0 l0 = true ∧ rightB e1 l1 = true ∧ e1 = e0 + 1 := by
  cases h0 : rightB e0 l0 with
  | false => rw [validC_old h0] at h; cases h
  | true =>
    cases h1 : rightB e1 l1 with
    | false => rw [validC_new h1] at h; cases h
    | true =>
      by_cases h2 : e1 = e0 + 1
      · exact ⟨rfl, rfl, h2⟩
      · rw [validC_epoch h0 h1 h2] at h; cases h
theorem chain_epoch : ∀ (L : List Lk) (c : Cf), chainC c L = 0 → ∀ (i : Nat) (y : Lk), L[i]? = some y → y.1.1 = c.1 + i + 1 ∧ rightB y.1.1 y.1.2 = true
  | [], c, _, i, y, hy => by cases hy
  | z :: r, c, h, i, y, hy => by
    rw [chainC] at h
    split at h
    · rename_i hz
      obtain ⟨_, h1, h2⟩ := validC_zero hz
      cases i with
      | zero => simp at hy; subst hy; exact ⟨by rw [h2]; simp, h1⟩
      | succ i =>
        have := chain_epoch r z.1 h i y (by simpa using hy)
        exact ⟨by rw [this.1, h2]; simp; omega, this.2⟩
    · rename_i hz; exact (hz h).elim
end Go.Proofs.Ytijeieamodjgbab

/- Walk of a call on the program's tracker. -/
namespace Go.Proofs.Ytijeieamodjgbab
set_option maxRecDepth 100000
open Go.RowKit
set_option linter.unusedVariables false

/-- What a call leaves. -/
def CallPost (X : Nat → Prop) (B p : Nat) (oc os : Option Nat) (c0 : Cf) (L' : List Lk) (x : Int) (w : World) (r : Ending) (w' : World) : Prop :=
  r = .returned (.int .i64 x) ∧ ∃ X' oc' os', (∀ j, trX p oc' os' j → trX p oc os j ∨ w.heap.size ≤ j) ∧ XSub X X' w ∧ Trk X' w' B p oc' os' (c0 :: L'.map (·.1)) (L'.map (·.2)) ∧ Keep (trX p oc os) w w'
/-- Behind the box of an argument. -/
theorem CallPost.back {X : Nat → Prop} {B p : Nat} {oc os : Option Nat} {c0 : Cf} {L' : List Lk} {x : Int} {w0 w w' : World} {r : Ending} (h : CallPost X B p oc os c0 L' x w r w') (hb : Below w0.heap.size w0 w) : CallPost X B p oc os c0 L' x w0 r w' := by
  obtain ⟨hr, X', oc', os', h1, h2, h3, h4⟩ := h
  exact ⟨hr, X', oc', os', fun j hj => (h1 j hj).imp id (fun h => Nat.le_trans hb.size h), (XSub.refl X w0).trans h2 hb.size, h3, (Keep.of_below hb).trans h4 (fun _ _ h => h)⟩

end Go.Proofs.Ytijeieamodjgbab

/- Scripts of calls: what they are in memory; a chain that was handed out. -/
namespace Go.Proofs.Ytijeieamodjgbab
set_option maxRecDepth 100000
open Go.RowKit
set_option linter.unusedVariables false

theorem row_links {B : Nat} {X : Nat → Prop} {w : World} : ∀ {l : List Lk} {xs : List Value}, rowOf (shOLink B) X w l xs → rowOf shLink X w l xs
  | [], _, h => h
  | y :: r, _, ⟨cs, xs', he, hc, hR, h⟩ => ⟨cs, xs', he, hc, hR.mono (fun _ h => olink_link h), row_links h⟩
/-- A chain that was handed out stays, whatever is done to older blocks. -/
theorem rsl_chain {Y : Nat → Prop} {w w' : World} {a : Option Addr} {c : Nat} {L : List Lk} {xs : List Value} (hL : L.length ≤ 1000) (ho : w'.ownsRow w.heap.size 61 3 (.slice a L.length c) L.length xs)
    (hr : rowOf (shOLink w.heap.size) (fun j => j < w.heap.size ∨ (Value.slice a L.length c).ownBlock = some j) w' L xs) (hY : ∀ k, Y k → k < w.heap.size) : RSl shLink Y w' a L.length c L :=
  rsl_row (S := shLink) ho ((row_links hr).step (Y := fun _ => False) (Keep.refl _ _) (fun _ _ h => h.elim) (fun k _ hk => .inl (hY k hk))) (by show _ * 56 ≤ _; omega) (fun k hk hy => by
    have := (ho.lt k hk).1
    have := hY k hy
    omega)
end Go.Proofs.Ytijeieamodjgbab

/- Two trackers beside each other. -/
namespace Go.Proofs.Ytijeieamodjgbab
set_option maxRecDepth 100000
open Go.RowKit
set_option linter.unusedVariables false

/-- Neither's own blocks are the other one's, nor hold parts of the other one's things. -/
def Sep (X : Nat → Prop) (p : Nat) (oc os : Option Nat) (X2 : Nat → Prop) (q : Nat) (oc2 os2 : Option Nat) : Prop :=
  (∀ k, trX p oc os k → X2 k ∧ ¬ trX q oc2 os2 k) ∧ (∀ k, trX q oc2 os2 k → X k ∧ ¬ trX p oc os k)
section
variable {X X' X2 : Nat → Prop} {p q : Nat} {oc os oc' os' oc2 os2 : Option Nat} {B B2 : Nat} {w w' : World} {cs cs2 : List Cf} {ss ss2 : List (List Sg)}
theorem Sep.symm (h : Sep X p oc os X2 q oc2 os2) : Sep X2 q oc2 os2 X p oc os := ⟨h.2, h.1⟩
theorem trX_lt (h : Trk X w B p oc os cs ss) : ∀ k, trX p oc os k → k < w.heap.size := fun k hk => by
  obtain ⟨h1, h2, h3⟩ := h.lt
  rcases hk with rfl | hk | hk
  · exact h1
  · exact (h2 k hk).2
  · exact (h3 k hk).2
theorem Sep.step (h : Sep X p oc os X2 q oc2 os2) (h1 : Trk X w B p oc os cs ss) (h2 : Trk X2 w B2 q oc2 os2 cs2 ss2) (hn : ∀ j, trX p oc' os' j → trX p oc os j ∨ w.heap.size ≤ j) (hx : XSub X X' w) : Sep X' p oc' os' X2 q oc2 os2 := by
  refine ⟨fun k hk => ?_, fun k hk => ?_⟩
  · rcases hn k hk with h' | h'
    · exact h.1 k h'
    · exact ⟨h2.new k h', fun hc => by have := trX_lt h2 k hc; omega⟩
  · have hl := trX_lt h2 k hk
    obtain ⟨h3, h4⟩ := h.2 k hk
    refine ⟨hx.2 k hl h3, fun hc => ?_⟩
    rcases hn k hc with h' | h'
    · exact h4 h'
    · omega
end
end Go.Proofs.Ytijeieamodjgbab

/- append onto nil at a step of a region that draws; walk of the reference's Copied. -/
namespace Go.Proofs.Ytijeieamodjgbab
set_option maxRecDepth 100000
open Go.RowKit
set_option linter.unusedVariables false

end Go.Proofs.Ytijeieamodjgbab
