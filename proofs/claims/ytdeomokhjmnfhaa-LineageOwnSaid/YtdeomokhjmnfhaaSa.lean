
/- Walks of a call on the document's tracker, and of the comparison of both trackers. -/
import Derived.Test.YtdeomokhjmnfhaaRt4
namespace Go.Proofs.Ytdeomokhjmnfhaa
open Go.RowKit
set_option linter.unusedVariables false

def MPost (X : Nat → Prop) (B q : Nat) (ol : Option Nat) (c0 : Cf) (L' : List Lk) (x : Int) (w : World) (r : Ending) (w' : World) : Prop :=
  r = .returned (.int .i64 x) ∧ ∃ X' ol', (∀ j, rX q ol' j → rX q ol j ∨ w.heap.size ≤ j) ∧ XSub X X' w ∧ RTrk X' w' B q ol' c0 L' ∧ Keep (rX q ol) w w'
theorem model_no {X : Nat → Prop} {B q : Nat} {ol : Option Nat} {c0 : Cf} {L : List Lk} {x : Int} {w w' : World} (h : RTrk X w B q ol c0 L) (hb : Below w.heap.size w w') : MPost X B q ol c0 L x w (.returned (.int .i64 x)) w' :=
  ⟨rfl, X, ol, fun _ h => .inl h, XSub.refl X w, h.old hb, Keep.of_below hb⟩
theorem rnew_one {q : Nat} {ol ol' : Option Nat} {w : World} (h1 : ol' = ol ∨ ∃ k, ol' = some k ∧ w.heap.size ≤ k) : ∀ j, rX q ol' j → rX q ol j ∨ w.heap.size ≤ j := fun j hj => by
  rcases hj with hj | hj
  · exact .inl (.inl hj)
  · rcases h1 with rfl | ⟨k, rfl, hk⟩
    · exact .inl (.inr hj)
    · injection hj with hj; exact .inr (by omega)
theorem MPost.back {X : Nat → Prop} {B q : Nat} {ol : Option Nat} {c0 : Cf} {L' : List Lk} {x : Int} {w0 w w' : World} {r : Ending} (h : MPost X B q ol c0 L' x w r w') (hb : Below w0.heap.size w0 w) : MPost X B q ol c0 L' x w0 r w' := by
  obtain ⟨hr, X', ol', h1, h2, h3, h4⟩ := h
  exact ⟨hr, X', ol', fun j hj => (h1 j hj).imp id (fun h => Nat.le_trans hb.size h), (XSub.refl X w0).trans h2 hb.size, h3, (Keep.of_below hb).trans h4 (fun _ _ h => h)⟩

set_option maxHeartbeats 2000000 in
theorem model_any (X : Nat → Prop) (B q : Nat) (ol : Option Nat) (c0 : Cf) (L : List Lk) (one : Bool) (a : Option Addr) (n c : Nat) (chain : List Lk) (w : World)
    (h : RTrk X w B q ol c0 L) (hB : B ≤ w.heap.size) (h0 : 0 ≤ c0.1) (hg : chainC c0 L = 0) (hc : SlAt shLink w a n c chain) :
    Calls Try.prog 20 #[.pointer (some ⟨q, 0, none⟩), .agg #[.bool one, .slice a n c]] w (MPost X B q ol c0 (callL c0 L one chain) (callE c0 L one chain) w) := by
  have hL := chain_len h0 hg
  obtain ⟨wa, hwa⟩ : ∃ wa, wa = w.alloc (.cells #[.bool one, .slice a n c] 41) := ⟨_, rfl⟩
  have ba : Below w.heap.size w wa := by rw [hwa]; exact below_alloc _ _
  have kx : wa.heap[w.heap.size]? = some (.cells #[.bool one, .slice a n c] 41 (0, 0)) := by rw [hwa]; exact blk_alloc _ _
  have x0 : wa.cell? ⟨w.heap.size, 0, none⟩ = some (.bool one) := by rw [blk_cell kx]; rfl
  have x1 : wa.cell? ⟨w.heap.size, 1, none⟩ = some (.slice a n c) := by rw [blk_cell kx]; rfl
  have ht := h.old ba
  have hca := hc.old ba
  have BA := Lib.hid ba
  have hlen := hc.len
  have hmax := Nat.le_trans hc.cap hc.max
  have hBa := Nat.le_trans hB ba.size
  cases one with
  | true =>
    cases hch : chain with
    | nil =>
      subst hch
      obtain rfl : n = 0 := by simpa using hlen.symm
      have CA := radd_any X B q ol c0 L 0 none 0 0 [] none 0 0 [] wa ht hBa (by omega) (by simp [i64])
        ⟨rfl, by simp, by simp, by simp, fun _ => rfl, fun i y hy => by cases hy⟩ ⟨rfl, by simp, by simp, by simp, fun _ => rfl, fun i y hy => by cases hy⟩
      rw [show validC (lastC c0 L).1 (lastC c0 L).2 0 [] [] = 1 from call_nil c0 L] at CA
      have CA := Lib.hid CA
      have HE := Lib.hid (call_nil c0 L)
      have HT := Lib.hid ht
      clear h hc hca ht hg kx hlen
      go_enter Try.func20, Try.ntmps20
      go_wp2_with fail
      rw [← hwa]
      clear hwa
      refine CA.out.mono ?_
      rintro r w6 ⟨rfl, h6, -⟩
      have B6 := Lib.hid (h6 (by decide))
      clear h6 CA
      go_wp2_with fail
      go_ret
      rw [callL_no (by rw [HE.out]; decide), HE.out]
      exact (model_no HT.out B6.out).back BA.out
    | cons y rest =>
      subst hch
      obtain ⟨⟨e, l⟩, sg⟩ := y
      have hn : 0 < n := by simp at hlen; omega
      obtain ⟨b, o, a1, n1, c1, sa, sn, sc, rfl, m0, m1, m2, he, hI, hS⟩ := link_cells hca (i := 0) rfl
      simp only [Nat.zero_mul, Nat.add_zero] at m0 m1 m2
      have hn0 : ((n : Int) == 0) = false := by simp; omega
      rw [hwa] at m0 m1 m2
      have CA := radd_any X B q ol c0 L e a1 n1 c1 l sa sn sc sg wa ht hBa (by omega) he hI hS
      have HE := Lib.hid (callE_one c0 L ((e, l), sg) rest)
      have HL := Lib.hid (fun h => callL_one (c0 := c0) (L := L) (y := ((e, l), sg)) (r := rest) h)
      have HN := Lib.hid (fun h => callL_no (c0 := c0) (L := L) (one := true) (chain := ((e, l), sg) :: rest) h)
      rw [← HE.out] at CA
      generalize callE c0 L true (((e, l), sg) :: rest) = x at *
      generalize callL c0 L true (((e, l), sg) :: rest) = L' at *
      have CA := Lib.hid CA
      have HT := Lib.hid ht
      clear h hc hca ht hg kx hlen hI hS he HE
      go_enter Try.func20, Try.ntmps20
      go_wp2_with fail
      rw [← hwa]
      clear hwa
      refine CA.out.mono ?_
      rintro r w6 ⟨rfl, h6, h7⟩
      have HP := Lib.hid (show MPost X B q ol c0 L' x w (.returned (.int .i64 x)) w6 from by
        by_cases hx : x = 0
        · obtain ⟨X', ol', h1, h3, h4, h5⟩ := h7 hx
          rw [HL.out hx]
          exact MPost.back ⟨rfl, X', ol', rnew_one h1, h3, h4, h5⟩ BA.out
        · rw [HN.out hx]
          exact (model_no HT.out (h6 hx)).back BA.out)
      clear h6 h7 CA HL HN
      go_wp2_with fail
      go_ret
      exact HP.out
  | false =>
    have CT := rtake_any X B q ol c0 L a n c chain wa ht hBa (by omega) hca
    rw [← callE_take] at CT
    have HL := Lib.hid (fun h => callL_take (c0 := c0) (L := L) (chain := chain) h)
    have HN := Lib.hid (fun h => callL_no (c0 := c0) (L := L) (one := false) (chain := chain) h)
    generalize callE c0 L false chain = x at *
    generalize callL c0 L false chain = L' at *
    have CT := Lib.hid CT
    have HT := Lib.hid ht
    clear h hc hca ht hg kx hlen
    go_enter Try.func20, Try.ntmps20
    go_wp2_with fail
    rw [← hwa]
    clear hwa
    refine CT.out.mono ?_
    rintro r w6 ⟨rfl, h6, h7⟩
    have HP := Lib.hid (show MPost X B q ol c0 L' x w (.returned (.int .i64 x)) w6 from by
      by_cases hx : x = 0
      · obtain ⟨X', ol', h1, h3, h4, h5⟩ := h7 hx
        rw [HL.out hx]
        exact MPost.back ⟨rfl, X', ol', h1, h3, h4, h5⟩ BA.out
      · rw [HN.out hx]
        exact (model_no HT.out (h6 hx)).back BA.out)
    clear h6 h7 CT HL HN
    go_wp2_with fail
    go_ret
    exact HP.out

set_option maxHeartbeats 2000000 in
theorem same10_any (X : Nat → Prop) (B p : Nat) (oc os : Option Nat) (X2 : Nat → Prop) (B2 q : Nat) (ol : Option Nat) (c0 : Cf) (L : List Lk) (w : World)
    (h : Trk X w B p oc os (c0 :: L.map (·.1)) (L.map (·.2))) (h2 : RTrk X2 w B2 q ol c0 L) (hL : L.length ≤ 60) :
    Calls Try.prog 21 #[.pointer (some ⟨p, 0, none⟩), .pointer (some ⟨q, 0, none⟩)] w fun r w' => r = .returned (.bool true) ∧ Below w.heap.size w w' := by
  obtain ⟨a0, n0, k0, al, cl, hq, he0, hI0, hS0⟩ := h2.view (by omega)
  have q2 : w.cell? ⟨q, 2, none⟩ = some (.slice al L.length cl) := by rw [blk_cell hq]; rfl
  have lq := blk_lt hq
  have CE := fun (w' : World) (hb : Below w.heap.size w w') => epoch_any X B p oc os _ _ w' (h.old hb) (by simp; omega) (by simp; omega)
  have CC := fun (w' : World) (hb : Below w.heap.size w w') => chain_any X B p oc os (c0 :: L.map (·.1)) (L.map (·.2)) w' (h.old hb) (by simp) (by simp; omega)
  simp only [List.length_map, chainL_map] at CE CC
  have CE := Lib.hid CE
  have CC := Lib.hid CC
  have CA := Lib.hid (fun (x : Int) (w' : World) (hb : Below w.heap.size w w') => at_any X B p oc os (c0 :: L.map (·.1)) (L.map (·.2)) x w' (h.old hb) (by simp; omega) (by simp; omega))
  have CR := Lib.hid (fun (x : Int) (w' : World) (hb : Below w.heap.size w w') => rat_any X2 B2 q ol c0 L x w' (h2.old hb) (by omega))
  have HS := Lib.hid hS0; have HQ := Lib.hid hq
  have hne : ((L.length : Int) != L.length) = false := by simp
  have HQ2 := Lib.hid q2
  have HB := Lib.hid (below_drewN (Below.refl w.heap.size w) 1)
  clear h h2 hq he0 hI0 hS0
  go_enter Try.func21, Try.ntmps21
  go_wp2_with fail
  go_region_held3 (fun w' => w'.cell? ⟨q, 2, none⟩ = some (.slice al L.length cl)) (first | assumption | go_keep)
    (first
      | (go_at_call 14; refine (CE.out _ HB.out).mono ?_; rintro r w7 ⟨rfl, rfl⟩)
      | (go_at_call 13; refine (CC.out _ HB.out).mono ?_; rintro r w8 ⟨b8, a8, c8, xs8, rfl, ho8, hr8⟩; have HB := Lib.hid (bthen HB.out b8); have HIS := Lib.hid (rsl_chain (Y := fun _ => False) (by omega) ho8 hr8 (fun k hk => hk.elim)).sl; clear ho8 hr8 b8; have q2 := below_cell HB.out HQ2.out)
      | (go_at_call 16; have CS := samelinks_any a8 L.length c8 L al L.length cl L _ HIS.out (HS.out.old HB.out); rw [decide_eq_true rfl] at CS; refine CS.mono ?_; rintro r w9 ⟨rfl, b9⟩; clear CS; have HB := Lib.hid (bthen HB.out b9); clear b9; have q2 := below_cell HB.out HQ2.out))
  have HB9 := Lib.hid HB.out
  clear q2 HIS
  go_wp2_with fail
  go_loopw [5] (fun i wr => ∃ k : Nat, k ≤ L.length + 3 ∧ i = .int .i64 ((k : Int) - 1) ∧ Hid (Below w.heap.size w wr)) (fun i _ => L.length + 3 - (intOf i + 1).toNat)
  case atStart => exact ⟨0, by omega, rfl, HB9⟩
  case round =>
    clear HB9
    obtain ⟨k, hk, rfl, Hb⟩ := hrel
    have q2 := below_cell Hb.out HQ2.out
    by_cases hlt : k ≤ L.length + 2
    · have hle : decide ((k : Int) - 1 ≤ (L.length : Int) + 1) = true := by simp; omega
      have HK := Lib.hid (show (c0 :: L.map (·.1)).length = L.length + 1 by simp)
      go_wp2_with fail
      refine (CA.out _ _ Hb.out).mono ?_
      rintro r w3 ⟨b3, h3⟩
      have B3 := Lib.hid (bthen Hb.out b3)
      clear b3 q2
      rcases h3 with ⟨k1, e, l, a1, n1, c1, hx, hc, rfl, ho, hl, he, hf, hby⟩ | ⟨hbad, rfl⟩
      · have HX := Lib.hid hx; have HC := Lib.hid hc; have HO := Lib.hid (ints_of_sl (ints_row ho hl hf hby))
        clear hx hc ho hl hf hby
        have k3 := blk_alloc w3 (.cells #[.int .i64 e, .slice a1 n1 c1] 24)
        have b3 := below_alloc w3 (.cells #[.int .i64 e, .slice a1 n1 c1] 24)
        have CR1 := Lib.hid (CR.out ((k : Int) - 1) _ (bthen B3.out b3))
        have K3 := Lib.hid k3; have BB3 := Lib.hid b3
        clear k3 b3
        go_wp2_with fail
        refine CR1.out.mono ?_
        rintro r w5 ⟨b5, h5⟩
        have B5 := Lib.hid (bthen (bthen B3.out BB3.out) b5)
        have k5 := blk_below K3.out b5
        have O5 := Lib.hid (HO.out.below (bthen BB3.out b5))
        rcases h5 with ⟨k2, e2, l2, a2, n2, c2, hx2, hc2, rfl, hs2, he2⟩ | ⟨hbad, _⟩
        · have hkk : k1 = k2 := by have := HX.out; omega
          subst hkk
          have h6 := HC.out.symm.trans hc2
          injection h6 with h6
          injection h6 with h6 h7
          subst h6 h7
          obtain ⟨wb, hwb⟩ : ∃ wb, wb = w5.alloc (.cells #[.int .i64 e, .slice a2 n2 c2] 24) := ⟨_, rfl⟩
          have bb := below_alloc w5 (.cells #[.int .i64 e, .slice a2 n2 c2] 24)
          have kb := blk_alloc w5 (.cells #[.int .i64 e, .slice a2 n2 c2] 24)
          rw [← hwb] at bb kb
          have ka := blk_below k5 bb
          have x0 : wb.cell? ⟨w3.heap.size, 0, none⟩ = some (.int .i64 e) := by rw [blk_cell ka]; rfl
          have x1 : wb.cell? ⟨w3.heap.size, 1, none⟩ = some (.slice a1 n1 c1) := by rw [blk_cell ka]; rfl
          rw [hwb] at x0 x1
          have CS := samec_any e a1 n1 c1 l e a2 n2 c2 l wb (O5.out.below bb) (ints_of_sl (hs2.old bb))
          rw [decide_eq_true rfl] at CS
          replace CS := Lib.hid CS
          have BB := Lib.hid (bthen B5.out bb)
          clear hx2 hc2 hs2 he2 bb kb ka k5 b5 CR1
          go_wp2_with fail
          rw [← hwb]
          clear hwb x0 x1
          refine CS.out.mono ?_
          rintro r w7 ⟨rfl, b7⟩
          have B7 := Lib.hid (bthen BB.out b7)
          clear b7 CS
          have hki : IntKind.i64.wrap ((k : Int) - 1 + 1) = (k : Int) := by rw [show (k : Int) - 1 + 1 = k by omega]; exact IntWalk.i64_in _ (by omega)
          go_wp2_with fail
          go_roundw
          case rel => exact ⟨k + 1, by omega, by go_num, B7⟩
          case measure => simp [intOf]; omega
        · have h1 := HX.out
          have h2 := (List.getElem?_eq_some_iff.1 HC.out).1
          rw [HK.out] at h2
          omega
      · have k3 := blk_alloc w3 (.cells #[.int .i64 0, .slice none 0 0] 24)
        have b3 := below_alloc w3 (.cells #[.int .i64 0, .slice none 0 0] 24)
        have CR1 := Lib.hid (CR.out ((k : Int) - 1) _ (bthen B3.out b3))
        have K3 := Lib.hid k3; have BB3 := Lib.hid b3
        have HBAD := Lib.hid hbad
        clear k3 b3 hbad
        go_wp2_with fail
        refine CR1.out.mono ?_
        rintro r w5 ⟨b5, h5⟩
        have B5 := Lib.hid (bthen (bthen B3.out BB3.out) b5)
        have k5 := blk_below K3.out b5
        rcases h5 with ⟨k2, e2, l2, a2, n2, c2, hx2, hc2, _, _, _⟩ | ⟨_, rfl⟩
        · have h1 := HBAD.out
          have h2 := (List.getElem?_eq_some_iff.1 hc2).1
          rw [HK.out] at h1 h2
          omega
        · obtain ⟨wb, hwb⟩ : ∃ wb, wb = w5.alloc (.cells #[.int .i64 0, .slice none 0 0] 24) := ⟨_, rfl⟩
          have bb := below_alloc w5 (.cells #[.int .i64 0, .slice none 0 0] 24)
          have kb := blk_alloc w5 (.cells #[.int .i64 0, .slice none 0 0] 24)
          rw [← hwb] at bb kb
          have ka := blk_below k5 bb
          have x0 : wb.cell? ⟨w3.heap.size, 0, none⟩ = some (.int .i64 0) := by rw [blk_cell ka]; rfl
          have x1 : wb.cell? ⟨w3.heap.size, 1, none⟩ = some (.slice none 0 0) := by rw [blk_cell ka]; rfl
          rw [hwb] at x0 x1
          have CS := samec_any 0 none 0 0 [] 0 none 0 0 [] wb ⟨rfl, by decide, fun i hi => by omega, fun x hx => by cases hx⟩ ⟨rfl, by decide, fun i hi => by omega, fun x hx => by cases hx⟩
          rw [decide_eq_true rfl] at CS
          replace CS := Lib.hid CS
          have BB := Lib.hid (bthen B5.out bb)
          clear bb kb ka k5 b5 CR1
          go_wp2_with fail
          rw [← hwb]
          clear hwb x0 x1
          refine CS.out.mono ?_
          rintro r w7 ⟨rfl, b7⟩
          have B7 := Lib.hid (bthen BB.out b7)
          clear b7 CS
          have hki : IntKind.i64.wrap ((k : Int) - 1 + 1) = (k : Int) := by rw [show (k : Int) - 1 + 1 = k by omega]; exact IntWalk.i64_in _ (by omega)
          go_wp2_with fail
          go_roundw
          case rel => exact ⟨k + 1, by omega, by go_num, B7⟩
          case measure => simp [intOf]; omega
    · have hle : decide ((k : Int) - 1 ≤ (L.length : Int) + 1) = false := by simp; omega
      go_wp2_with fail
      go_ret
      exact ⟨rfl, Hb.out⟩
end Go.Proofs.Ytdeomokhjmnfhaa
