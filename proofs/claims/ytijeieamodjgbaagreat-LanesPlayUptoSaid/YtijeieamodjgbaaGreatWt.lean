
/- Walk of the program's Terms. -/
import Derived.Test.YtijeieamodjgbaaGreatWm
import Derived.Test.YtijeieamodjgbaaGreatOwn
import Derived.Laws.AppendOwn
import Derived.Test.YtijeieamodjgbaaGreatTk
namespace Go.Proofs.YtijeieamodjgbaaGreat
set_option maxRecDepth 100000
open Go.RowKit
set_option linter.unusedVariables false
set_option linter.unusedSimpArgs false
attribute [local go_sem] run_store_float
theorem owns_cells13 {w : World} {g B : Nat} {cs : List Value} {n cap : Nat} (h : w.heap[g]? = some (.cells cs.toArray 84 (0, 0))) (hB : B ≤ g) (hc : cs.length = cap * 2) (hn : n ≤ cap) (hm : cap ≤ 100) :
    w.ownsRow B 84 2 (.slice (some ⟨g, 0, none⟩) n cap) n (cs.take (n * 2)) :=
  ⟨by rw [List.length_take]; omega, .inr ⟨g, cap, cs.toArray, rfl, hB, h, hn, by unfold maxLen; omega, by simpa using hc, by simp⟩⟩
def TmAt (w : World) (B ob : Nat) (acc : List Sg) : Prop := B ≤ ob ∧ ∃ v, w.heap[ob]? = some (.cells #[v] 31 (0, 0)) ∧ w.ownsRow B 84 2 v acc.length (sigV acc) ∧ v.ownBlock ≠ some ob
theorem TmAt.old {w w' : World} {B ob : Nat} {acc : List Sg} (h : TmAt w B ob acc) (hb : Below w.heap.size w w') : TmAt w' B ob acc := by
  obtain ⟨h0, v, h1, h2, h3⟩ := h
  exact ⟨h0, v, blk_below h1 hb, owns_old h2 hb, h3⟩
def KeepT (ob : Nat) (w w' : World) : Prop := ∀ k cs t fr, w.heap[k]? = some (.cells cs t fr) → t ≠ 84 → k ≠ ob → w'.heap[k]? = some (.cells cs t fr)
theorem KeepT.trans {ob : Nat} {w w1 w2 : World} (h : KeepT ob w w1) (h2 : KeepT ob w1 w2) : KeepT ob w w2 := fun k cs t fr hk ht hne => h2 k cs t fr (h k cs t fr hk ht hne) ht hne
theorem KeepT.below {ob : Nat} {w w1 : World} (h : Below w.heap.size w w1) : KeepT ob w w1 := fun k cs t fr hk _ _ => blk_below hk h
theorem KeepT.refl (ob : Nat) (w : World) : KeepT ob w w := fun _ _ _ _ h _ _ => h
set_option maxHeartbeats 1000000 in
theorem take_c (B ob : Nat) (acc : List Sg) (a : Option Addr) (n c : Nat) (l : List Sg) (w : World) (h : TmAt w B ob acc) (hB : B ≤ w.heap.size) (hs : SlAt shSig w a n c l) (hb : (acc.length + l.length) * 24 ≤ 140737488355328) :
    Calls Tryz.prog 97 #[.slice a n c, .pointer (some ⟨ob, 0, none⟩)] w fun r w' => r = .returned (.tuple #[]) ∧ TmAt w' B ob (acc ++ l) ∧ Below B w w' ∧ KeepT ob w w' := by
  obtain ⟨ii, hi, hz0, hz1, hz2⟩ := info_parts info_sig'; obtain ⟨h0, v, h1, h2, h3⟩ := h; obtain ⟨av, cv, rfl⟩ := owns_form h2
  have hx : w.cell? ⟨ob, 0, none⟩ = some (.slice av acc.length cv) := by rw [blk_cell h1]; rfl
  have hf := blk_frozen h1 0; have hlt := blk_lt h1
  have q1 : (sigV l).length = n * 2 := by rw [sigV_len, hs.len]
  have hn := hs.len
  have k1 : acc.length + n ≤ maxLen := by unfold maxLen; omega
  have k2 : (acc.length + n) * 24 ≤ 140737488355328 := by rw [← hn]; exact hb
  have hnil : a = none → n = 0 ∧ c = 0 := fun h => ⟨by have := hs.nil h; have := hs.cap; omega, hs.nil h⟩
  have HS := Lib.hid hs; have H1 := Lib.hid h1; have H2 := Lib.hid h2; have H3 := Lib.hid h3; clear h1 h2 h3 hs
  go_enter Tryz.func97, Tryz.ntmps97
  go_wp2_with (first | (at_builtin; refine wpList_append_any_at _ rfl (.tmp 3) (.tmp 4) 31 rfl B 84 ii (.agg #[.int .i64 0, .string ⟨#[]⟩]) 2 24 Tryz.underlying31 hi hz0 hz1 hz2 rfl (by decide) (.slice av acc.length cv) acc.length (sigV acc) rfl H2.out a n c (sigV l) rfl q1 hnil (sigs_news HS.out) (sigV_one l) k1 k2 hB ?_) | fail)
  intro v' w8 ho8 hg8 hor8; obtain ⟨a8, c8, rfl⟩ := owns_form ho8; have K8 : Keep (fun k => (Value.slice av acc.length cv).ownBlock = some k) w w8 := (Keep.refl _ w).grown hg8 (fun k hk => .inr hk); have hp8 : w8.heap[ob]? = some (.cells #[.slice av acc.length cv] 31 (0, 0)) := (K8.block ob hlt H3.out).trans H1.out
  have x8 : w8.cell? ⟨ob, 0, none⟩ = some (.slice av acc.length cv) := by rw [blk_cell hp8]; rfl
  have f8 := blk_frozen hp8 0
  have hne : (Value.slice a8 (acc.length + n) c8).ownBlock ≠ some ob := by
    rcases hor8 with h | h
    · rw [h]; exact H3.out
    · rw [h]; intro hc; injection hc with hc; omega
  have k9 := blk_set hp8 0 (.slice a8 (acc.length + n) c8)
  simp only [List.setIfInBounds_toArray, List.set_cons_zero] at k9
  have HF := Lib.hid (show TmAt (w8.setCell ⟨ob, 0, none⟩ (.slice a8 (acc.length + n) c8)) B ob (acc ++ l) from ⟨h0, _, k9, by
    have := owns_setother ho8 hne 0 (.slice a8 (acc.length + n) c8); rw [List.length_append, HS.out.len, show sigV (acc ++ l) = sigV acc ++ sigV l by simp [sigV]]
    exact this, hne⟩)
  have HB := Lib.hid (show Below B w (w8.setCell ⟨ob, 0, none⟩ (.slice a8 (acc.length + n) c8)) from
    (show Below B w w8 from ⟨K8.os, K8.tape, K8.output, K8.size, fun k hk => K8.block k (by omega) (fun hc => by have := (H2.out.lt k hc).1; omega)⟩).setCell h0 _)
  have HK := Lib.hid (show KeepT ob w (w8.setCell ⟨ob, 0, none⟩ (.slice a8 (acc.length + n) c8)) from fun k cs t fr hk ht hko => blk_set_other ((K8.block k (blk_lt hk) (fun hc => by
    rcases H2.out.2 with ⟨hv, _⟩ | ⟨g, cap, cur, hv, _, hg, _⟩
    · rw [hv] at hc; cases hc
    · rw [hv] at hc
      have h1 : g = k := by simpa [Value.ownBlock] using hc
      rw [h1, hk] at hg
      injection hg with hg; injection hg with _ hg _
      exact ht hg)).trans hk) _ _ _ hko)
  clear ho8 hg8 hor8 K8 hp8 k9 hne hx hf
  go_wp2_with fail
  go_end0
  exact ⟨rfl, HF.out, HB.out, HK.out⟩
theorem TmAt.call {w w0 : World} {ob : Nat} {acc : List Sg} {a : Option Addr} {n c : Nat} {l : List Sg} (h : TmAt w w0.heap.size ob acc) (hb : Below w0.heap.size w0 w) (hs : SlAt shSig w a n c l) (hl : (acc.length + l.length) * 24 ≤ 140737488355328) :
    Calls Tryz.prog 97 #[.slice a n c, .pointer (some ⟨ob, 0, none⟩)] w fun r w' => r = .returned (.tuple #[]) ∧ TmAt w' w0.heap.size ob (acc ++ l) ∧ Below w0.heap.size w0 w' ∧ KeepT ob w w' :=
  (take_c _ ob acc a n c l w h hb.size hs hl).mono fun r w' ⟨h1, h2, h3, h4⟩ => ⟨h1, h2, hb.trans h3, h4⟩
def chT (c : Ch) : List Sg := c.ce.flatMap (·.sg) ++ [c.sg]
theorem termsP_eq (m : Mg) : termsP m = m.sg ++ m.ch.flatMap chT ++ m.lk.flatMap (·.2) := rfl
theorem flat_snoc {α β : Type} {l : List α} {f : α → List β} {k : Nat} {x : α} (h : l[k]? = some x) : (l.take (k + 1)).flatMap f = (l.take k).flatMap f ++ f x := by
  rw [List.take_add_one, h, List.flatMap_append]; simp
theorem flat_le {α β : Type} {l : List α} {f : α → List β} {k : Nat} {x : α} (h : l[k]? = some x) : ((l.take k).flatMap f).length + (f x).length ≤ (l.flatMap f).length := by
  have h1 := congrArg List.length (flat_snoc (f := f) h)
  rw [List.length_append] at h1
  rw [← h1]
  conv => rhs; rw [← List.take_append_drop (k + 1) l, List.flatMap_append, List.length_append]
  omega
def TermsPost (m : Mg) (w : World) (r : Ending) (w' : World) : Prop := Below w.heap.size w w' ∧ ∃ v, r = .returned v ∧ w'.ownsRow w.heap.size 84 2 v (termsP m).length (sigV (termsP m))
set_option maxHeartbeats 4000000 in
theorem terms_any (m : Mg) (a1 : Option Addr) (n1 c1 : Nat) (a2 : Option Addr) (n2 c2 : Nat) (a3 : Option Addr) (n3 c3 : Nat) (a4 : Option Addr) (n4 c4 : Nat) (w : World) (h : MsgIn w m a1 n1 c1 a2 n2 c2 a3 n3 c3 a4 n4 c4) (hb : (termsP m).length * 24 ≤ 140737488355328) :
    Calls Tryz.prog 48 #[.agg (mgCs m a1 n1 c1 a2 n2 c2 a3 n3 c3 a4 n4 c4).toArray] w (TermsPost m w) := by
  obtain ⟨w1, hw1⟩ : ∃ w1, w1 = w.alloc (.cells (mgCs m a1 n1 c1 a2 n2 c2 a3 n3 c3 a4 n4 c4).toArray 35 (0, 0)) := ⟨_, rfl⟩
  obtain ⟨w2, hw2⟩ : ∃ w2, w2 = w1.alloc (.cells #[.slice none 0 0] 31 (0, 0)) := ⟨_, rfl⟩
  have b1 : Below w.heap.size w w1 := by rw [hw1]; exact below_alloc _ _
  have hz1 : w1.heap.size = w.heap.size + 1 := by rw [hw1]; simp
  have b2 : Below w1.heap.size w1 w2 := by rw [hw2]; exact below_alloc _ _
  have KM := Lib.hid (show w1.heap[w.heap.size]? = some (.cells (mgCs m a1 n1 c1 a2 n2 c2 a3 n3 c3 a4 n4 c4).toArray 35 (0, 0)) by rw [hw1]; exact blk_alloc _ _); have KT := Lib.hid (show TmAt w2 w1.heap.size w1.heap.size [] from ⟨Nat.le_refl _, _, by rw [hw2]; exact blk_alloc _ _, World.ownsRow_nil _ _ _ _, by simp [Value.ownBlock]⟩); have B1 := Lib.hid b1; have B2 := Lib.hid b2; have HN := Lib.hid (h.old b1); have HLEN := Lib.hid hb
  have hob : w.heap.size ≠ w1.heap.size := by omega
  clear h hb b1 b2 hz1
  go_enter Tryz.func48, Tryz.ntmps48
  simp only [mgCs] at *
  go_upto_region 1 with (fail)
  rw [← hw1]; clear hw1; have KM2 := Lib.hid (blk_below KM.out B2.out)
  have x14 : w2.cell? ⟨w.heap.size, 14, none⟩ = some (.slice a2 n2 c2) := by rw [blk_cell KM2.out]; rfl
  have C1 := Lib.hid (KT.out.call B2.out (HN.out.sg.old B2.out) (by have := HLEN.out; simp only [termsP, List.length_append, List.length_nil] at this ⊢; omega))
  go_upto_region 3 with (fail)
  rw [← hw2]; clear hw2 KM
  go_wp2_with fail
  refine C1.out.mono ?_
  rintro r w3 ⟨rfl, h3, b3, k3⟩
  have T3 := Lib.hid h3; have B3 := Lib.hid b3; have KM3 := Lib.hid (k3 _ _ _ _ KM2.out (by decide) hob)
  have x15 : w3.cell? ⟨w.heap.size, 15, none⟩ = some (.slice a3 n3 c3) := by rw [blk_cell KM3.out]; rfl
  have hl3 := HN.out.ch.len; have hl4 := HN.out.lk.len; have hm3 := Nat.le_trans HN.out.ch.cap HN.out.ch.max; have hm4 := Nat.le_trans HN.out.lk.cap HN.out.lk.max; clear h3 b3 k3 x14 C1 KT KM2
  rw [List.nil_append] at T3
  go_wp2_with fail
  go_loopw [19] (fun i wr => ∃ j : Nat, j ≤ n3 ∧ i = .int .i64 j ∧ Hid (TmAt wr w1.heap.size w1.heap.size (m.sg ++ (m.ch.take j).flatMap chT)) ∧ Hid (Below w1.heap.size w1 wr) ∧ Hid (KeepT w1.heap.size w3 wr)) (fun i _ => n3 - (intOf i).toNat)
  case atStart => exact ⟨0, by omega, rfl, by simpa using T3, B3, Lib.hid (KeepT.refl _ _)⟩
  case round =>
    clear T3 B3 x15; obtain ⟨j, hj, rfl, HT, Hb, HK⟩ := hrel
    by_cases hjn : j < n3
    · obtain ⟨bb, bo, y, sa, sn, sc, rfl, hy, c0, c1', c2', c3', c4', hy1, hy2, hce, hsg1, hsg2⟩ := change_cells HN.out.ch hjn
      have hj0 : (0 : Int) ≤ (j : Int) := by omega
      have hj1 : (j : Int) < (n3 : Int) := by omega
      replace c0 := below_cell Hb.out c0; replace c1' := below_cell Hb.out c1'; replace c2' := below_cell Hb.out c2'; replace c3' := below_cell Hb.out c3'; replace c4' := below_cell Hb.out c4'
      have lb := World.block_lt c0; have HCE := Lib.hid hce; have HY := Lib.hid hy; have hln := hce.len; have hcm := Nat.le_trans hce.cap hce.max; have ba := below_alloc wr (.cells #[.int .i64 y.fr, .int .i64 y.v, .slice sa sn sc, .int .i64 y.sg.1, .string y.sg.2] 86 (0, 0)); have KB := Lib.hid (blk_alloc wr (.cells #[.int .i64 y.fr, .int .i64 y.v, .slice sa sn sc, .int .i64 y.sg.1, .string y.sg.2] 86 (0, 0))); have HT4 := Lib.hid (HT.out.old ba); have B4 := Lib.hid (Hb.out.trans (ba.mono Hb.out.size)); have HK4 := Lib.hid (HK.out.trans (KeepT.below (ob := w1.heap.size) ba)); have hz1r := Hb.out.size; clear hce hy ba HT Hb HK
      go_upto_region 7 with (fail)
      generalize hw4 : wr.alloc (.cells #[.int .i64 y.fr, .int .i64 y.v, .slice sa sn sc, .int .i64 y.sg.1, .string y.sg.2] 86 (0, 0)) = w4 at *
      have v2 : w4.cell? ⟨wr.heap.size, 2, none⟩ = some (.slice sa sn sc) := by rw [blk_cell KB.out]; rfl
      obtain ⟨wl, hwl⟩ : ∃ wl : World, wl = wr := ⟨_, rfl⟩
      subst hwl
      have hcl : wl.heap.size ≠ w1.heap.size := fun hc => by
        obtain ⟨_, v, g1, _⟩ := HT4.out; have := KB.out
        rw [hc, g1] at this
        injection this with this; injection this with _ this _
        revert this; decide
      have HLE := Lib.hid (show (m.sg ++ (m.ch.take j).flatMap chT).length + (chT y).length ≤ (termsP m).length from by
        have := flat_le (f := chT) HY.out
        rw [termsP_eq]; simp only [List.length_append]; omega)
      have HSN := Lib.hid (flat_snoc (f := chT) HY.out)
      have hchl : (chT y).length = (y.ce.flatMap (·.sg)).length + 1 := by simp [chT]
      generalize hA : m.sg ++ (m.ch.take j).flatMap chT = A at *
      have HA := Lib.hid hA; clear hw4 c0 c1' c2' c3' c4' hA
      go_wp2_with fail
      go_loopw [26] (fun i wr => ∃ i' : Nat, i' ≤ sn ∧ i = .int .i64 i' ∧ Hid (TmAt wr w1.heap.size w1.heap.size (A ++ (y.ce.take i').flatMap (·.sg))) ∧ Hid (Below w1.heap.size w1 wr) ∧ Hid (KeepT w1.heap.size w4 wr)) (fun i _ => sn - (intOf i).toNat)
      case atStart => exact ⟨0, by omega, rfl, by simpa using HT4, B4, Lib.hid (KeepT.refl _ _)⟩
      case round =>
        clear HT4 B4 v2; obtain ⟨i, hi, rfl, HT, Hb, HK⟩ := hrel
        by_cases hin : i < sn
        · obtain ⟨cb, co, x, xa, xn, xc, rfl, hx, e0, e1, e2, e3, e4, e5, e6, e7, e8, hv, hs, hq, hss⟩ := cert_cells HCE.out hin
          have hi0 : (0 : Int) ≤ (i : Int) := by omega
          have hi1 : (i : Int) < (sn : Int) := by omega
          replace e0 := below_cell Hb.out e0; replace e1 := below_cell Hb.out e1; replace e2 := below_cell Hb.out e2; replace e3 := below_cell Hb.out e3; replace e4 := below_cell Hb.out e4; replace e5 := below_cell Hb.out e5; replace e6 := below_cell Hb.out e6; replace e7 := below_cell Hb.out e7; replace e8 := below_cell Hb.out e8
          have lc := World.block_lt e0; have HX := Lib.hid hx; have hfl := flat_le (f := fun z : Ce => z.sg) hx; have ba := below_alloc wr (.cells #[.int .i64 x.v, .int .i64 x.s, .int .i64 x.q.c, .int .i64 x.q.s, .int .i64 x.q.kind, .string x.q.key, .float .f64 x.q.b, .int .i64 x.q.id, .slice xa xn xc] 144 (0, 0)); have kc := blk_alloc wr (.cells #[.int .i64 x.v, .int .i64 x.s, .int .i64 x.q.c, .int .i64 x.q.s, .int .i64 x.q.kind, .string x.q.key, .float .f64 x.q.b, .int .i64 x.q.id, .slice xa xn xc] 144 (0, 0)); have B5 := Hb.out.trans (ba.mono Hb.out.size); have CC := Lib.hid ((HT.out.old ba).call B5 (hss.old B5) (by have := HLE.out; have := HLEN.out; rw [List.length_append]; omega)); have HK5 := Lib.hid (HK.out.trans (KeepT.below (ob := w1.heap.size) ba)); have HXS := Lib.hid (flat_snoc (f := fun z : Ce => z.sg) hx); clear hx ba B5 HT Hb HK hss
          go_upto_region 10 with (fail)
          generalize wr.alloc (.cells #[.int .i64 x.v, .int .i64 x.s, .int .i64 x.q.c, .int .i64 x.q.s, .int .i64 x.q.kind, .string x.q.key, .float .f64 x.q.b, .int .i64 x.q.id, .slice xa xn xc] 144 (0, 0)) = w5 at *
          have v8 : w5.cell? ⟨wr.heap.size, 8, none⟩ = some (.slice xa xn xc) := by rw [blk_cell kc]; rfl
          clear e0 e1 e2 e3 e4 e5 e6 e7 e8 kc
          go_wp2_with fail
          refine CC.out.mono ?_
          rintro r w6 ⟨rfl, h6, b6, k6⟩
          have T6 := Lib.hid (show TmAt w6 w1.heap.size w1.heap.size (A ++ (y.ce.take (i + 1)).flatMap (·.sg)) from by rw [HXS.out, ← List.append_assoc]; exact h6); have B6 := Lib.hid b6; have K6 := Lib.hid (HK5.out.trans k6); clear h6 b6 k6 CC v8
          go_wp2_with fail
          go_roundw
          case rel => exact ⟨i + 1, by omega, by go_num, T6, B6, K6⟩
          case measure => simp [intOf]; omega
        · obtain rfl : i = sn := by omega
          have KBr := Lib.hid (HK.out _ _ _ _ KB.out (by decide) hcl); have ba := below_alloc wr (.cells #[.int .i64 y.sg.1, .string y.sg.2] 84 (0, 0)); have ks := blk_alloc wr (.cells #[.int .i64 y.sg.1, .string y.sg.2] 84 (0, 0)); have B5 := Hb.out.trans (ba.mono Hb.out.size); have ho := owns_cells13 (B := 0) (cap := 1) (n := 1) (cs := [.int .i64 y.sg.1, .string y.sg.2]) ks (Nat.zero_le _) rfl (by decide) (by decide); have hso : SlAt shSig (wr.alloc (.cells #[.int .i64 y.sg.1, .string y.sg.2] 84 (0, 0))) (some ⟨wr.heap.size, 0, none⟩) 1 1 [y.sg] := sigs_row (B := 0) ho rfl (fun s hs => by rw [List.mem_singleton] at hs; subst hs; exact ⟨hsg1, hsg2⟩) (by decide); have hT : y.ce.take i = y.ce := List.take_of_length_le (by omega)
          rw [hT] at HT
          have CC := Lib.hid ((HT.out.old ba).call B5 hso (by have := HLE.out; have := HLEN.out; rw [List.length_append, List.length_singleton]; omega)); have HK5 := Lib.hid ((HK4.out.trans HK.out).trans (KeepT.below (ob := w1.heap.size) ba))
          have v3 : wr.cell? ⟨wl.heap.size, 3, none⟩ = some (.int .i64 y.sg.1) := by rw [blk_cell KBr.out]; rfl
          have v4 : wr.cell? ⟨wl.heap.size, 4, none⟩ = some (.string y.sg.2) := by rw [blk_cell KBr.out]; rfl
          have lkb := blk_lt KBr.out; clear ba ks B5 ho hso HT Hb hT HK
          go_wp2_with fail
          refine CC.out.mono ?_
          rintro r w6 ⟨rfl, h6, b6, k6⟩
          have T6 := Lib.hid (show TmAt w6 w1.heap.size w1.heap.size (m.sg ++ (m.ch.take (j + 1)).flatMap chT) from by
            rw [HSN.out, ← List.append_assoc, HA.out, show chT y = y.ce.flatMap (·.sg) ++ [y.sg] from rfl, ← List.append_assoc]; exact h6)
          have B6 := Lib.hid b6; have K6 := Lib.hid (HK5.out.trans k6); clear h6 b6 k6 CC v3 v4
          go_wp2_with fail
          go_roundw
          case rel => exact ⟨j + 1, by omega, by go_num, T6, B6, K6⟩
          case measure => simp [intOf]; omega
    · obtain rfl : j = n3 := by omega
      have KMr := Lib.hid (HK.out _ _ _ _ KM3.out (by decide) hob)
      have x16 : wr.cell? ⟨w.heap.size, 16, none⟩ = some (.slice a4 n4 c4) := by rw [blk_cell KMr.out]; rfl
      have hT : m.ch.take j = m.ch := List.take_of_length_le (by omega)
      rw [hT] at HT
      obtain ⟨wo, hwo⟩ : ∃ wo : World, wo = wr := ⟨_, rfl⟩
      subst hwo; clear hT HK KM3
      go_wp2_with fail
      go_loopw [44] (fun i wr => ∃ j : Nat, j ≤ n4 ∧ i = .int .i64 j ∧ Hid (TmAt wr w1.heap.size w1.heap.size (m.sg ++ m.ch.flatMap chT ++ (m.lk.take j).flatMap (·.2))) ∧ Hid (Below w1.heap.size w1 wr)) (fun i _ => n4 - (intOf i).toNat)
      case atStart => exact ⟨0, by omega, rfl, by simpa using HT, Hb⟩
      case round =>
        clear HT Hb x16; obtain ⟨k, hk, rfl, HT, Hb⟩ := hrel
        by_cases hkn : k < n4
        · obtain ⟨cb, co, e, mm, ss, da, dn, dc, sa, sn, sc, rfl, hx, e0, e1, e2, he, hme, hss⟩ := link_cells13 HN.out.lk hkn
          have hi0 : (0 : Int) ≤ (k : Int) := by omega
          have hi1 : (k : Int) < (n4 : Int) := by omega
          replace e0 := below_cell Hb.out e0; replace e1 := below_cell Hb.out e1; replace e2 := below_cell Hb.out e2
          have lc := World.block_lt e0; have hfl := flat_le (f := fun z : Lk => z.2) hx; have ba := below_alloc wr (.cells #[.int .i64 e, .slice da dn dc, .slice sa sn sc] 93 (0, 0)); have kc := blk_alloc wr (.cells #[.int .i64 e, .slice da dn dc, .slice sa sn sc] 93 (0, 0)); have B5 := Hb.out.trans (ba.mono Hb.out.size); have CC := Lib.hid ((HT.out.old ba).call B5 (hss.old B5) (by have := HLEN.out; rw [termsP_eq] at this; simp only [List.length_append] at this ⊢; dsimp only at hfl; omega)); have HXS := Lib.hid (flat_snoc (f := fun z : Lk => z.2) hx); clear hx ba B5 HT Hb hss hme
          go_upto_region 17 with (fail)
          generalize wr.alloc (.cells #[.int .i64 e, .slice da dn dc, .slice sa sn sc] 93 (0, 0)) = w5 at *
          have v2 : w5.cell? ⟨wr.heap.size, 2, none⟩ = some (.slice sa sn sc) := by rw [blk_cell kc]; rfl
          clear e0 e1 e2 kc
          go_wp2_with fail
          refine CC.out.mono ?_
          rintro r w6 ⟨rfl, h6, b6, k6⟩
          have T6 := Lib.hid (show TmAt w6 w1.heap.size w1.heap.size (m.sg ++ m.ch.flatMap chT ++ (m.lk.take (k + 1)).flatMap (·.2)) from by rw [HXS.out, ← List.append_assoc]; exact h6); have B6 := Lib.hid b6; clear h6 b6 k6 CC v2
          go_wp2_with fail
          go_roundw
          case rel => exact ⟨k + 1, by omega, by go_num, T6, B6⟩
          case measure => simp [intOf]; omega
        · obtain rfl : k = n4 := by omega
          have hT : m.lk.take k = m.lk := List.take_of_length_le (by omega)
          rw [hT, ← termsP_eq] at HT
          obtain ⟨_, v, g1, g2, g3⟩ := HT.out; obtain ⟨av, cv, rfl⟩ := owns_form g2
          have v0 : wr.cell? ⟨w1.heap.size, 0, none⟩ = some (.slice av (termsP m).length cv) := by rw [blk_cell g1]; rfl
          have HP := Lib.hid (show TermsPost m w (.returned (.slice av (termsP m).length cv)) wr from ⟨bthen B1.out Hb.out, _, rfl, owns_lower g2 B1.out.size⟩); have l1 := blk_lt g1; clear g1 g2 g3 HT hT Hb
          go_wp2_with fail
          go_ret
          exact HP.out
end Go.Proofs.YtijeieamodjgbaaGreat
/- Walk of the reference's Terms. -/
namespace Go.Proofs.YtijeieamodjgbaaGreat
set_option maxRecDepth 100000
open Go.RowKit
set_option linter.unusedVariables false
set_option linter.unusedSimpArgs false
attribute [local go_sem] run_store_float
def TrAt (w1 w : World) (v : Value) (acc : List Sg) : Prop := Below w1.heap.size w1 w ∧ ∃ a c, v = .slice a acc.length c ∧ w.ownsRow w1.heap.size 84 2 v acc.length (sigV acc)
theorem TrAt.grow {w1 w w' : World} {v v' : Value} {acc l : List Sg} (h : TrAt w1 w v acc) (hg : w.grownBy w' v.ownBlock) (ho : w'.ownsRow w1.heap.size 84 2 v' (acc.length + l.length) (sigV acc ++ sigV l)) : TrAt w1 w' v' (acc ++ l) := by
  obtain ⟨hb, a, c, rfl, h1⟩ := h; have K8 : Keep (fun k => (Value.slice a acc.length c).ownBlock = some k) w w' := (Keep.refl _ w).grown hg (fun k hk => .inr hk); have hb8 : Below w1.heap.size w w' := ⟨K8.os, K8.tape, K8.output, K8.size, fun k hk => K8.block k (Nat.lt_of_lt_of_le hk hb.size) (fun hc => by have := (h1.lt k hc).1; omega)⟩; obtain ⟨a', c', rfl⟩ := owns_form ho
  refine ⟨hb.trans hb8, a', c', by rw [List.length_append], ?_⟩
  rw [List.length_append, show sigV (acc ++ l) = sigV acc ++ sigV l by simp [sigV]]
  exact ho
theorem TrAt.old {w1 w w' : World} {v : Value} {acc : List Sg} (h : TrAt w1 w v acc) (hb : Below w.heap.size w w') : TrAt w1 w' v acc := by
  obtain ⟨h0, a, c, h1, h2⟩ := h
  exact ⟨h0.trans (hb.mono h0.size), a, c, h1, owns_old h2 hb⟩
set_option maxHeartbeats 4000000 in
theorem rterms_any (m : Mg) (a1 : Option Addr) (n1 c1 : Nat) (a2 : Option Addr) (n2 c2 : Nat) (a3 : Option Addr) (n3 c3 : Nat) (a4 : Option Addr) (n4 c4 : Nat) (w : World) (h : MsgIn w m a1 n1 c1 a2 n2 c2 a3 n3 c3 a4 n4 c4) (hb : (termsP m).length * 24 ≤ 140737488355328) :
    Calls Tryz.prog 51 #[.agg (mgCs m a1 n1 c1 a2 n2 c2 a3 n3 c3 a4 n4 c4).toArray] w (TermsPost m w) := by
  obtain ⟨ii, hi, hz0, hz1, hz2⟩ := info_parts info_sig'
  obtain ⟨w1, hw1⟩ : ∃ w1, w1 = w.alloc (.cells (mgCs m a1 n1 c1 a2 n2 c2 a3 n3 c3 a4 n4 c4).toArray 35 (0, 0)) := ⟨_, rfl⟩
  have b1 : Below w.heap.size w w1 := by rw [hw1]; exact below_alloc _ _
  have hz1' : w1.heap.size = w.heap.size + 1 := by rw [hw1]; simp
  have KM := Lib.hid (show w1.heap[w.heap.size]? = some (.cells (mgCs m a1 n1 c1 a2 n2 c2 a3 n3 c3 a4 n4 c4).toArray 35 (0, 0)) by rw [hw1]; exact blk_alloc _ _); have B1 := Lib.hid b1; have HN := Lib.hid (h.old b1); have HLEN := Lib.hid hb
  have x14 : w1.cell? ⟨w.heap.size, 14, none⟩ = some (.slice a2 n2 c2) := by rw [blk_cell KM.out]; rfl
  have x15 : w1.cell? ⟨w.heap.size, 15, none⟩ = some (.slice a3 n3 c3) := by rw [blk_cell KM.out]; rfl
  have x16 : w1.cell? ⟨w.heap.size, 16, none⟩ = some (.slice a4 n4 c4) := by rw [blk_cell KM.out]; rfl
  have l1 := blk_lt KM.out; have hl3 := HN.out.ch.len; have hl4 := HN.out.lk.len; have hm3 := Nat.le_trans HN.out.ch.cap HN.out.ch.max; have hm4 := Nat.le_trans HN.out.lk.cap HN.out.lk.max; clear h hb b1 hz1'
  go_enter Tryz.func51, Tryz.ntmps51
  simp only [mgCs] at *
  go_upto_region 1 with (fail)
  rw [← hw1]; clear hw1 KM; have hn2 := HN.out.sg.len
  have hsl : m.sg.length ≤ (termsP m).length := by simp only [termsP, List.length_append]; omega
  have hHL := HLEN.out; have T0 := Lib.hid (show TrAt w1 w1 (.slice none 0 0) [] from ⟨Below.refl _ _, none, 0, rfl, World.ownsRow_nil _ _ _ _⟩)
  have k1 : 0 + n2 ≤ maxLen := by unfold maxLen; omega
  have k2 : (0 + n2) * 24 ≤ 140737488355328 := by omega
  have q1 : (sigV m.sg).length = n2 * 2 := by rw [sigV_len, hn2]
  have hnil : a2 = none → n2 = 0 ∧ c2 = 0 := fun h => ⟨by have := HN.out.sg.nil h; have := HN.out.sg.cap; omega, HN.out.sg.nil h⟩
  go_wp2_with (first | (at_builtin; refine wpList_append_any_at _ rfl (.const (.slice none 0 0)) (.tmp 8) 31 rfl w1.heap.size 84 ii (.agg #[.int .i64 0, .string ⟨#[]⟩]) 2 24 Tryz.underlying31 hi hz0 hz1 hz2 rfl (by decide) (.slice none 0 0) 0 [] rfl (World.ownsRow_nil _ _ _ _) a2 n2 c2 (sigV m.sg) rfl q1 hnil (sigs_news HN.out.sg) (sigV_one m.sg) k1 k2 (Nat.le_refl _) ?_) | fail)
  intro v3 w3 ho3 hg3 _
  have T3 := Lib.hid (show TrAt w1 w3 v3 m.sg from by
    have := T0.out.grow (l := m.sg) hg3 (show w3.ownsRow w1.heap.size 84 2 v3 (0 + m.sg.length) ([] ++ sigV m.sg) by rw [Nat.zero_add, List.nil_append, hn2]; simpa using ho3)
    rwa [List.nil_append] at this)
  clear ho3 hg3 k1 k2 q1 hnil hn2 hsl hHL T0 x14; have X15 := Lib.hid x15; have X16 := Lib.hid x16; clear x15 x16
  go_wp2_with fail
  have T3' := Lib.hid (show TrAt w1 w3 v3 (m.sg ++ (m.ch.take 0).flatMap chT) by simpa using T3.out); clear T3
  go_loopw [3, 4] (fun v i wr => ∃ j : Nat, j ≤ n3 ∧ i = .int .i64 j ∧ Hid (TrAt w1 wr v (m.sg ++ (m.ch.take j).flatMap chT))) (fun _ i _ => n3 - (intOf i).toNat)
  case atStart => exact ⟨0, by omega, rfl, T3'⟩
  case round =>
    clear T3'; obtain ⟨j, hj, rfl, HT⟩ := hrel; have x15 := below_cell HT.out.1 X15.out; have lr := Nat.lt_of_lt_of_le l1 HT.out.1.size
    by_cases hjn : j < n3
    · obtain ⟨bb, bo, y, sa, sn, sc, rfl, hy, c0, c1', c2', c3', c4', hy1, hy2, hce, hsg1, hsg2⟩ := change_cells HN.out.ch hjn
      have hj0 : (0 : Int) ≤ (j : Int) := by omega
      have hj1 : (j : Int) < (n3 : Int) := by omega
      have C2 := Lib.hid c2'; have C3 := Lib.hid c3'; have C4 := Lib.hid c4'; have lb1 := World.block_lt c0; have HCE := Lib.hid hce; have HY := Lib.hid hy; have hln := hce.len; have hcm := Nat.le_trans hce.cap hce.max
      have HLE := Lib.hid (show (m.sg ++ (m.ch.take j).flatMap chT).length + (chT y).length ≤ (termsP m).length from by
        have := flat_le (f := chT) HY.out
        rw [termsP_eq]; simp only [List.length_append]; omega)
      have HSN := Lib.hid (flat_snoc (f := chT) HY.out); have hchl := Lib.hid (show (chT y).length = (y.ce.flatMap (·.sg)).length + 1 by simp [chT])
      generalize hA0 : m.sg ++ (m.ch.take j).flatMap chT = A0 at *
      have HA0 := Lib.hid hA0; have HT' := Lib.hid (show TrAt w1 wr u3 (A0 ++ (y.ce.take 0).flatMap (·.sg)) by simpa using HT.out); clear c0 c1' c2' c3' c4' hce hy hA0 HT
      go_wp2_with fail
      go_loopw [3, 5] (fun v i wr => ∃ i' : Nat, i' ≤ sn ∧ i = .int .i64 i' ∧ Hid (TrAt w1 wr v (A0 ++ (y.ce.take i').flatMap (·.sg)))) (fun _ i _ => sn - (intOf i).toNat)
      case atStart => exact ⟨0, by omega, rfl, HT'⟩
      case round =>
        clear HT' x15 lr; obtain ⟨i, hi', rfl, HT⟩ := hrel; have x15 := below_cell HT.out.1 X15.out; have lr := Nat.lt_of_lt_of_le l1 HT.out.1.size; have lbr := Nat.lt_of_lt_of_le lb1 HT.out.1.size; have c2r := below_cell HT.out.1 C2.out
        by_cases hin : i < sn
        · obtain ⟨cb, co, x, xa, xn, xc, rfl, hx, e0, e1, e2, e3, e4, e5, e6, e7, e8, hv, hs, hq, hss⟩ := cert_cells HCE.out hin
          have hi0 : (0 : Int) ≤ (i : Int) := by omega
          have hi1 : (i : Int) < (sn : Int) := by omega
          replace e8 := below_cell HT.out.1 e8
          have lc := World.block_lt e8; have hfl := flat_le (f := fun z : Ce => z.sg) hx; have HXS := Lib.hid (flat_snoc (f := fun z : Ce => z.sg) hx); have HSS := Lib.hid (hss.old HT.out.1); obtain ⟨hbT, av, cv, rfl, hoT⟩ := HT.out; have HT2 := Lib.hid HT.out; have HO := Lib.hid hoT; have hBs := hbT.size; have hxn := hss.len
          have hAl : (A0 ++ (y.ce.take i).flatMap (·.sg)).length + xn ≤ (termsP m).length := by
            have := HLE.out; have := hchl.out; rw [List.length_append, ← hxn]; (try dsimp only at hfl); omega
          generalize hA : A0 ++ (y.ce.take i).flatMap (·.sg) = A at *
          have HA := Lib.hid hA; have hHL := HLEN.out
          have k1 : A.length + xn ≤ maxLen := by unfold maxLen; omega
          have k2 : (A.length + xn) * 24 ≤ 140737488355328 := by omega
          have q1 : (sigV x.sg).length = xn * 2 := by rw [sigV_len, hxn]
          have hnil : xa = none → xn = 0 ∧ xc = 0 := fun h => ⟨by have := hss.nil h; have := hss.cap; omega, hss.nil h⟩
          clear hx e0 e1 e2 e3 e4 e5 e6 e7 hss hbT hoT HT hA hfl hAl hHL
          go_wp2_with (first | (at_builtin; refine wpList_append_any_at _ rfl (.tmp 28) (.tmp 38) 31 rfl w1.heap.size 84 ii (.agg #[.int .i64 0, .string ⟨#[]⟩]) 2 24 Tryz.underlying31 hi hz0 hz1 hz2 rfl (by decide) (.slice av A.length cv) A.length (sigV A) rfl HO.out xa xn xc (sigV x.sg) rfl q1 hnil (sigs_news HSS.out) (sigV_one x.sg) k1 k2 hBs ?_) | fail)
          intro v6 w6 ho6 hg6 _
          have T6 := Lib.hid (show TrAt w1 w6 v6 (A0 ++ (y.ce.take (i + 1)).flatMap (·.sg)) from by
            rw [HXS.out, ← List.append_assoc, HA.out]
            exact HT2.out.grow (l := x.sg) hg6 (by rw [hxn]; exact ho6))
          clear ho6 hg6 k1 k2 q1 hnil e8 c2r x15 lr lbr lc
          go_wp2_with fail
          go_roundw
          case rel => exact ⟨i + 1, by omega, by go_num, T6⟩
          case measure => simp [intOf]; omega
        · obtain rfl : i = sn := by omega
          have hT : y.ce.take i = y.ce := List.take_of_length_le (by omega)
          rw [hT] at HT
          have c3r := below_cell HT.out.1 C3.out; have c4r := below_cell HT.out.1 C4.out; obtain ⟨hbT, av, cv, rfl, hoT⟩ := HT.out; have hBs := hbT.size
          have hAl : (A0 ++ y.ce.flatMap (·.sg)).length + 1 ≤ (termsP m).length := by
            have := HLE.out; have := hchl.out; rw [List.length_append]; omega
          generalize hA : A0 ++ y.ce.flatMap (·.sg) = A at *
          have HA := Lib.hid hA; have ba := below_alloc wr (.cells #[.int .i64 y.sg.1, .string y.sg.2] 84 (0, 0)); have ks := blk_alloc wr (.cells #[.int .i64 y.sg.1, .string y.sg.2] 84 (0, 0)); have ho := owns_cells13 (B := 0) (cap := 1) (n := 1) (cs := [.int .i64 y.sg.1, .string y.sg.2]) ks (Nat.zero_le _) rfl (by decide) (by decide); have hso : SlAt shSig (wr.alloc (.cells #[.int .i64 y.sg.1, .string y.sg.2] 84 (0, 0))) (some ⟨wr.heap.size, 0, none⟩) 1 1 [y.sg] := sigs_row (B := 0) ho rfl (fun s hs => by rw [List.mem_singleton] at hs; subst hs; exact ⟨hsg1, hsg2⟩) (by decide); have HT2 := Lib.hid (HT.out.old ba); have HO := Lib.hid (owns_old hoT ba); have HS := Lib.hid hso; have hHL := HLEN.out
          have k1 : A.length + 1 ≤ maxLen := by unfold maxLen; omega
          have k2 : (A.length + 1) * 24 ≤ 140737488355328 := by omega
          have q1 : (sigV [y.sg]).length = 1 * 2 := rfl
          have hnil : (some (⟨wr.heap.size, 0, none⟩ : Addr)) = none → 1 = 0 ∧ 1 = 0 := fun h => by cases h
          have hBs' : w1.heap.size ≤ (wr.alloc (.cells #[.int .i64 y.sg.1, .string y.sg.2] 84 (0, 0))).heap.size := Nat.le_trans hBs ba.size; clear hbT hoT HT hA hAl hHL hT ba ks ho hso
          go_wp2_with (first | (at_builtin; refine wpList_append_any_at _ rfl (.tmp 40) (.tmp 47) 31 rfl w1.heap.size 84 ii (.agg #[.int .i64 0, .string ⟨#[]⟩]) 2 24 Tryz.underlying31 hi hz0 hz1 hz2 rfl (by decide) (.slice av A.length cv) A.length (sigV A) rfl HO.out (some ⟨wr.heap.size, 0, none⟩) 1 1 (sigV [y.sg]) rfl q1 hnil (sigs_news HS.out) (sigV_one [y.sg]) k1 k2 hBs' ?_) | fail)
          intro v6 w6 ho6 hg6 _
          have T6 := Lib.hid (show TrAt w1 w6 v6 (m.sg ++ (m.ch.take (j + 1)).flatMap chT) from by
            rw [HSN.out, ← List.append_assoc, HA0.out, show chT y = y.ce.flatMap (·.sg) ++ [y.sg] from rfl, ← List.append_assoc, HA.out]
            exact HT2.out.grow (l := [y.sg]) hg6 ho6)
          clear ho6 hg6 k1 k2 q1 hnil c3r c4r c2r x15 lr lbr hBs'
          go_wp2_with fail
          go_roundw
          case rel => exact ⟨j + 1, by omega, by go_num, T6⟩
          case measure => simp [intOf]; omega
    · obtain rfl : j = n3 := by omega
      have hT : m.ch.take j = m.ch := List.take_of_length_le (by omega)
      rw [hT] at HT
      have HT' := Lib.hid (show TrAt w1 wr u3 (m.sg ++ m.ch.flatMap chT ++ (m.lk.take 0).flatMap (·.2)) by simpa using HT.out); clear hT HT
      go_wp2_with fail
      go_loopw [3, 6] (fun v i wr => ∃ k : Nat, k ≤ n4 ∧ i = .int .i64 k ∧ Hid (TrAt w1 wr v (m.sg ++ m.ch.flatMap chT ++ (m.lk.take k).flatMap (·.2)))) (fun _ i _ => n4 - (intOf i).toNat)
      case atStart => exact ⟨0, by omega, rfl, HT'⟩
      case round =>
        clear HT' x15 lr; obtain ⟨k, hk, rfl, HT⟩ := hrel; have x16 := below_cell HT.out.1 X16.out; have lr := Nat.lt_of_lt_of_le l1 HT.out.1.size
        by_cases hkn : k < n4
        · obtain ⟨cb, co, e, mm, ss, da, dn, dc, sa, sn, sc, rfl, hx, e0, e1, e2, he, hme, hss⟩ := link_cells13 HN.out.lk hkn
          have hi0 : (0 : Int) ≤ (k : Int) := by omega
          have hi1 : (k : Int) < (n4 : Int) := by omega
          replace e2 := below_cell HT.out.1 e2
          have lc := World.block_lt e2; have hfl := flat_le (f := fun z : Lk => z.2) hx; have HXS := Lib.hid (flat_snoc (f := fun z : Lk => z.2) hx); have HSS := Lib.hid (hss.old HT.out.1); obtain ⟨hbT, av, cv, rfl, hoT⟩ := HT.out; have HT2 := Lib.hid HT.out; have HO := Lib.hid hoT; have hBs := hbT.size; have hxn := hss.len
          have hAl : (m.sg ++ m.ch.flatMap chT ++ (m.lk.take k).flatMap (·.2)).length + sn ≤ (termsP m).length := by
            rw [termsP_eq, ← hxn]; simp only [List.length_append]; (try dsimp only at hfl); omega
          generalize hA : m.sg ++ m.ch.flatMap chT ++ (m.lk.take k).flatMap (·.2) = A at *
          have HA := Lib.hid hA; have hHL := HLEN.out
          have k1 : A.length + sn ≤ maxLen := by unfold maxLen; omega
          have k2 : (A.length + sn) * 24 ≤ 140737488355328 := by omega
          have q1 : (sigV ss).length = sn * 2 := by rw [sigV_len, hxn]
          have hnil : sa = none → sn = 0 ∧ sc = 0 := fun h => ⟨by have := hss.nil h; have := hss.cap; omega, hss.nil h⟩
          clear hx e0 e1 hss hbT hoT HT hA hfl hAl hHL hme
          go_wp2_with (first | (at_builtin; refine wpList_append_any_at _ rfl (.tmp 56) (.tmp 62) 31 rfl w1.heap.size 84 ii (.agg #[.int .i64 0, .string ⟨#[]⟩]) 2 24 Tryz.underlying31 hi hz0 hz1 hz2 rfl (by decide) (.slice av A.length cv) A.length (sigV A) rfl HO.out sa sn sc (sigV ss) rfl q1 hnil (sigs_news HSS.out) (sigV_one ss) k1 k2 hBs ?_) | fail)
          intro v6 w6 ho6 hg6 _
          have T6 := Lib.hid (show TrAt w1 w6 v6 (m.sg ++ m.ch.flatMap chT ++ (m.lk.take (k + 1)).flatMap (·.2)) from by
            rw [HXS.out, ← List.append_assoc, HA.out]
            exact HT2.out.grow (l := ss) hg6 (by rw [hxn]; exact ho6))
          clear ho6 hg6 k1 k2 q1 hnil e2 x16 lr lc
          go_wp2_with fail
          go_roundw
          case rel => exact ⟨k + 1, by omega, by go_num, T6⟩
          case measure => simp [intOf]; omega
        · obtain rfl : k = n4 := by omega
          have hT : m.lk.take k = m.lk := List.take_of_length_le (by omega)
          rw [hT, ← termsP_eq] at HT
          obtain ⟨hbT, av, cv, rfl, hoT⟩ := HT.out; have HP := Lib.hid (show TermsPost m w (.returned (.slice av (termsP m).length cv)) wr from ⟨bthen B1.out hbT, _, rfl, owns_lower hoT B1.out.size⟩); clear hbT hoT HT hT
          go_wp2_with fail
          go_ret
          exact HP.out
theorem cells13 {α : Type} {S : Sh α} {w : World} {a : Option Addr} {n c : Nat} {l : List α} (h : SlAt S w a n c l) {P : α → Prop} (hP : ∀ w y cs, S.E w y cs → P y) : ∀ y ∈ l, P y := fun y hy => by
  obtain ⟨i, hi, rfl⟩ := List.getElem_of_mem hy; obtain ⟨b, o, cs, _, hE, _⟩ := h.cell i _ (List.getElem?_eq_getElem hi)
  exact hP _ _ _ hE
theorem terms_fine {w : World} {m : Mg} {a1 : Option Addr} {n1 c1 : Nat} {a2 : Option Addr} {n2 c2 : Nat} {a3 : Option Addr} {n3 c3 : Nat} {a4 : Option Addr} {n4 c4 : Nat} (h : MsgIn w m a1 n1 c1 a2 n2 c2 a3 n3 c3 a4 n4 c4) : ∀ s ∈ termsP m, i64 s.1 ∧ s.2.size ≤ 1125899906842624 := by
  intro s hs
  rw [termsP_eq, List.mem_append, List.mem_append] at hs
  rcases hs with (hs | hs) | hs
  · exact sl_fit h.sg s hs
  · obtain ⟨c, hc, hs⟩ := List.mem_flatMap.1 hs
    refine cells13 h.ch (P := fun c => ∀ s ∈ chT c, i64 s.1 ∧ s.2.size ≤ 1125899906842624) (fun w y cs hE => ?_) c hc s hs
    obtain ⟨a, n, c, rfl, _, _, h3, h4, h5⟩ := change_open hE; intro s hs
    unfold chT at hs
    rw [List.mem_append] at hs
    rcases hs with hs | hs
    · obtain ⟨x, hx, hs⟩ := List.mem_flatMap.1 hs
      refine cells13 h3 (P := fun x => ∀ s ∈ x.sg, i64 s.1 ∧ s.2.size ≤ 1125899906842624) (fun w x cs hx => ?_) x hx s hs
      obtain ⟨a, n, c, rfl, _, _, _, h4⟩ := cert_open hx
      exact sl_fit h4
    · rw [List.mem_singleton] at hs
      subst hs
      exact ⟨h4, h5⟩
  · obtain ⟨c, hc, hs⟩ := List.mem_flatMap.1 hs
    refine cells13 h.lk (P := fun c => ∀ s ∈ c.2, i64 s.1 ∧ s.2.size ≤ 1125899906842624) (fun w y cs hE => ?_) c hc s hs
    obtain ⟨e, l, s', a, n, c, sa, sn, sc, rfl, rfl, _, _, h4⟩ := link_open hE
    exact sl_fit h4
theorem flat_sz {α : Type} (f : α → List Sg) (z : α → Nat) (h : ∀ x, (f x).length ≤ z x) : ∀ l : List α, (l.flatMap f).length ≤ (l.map z).sum
  | [] => by simp
  | x :: r => by
    rw [List.flatMap_cons, List.length_append, List.map_cons, List.sum_cons]; have h1 := flat_sz f z h r; have h2 := h x
    omega
theorem sigs_sz (l : List Sg) : l.length ≤ (l.map shSig.sz).sum := by
  have h := flat_sz (fun x : Sg => [x]) shSig.sz (fun x => by show 1 ≤ 1 + (x.2.size + 1); omega) l
  simpa using h
theorem chT_sz (c : Ch) : (chT c).length ≤ shChange.sz c := by
  have h := flat_sz (fun x : Ce => x.sg) shCert.sz (fun x => by
    have := sigs_sz x.sg
    show x.sg.length ≤ 1 + (1 + (shReq.sz x.q + ((x.sg.map shSig.sz).sum + 1)))
    omega) c.ce
  show (c.ce.flatMap (·.sg) ++ [c.sg]).length ≤ 1 + (1 + (((c.ce.map shCert.sz).sum + 1) + shSig.sz c.sg))
  have h1 : 1 ≤ shSig.sz c.sg := by show 1 ≤ 1 + (c.sg.2.size + 1); omega
  rw [List.length_append, List.length_singleton]
  omega
theorem terms_sz (m : Mg) : (termsP m).length ≤ shMsg.sz m := by
  have h1 := sigs_sz m.sg; have h2 := flat_sz chT shChange.sz chT_sz m.ch
  have h3 := flat_sz (fun x : Lk => x.2) shLink.sz (fun x => by
    have := sigs_sz x.2
    show x.2.length ≤ shConf.sz x.1 + ((x.2.map shSig.sz).sum + 1)
    omega) m.lk
  have h4 : (termsP m).length = m.sg.length + (m.ch.flatMap chT).length + (m.lk.flatMap (·.2)).length := by rw [termsP_eq, List.length_append, List.length_append]
  show (termsP m).length ≤ 1 + (1 + (1 + (1 + (shReq.sz m.q + (shRes.sz (m.c, m.r) + (Sh.str.sz m.t + (Sh.int.slice.sz m.nx + (((m.sg.map shSig.sz).sum + 1) + (((m.ch.map shChange.sz).sum + 1) + ((m.lk.map shLink.sz).sum + 1))))))))))
  omega
end Go.Proofs.YtijeieamodjgbaaGreat
