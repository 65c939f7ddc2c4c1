
/- Walk of the reference's Terms. -/
import Derived.Test.YtijeieamodjgbaaWt
namespace Go.Proofs.Ytijeieamodjgbaa
set_option maxRecDepth 100000
open Go.RowKit
set_option linter.unusedVariables false
set_option linter.unusedSimpArgs false
attribute [local go_sem] run_store_float

/-- A row of signatures under way. -/
def TrAt (w1 w : World) (v : Value) (acc : List Sg) : Prop := Below w1.heap.size w1 w ∧ ∃ a c, v = .slice a acc.length c ∧ w.ownsRow w1.heap.size 49 2 v acc.length (sigV acc)
theorem TrAt.grow {w1 w w' : World} {v v' : Value} {acc l : List Sg} (h : TrAt w1 w v acc) (hg : w.grownBy w' v.ownBlock) (ho : w'.ownsRow w1.heap.size 49 2 v' (acc.length + l.length) (sigV acc ++ sigV l)) : TrAt w1 w' v' (acc ++ l) := by
  obtain ⟨hb, a, c, rfl, h1⟩ := h
  have K8 : Keep (fun k => (Value.slice a acc.length c).ownBlock = some k) w w' := (Keep.refl _ w).grown hg (fun k hk => .inr hk)
  have hb8 : Below w1.heap.size w w' := ⟨K8.os, K8.tape, K8.output, K8.size, fun k hk => K8.block k (Nat.lt_of_lt_of_le hk hb.size) (fun hc => by have := (h1.lt k hc).1; omega)⟩
  obtain ⟨a', c', rfl⟩ := owns_form ho
  refine ⟨hb.trans hb8, a', c', by rw [List.length_append], ?_⟩
  rw [List.length_append, show sigV (acc ++ l) = sigV acc ++ sigV l by simp [sigV]]
  exact ho
theorem TrAt.old {w1 w w' : World} {v : Value} {acc : List Sg} (h : TrAt w1 w v acc) (hb : Below w.heap.size w w') : TrAt w1 w' v acc := by
  obtain ⟨h0, a, c, h1, h2⟩ := h
  exact ⟨h0.trans (hb.mono h0.size), a, c, h1, owns_old h2 hb⟩
set_option maxHeartbeats 4000000 in
theorem rterms_any (m : Mg) (a1 : Option Addr) (n1 c1 : Nat) (a2 : Option Addr) (n2 c2 : Nat) (a3 : Option Addr) (n3 c3 : Nat) (a4 : Option Addr) (n4 c4 : Nat) (w : World) (h : MsgIn w m a1 n1 c1 a2 n2 c2 a3 n3 c3 a4 n4 c4) (hb : (termsP m).length * 24 ≤ 140737488355328) :
    Calls Try.prog 18 #[.agg (mgCs m a1 n1 c1 a2 n2 c2 a3 n3 c3 a4 n4 c4).toArray] w (TermsPost m w) := by
  obtain ⟨ii, hi, hz0, hz1, hz2⟩ := info_parts info_sig'
  obtain ⟨w1, hw1⟩ : ∃ w1, w1 = w.alloc (.cells (mgCs m a1 n1 c1 a2 n2 c2 a3 n3 c3 a4 n4 c4).toArray 34 (0, 0)) := ⟨_, rfl⟩
  have b1 : Below w.heap.size w w1 := by rw [hw1]; exact below_alloc _ _
  have hz1' : w1.heap.size = w.heap.size + 1 := by rw [hw1]; simp
  have KM := Lib.hid (show w1.heap[w.heap.size]? = some (.cells (mgCs m a1 n1 c1 a2 n2 c2 a3 n3 c3 a4 n4 c4).toArray 34 (0, 0)) by rw [hw1]; exact blk_alloc _ _)
  have B1 := Lib.hid b1
  have HN := Lib.hid (h.old b1)
  have HLEN := Lib.hid hb
  have x14 : w1.cell? ⟨w.heap.size, 14, none⟩ = some (.slice a2 n2 c2) := by rw [blk_cell KM.out]; rfl
  have x15 : w1.cell? ⟨w.heap.size, 15, none⟩ = some (.slice a3 n3 c3) := by rw [blk_cell KM.out]; rfl
  have x16 : w1.cell? ⟨w.heap.size, 16, none⟩ = some (.slice a4 n4 c4) := by rw [blk_cell KM.out]; rfl
  have l1 := blk_lt KM.out
  have hl3 := HN.out.ch.len
  have hl4 := HN.out.lk.len
  have hm3 := Nat.le_trans HN.out.ch.cap HN.out.ch.max
  have hm4 := Nat.le_trans HN.out.lk.cap HN.out.lk.max
  clear h hb b1 hz1'
  go_enter Try.func18, Try.ntmps18
  simp only [mgCs] at *
  go_upto_region 1 with (fail)
  rw [← hw1]
  clear hw1 KM
  have hn2 := HN.out.sg.len
  have hsl : m.sg.length ≤ (termsP m).length := by simp only [termsP, List.length_append]; omega
  have hHL := HLEN.out
  have T0 := Lib.hid (show TrAt w1 w1 (.slice none 0 0) [] from ⟨Below.refl _ _, none, 0, rfl, World.ownsRow_nil _ _ _ _⟩)
  have k1 : 0 + n2 ≤ maxLen := by unfold maxLen; omega
  have k2 : (0 + n2) * 24 ≤ 140737488355328 := by omega
  have q1 : (sigV m.sg).length = n2 * 2 := by rw [sigV_len, hn2]
  have hnil : a2 = none → n2 = 0 ∧ c2 = 0 := fun h => ⟨by have := HN.out.sg.nil h; have := HN.out.sg.cap; omega, HN.out.sg.nil h⟩
  go_wp2_with (first | (at_builtin; refine wpList_append_any_at _ rfl (.const (.slice none 0 0)) (.tmp 8) 30 rfl w1.heap.size 49 ii (.agg #[.int .i64 0, .string ⟨#[]⟩]) 2 24 Try.underlying30 hi hz0 hz1 hz2 rfl (by decide) (.slice none 0 0) 0 [] rfl (World.ownsRow_nil _ _ _ _) a2 n2 c2 (sigV m.sg) rfl q1 hnil (sigs_news HN.out.sg) (sigV_one m.sg) k1 k2 (Nat.le_refl _) ?_) | fail)
  intro v3 w3 ho3 hg3 _
  have T3 := Lib.hid (show TrAt w1 w3 v3 m.sg from by
    have := T0.out.grow (l := m.sg) hg3 (show w3.ownsRow w1.heap.size 49 2 v3 (0 + m.sg.length) ([] ++ sigV m.sg) by rw [Nat.zero_add, List.nil_append, hn2]; simpa using ho3)
    rwa [List.nil_append] at this)
  clear ho3 hg3 k1 k2 q1 hnil hn2 hsl hHL T0 x14
  have X15 := Lib.hid x15; have X16 := Lib.hid x16
  clear x15 x16
  go_wp2_with fail
  have T3' := Lib.hid (show TrAt w1 w3 v3 (m.sg ++ (m.ch.take 0).flatMap chT) by simpa using T3.out)
  clear T3
  go_loopw [3, 4] (fun v i wr => ∃ j : Nat, j ≤ n3 ∧ i = .int .i64 j ∧ Hid (TrAt w1 wr v (m.sg ++ (m.ch.take j).flatMap chT))) (fun _ i _ => n3 - (intOf i).toNat)
  case atStart => exact ⟨0, by omega, rfl, T3'⟩
  case round =>
    clear T3'
    obtain ⟨j, hj, rfl, HT⟩ := hrel
    have x15 := below_cell HT.out.1 X15.out
    have lr := Nat.lt_of_lt_of_le l1 HT.out.1.size
    by_cases hjn : j < n3
    · obtain ⟨bb, bo, y, sa, sn, sc, rfl, hy, c0, c1', c2', c3', c4', hy1, hy2, hce, hsg1, hsg2⟩ := change_cells HN.out.ch hjn
      have hj0 : (0 : Int) ≤ (j : Int) := by omega
      have hj1 : (j : Int) < (n3 : Int) := by omega
      have C2 := Lib.hid c2'; have C3 := Lib.hid c3'; have C4 := Lib.hid c4'
      have lb1 := World.block_lt c0
      have HCE := Lib.hid hce
      have HY := Lib.hid hy
      have hln := hce.len
      have hcm := Nat.le_trans hce.cap hce.max
      have HLE := Lib.hid (show (m.sg ++ (m.ch.take j).flatMap chT).length + (chT y).length ≤ (termsP m).length from by
        have := flat_le (f := chT) HY.out
        rw [termsP_eq]; simp only [List.length_append]; omega)
      have HSN := Lib.hid (flat_snoc (f := chT) HY.out)
      have hchl := Lib.hid (show (chT y).length = (y.ce.flatMap (·.sg)).length + 1 by simp [chT])
      generalize hA0 : m.sg ++ (m.ch.take j).flatMap chT = A0 at *
      have HA0 := Lib.hid hA0
      have HT' := Lib.hid (show TrAt w1 wr u3 (A0 ++ (y.ce.take 0).flatMap (·.sg)) by simpa using HT.out)
      clear c0 c1' c2' c3' c4' hce hy hA0 HT
      go_wp2_with fail
      go_loopw [3, 5] (fun v i wr => ∃ i' : Nat, i' ≤ sn ∧ i = .int .i64 i' ∧ Hid (TrAt w1 wr v (A0 ++ (y.ce.take i').flatMap (·.sg)))) (fun _ i _ => sn - (intOf i).toNat)
      case atStart => exact ⟨0, by omega, rfl, HT'⟩
      case round =>
        clear HT' x15 lr
        obtain ⟨i, hi', rfl, HT⟩ := hrel
        have x15 := below_cell HT.out.1 X15.out
        have lr := Nat.lt_of_lt_of_le l1 HT.out.1.size
        have lbr := Nat.lt_of_lt_of_le lb1 HT.out.1.size
        have c2r := below_cell HT.out.1 C2.out
        by_cases hin : i < sn
        · obtain ⟨cb, co, x, xa, xn, xc, rfl, hx, e0, e1, e2, e3, e4, e5, e6, e7, e8, hv, hs, hq, hss⟩ := cert_cells HCE.out hin
          have hi0 : (0 : Int) ≤ (i : Int) := by omega
          have hi1 : (i : Int) < (sn : Int) := by omega
          replace e8 := below_cell HT.out.1 e8
          have lc := World.block_lt e8
          have hfl := flat_le (f := fun z : Ce => z.sg) hx
          have HXS := Lib.hid (flat_snoc (f := fun z : Ce => z.sg) hx)
          have HSS := Lib.hid (hss.old HT.out.1)
          obtain ⟨hbT, av, cv, rfl, hoT⟩ := HT.out
          have HT2 := Lib.hid HT.out
          have HO := Lib.hid hoT
          have hBs := hbT.size
          have hxn := hss.len
          have hAl : (A0 ++ (y.ce.take i).flatMap (·.sg)).length + xn ≤ (termsP m).length := by
            have := HLE.out; have := hchl.out; rw [List.length_append, ← hxn]; (try dsimp only at hfl); omega
          generalize hA : A0 ++ (y.ce.take i).flatMap (·.sg) = A at *
          have HA := Lib.hid hA
          have hHL := HLEN.out
          have k1 : A.length + xn ≤ maxLen := by unfold maxLen; omega
          have k2 : (A.length + xn) * 24 ≤ 140737488355328 := by omega
          have q1 : (sigV x.sg).length = xn * 2 := by rw [sigV_len, hxn]
          have hnil : xa = none → xn = 0 ∧ xc = 0 := fun h => ⟨by have := hss.nil h; have := hss.cap; omega, hss.nil h⟩
          clear hx e0 e1 e2 e3 e4 e5 e6 e7 hss hbT hoT HT hA hfl hAl hHL
          go_wp2_with (first | (at_builtin; refine wpList_append_any_at _ rfl (.tmp 28) (.tmp 38) 30 rfl w1.heap.size 49 ii (.agg #[.int .i64 0, .string ⟨#[]⟩]) 2 24 Try.underlying30 hi hz0 hz1 hz2 rfl (by decide) (.slice av A.length cv) A.length (sigV A) rfl HO.out xa xn xc (sigV x.sg) rfl q1 hnil (sigs_news HSS.out) (sigV_one x.sg) k1 k2 hBs ?_) | fail)
          intro v6 w6 ho6 hg6 _
          have T6 := Lib.hid (show TrAt w1 w6 v6 (A0 ++ (y.ce.take (i + 1)).flatMap (·.sg)) from by
            rw [HXS.out, ← List.append_assoc, HA.out]
            exact HT2.out.grow (l := x.sg) hg6 (by rw [hxn]; exact ho6))
          clear ho6 hg6 k1 k2 q1 hnil e8 c2r x15 lr lbr lc
          go_wp2_with fail
          go_roundw
          case rel => exact ⟨i + 1, by omega, by go_num, T6⟩
          case measure => simp [intOf]; omega
        · obtain rfl : i = sn := by omega
          have hT : y.ce.take i = y.ce := List.take_of_length_le (by omega)
          rw [hT] at HT
          have c3r := below_cell HT.out.1 C3.out
          have c4r := below_cell HT.out.1 C4.out
          obtain ⟨hbT, av, cv, rfl, hoT⟩ := HT.out
          have hBs := hbT.size
          have hAl : (A0 ++ y.ce.flatMap (·.sg)).length + 1 ≤ (termsP m).length := by
            have := HLE.out; have := hchl.out; rw [List.length_append]; omega
          generalize hA : A0 ++ y.ce.flatMap (·.sg) = A at *
          have HA := Lib.hid hA
          have ba := below_alloc wr (.cells #[.int .i64 y.sg.1, .string y.sg.2] 49 (0, 0))
          have ks := blk_alloc wr (.cells #[.int .i64 y.sg.1, .string y.sg.2] 49 (0, 0))
          have ho := owns_cells13 (B := 0) (cap := 1) (n := 1) (cs := [.int .i64 y.sg.1, .string y.sg.2]) ks (Nat.zero_le _) rfl (by decide) (by decide)
          have hso : SlAt shSig (wr.alloc (.cells #[.int .i64 y.sg.1, .string y.sg.2] 49 (0, 0))) (some ⟨wr.heap.size, 0, none⟩) 1 1 [y.sg] := sigs_row (B := 0) ho rfl (fun s hs => by rw [List.mem_singleton] at hs; subst hs; exact ⟨hsg1, hsg2⟩) (by decide)
          have HT2 := Lib.hid (HT.out.old ba)
          have HO := Lib.hid (owns_old hoT ba)
          have HS := Lib.hid hso
          have hHL := HLEN.out
          have k1 : A.length + 1 ≤ maxLen := by unfold maxLen; omega
          have k2 : (A.length + 1) * 24 ≤ 140737488355328 := by omega
          have q1 : (sigV [y.sg]).length = 1 * 2 := rfl
          have hnil : (some (⟨wr.heap.size, 0, none⟩ : Addr)) = none → 1 = 0 ∧ 1 = 0 := fun h => by cases h
          have hBs' : w1.heap.size ≤ (wr.alloc (.cells #[.int .i64 y.sg.1, .string y.sg.2] 49 (0, 0))).heap.size := Nat.le_trans hBs ba.size
          clear hbT hoT HT hA hAl hHL hT ba ks ho hso
          go_wp2_with (first | (at_builtin; refine wpList_append_any_at _ rfl (.tmp 40) (.tmp 47) 30 rfl w1.heap.size 49 ii (.agg #[.int .i64 0, .string ⟨#[]⟩]) 2 24 Try.underlying30 hi hz0 hz1 hz2 rfl (by decide) (.slice av A.length cv) A.length (sigV A) rfl HO.out (some ⟨wr.heap.size, 0, none⟩) 1 1 (sigV [y.sg]) rfl q1 hnil (sigs_news HS.out) (sigV_one [y.sg]) k1 k2 hBs' ?_) | fail)
          intro v6 w6 ho6 hg6 _
          have T6 := Lib.hid (show TrAt w1 w6 v6 (m.sg ++ (m.ch.take (j + 1)).flatMap chT) from by
            rw [HSN.out, ← List.append_assoc, HA0.out, show chT y = y.ce.flatMap (·.sg) ++ [y.sg] from rfl, ← List.append_assoc, HA.out]
            exact HT2.out.grow (l := [y.sg]) hg6 ho6)
          clear ho6 hg6 k1 k2 q1 hnil c3r c4r c2r x15 lr lbr hBs'
          go_wp2_with fail
          go_roundw
          case rel => exact ⟨j + 1, by omega, by go_num, T6⟩
          case measure => simp [intOf]; omega
    · obtain rfl : j = n3 := by omega
      have hT : m.ch.take j = m.ch := List.take_of_length_le (by omega)
      rw [hT] at HT
      have HT' := Lib.hid (show TrAt w1 wr u3 (m.sg ++ m.ch.flatMap chT ++ (m.lk.take 0).flatMap (·.2)) by simpa using HT.out)
      clear hT HT
      go_wp2_with fail
      go_loopw [3, 6] (fun v i wr => ∃ k : Nat, k ≤ n4 ∧ i = .int .i64 k ∧ Hid (TrAt w1 wr v (m.sg ++ m.ch.flatMap chT ++ (m.lk.take k).flatMap (·.2)))) (fun _ i _ => n4 - (intOf i).toNat)
      case atStart => exact ⟨0, by omega, rfl, HT'⟩
      case round =>
        clear HT' x15 lr
        obtain ⟨k, hk, rfl, HT⟩ := hrel
        have x16 := below_cell HT.out.1 X16.out
        have lr := Nat.lt_of_lt_of_le l1 HT.out.1.size
        by_cases hkn : k < n4
        · obtain ⟨cb, co, e, mm, ss, da, dn, dc, sa, sn, sc, rfl, hx, e0, e1, e2, he, hme, hss⟩ := link_cells13 HN.out.lk hkn
          have hi0 : (0 : Int) ≤ (k : Int) := by omega
          have hi1 : (k : Int) < (n4 : Int) := by omega
          replace e2 := below_cell HT.out.1 e2
          have lc := World.block_lt e2
          have hfl := flat_le (f := fun z : Lk => z.2) hx
          have HXS := Lib.hid (flat_snoc (f := fun z : Lk => z.2) hx)
          have HSS := Lib.hid (hss.old HT.out.1)
          obtain ⟨hbT, av, cv, rfl, hoT⟩ := HT.out
          have HT2 := Lib.hid HT.out
          have HO := Lib.hid hoT
          have hBs := hbT.size
          have hxn := hss.len
          have hAl : (m.sg ++ m.ch.flatMap chT ++ (m.lk.take k).flatMap (·.2)).length + sn ≤ (termsP m).length := by
            rw [termsP_eq, ← hxn]; simp only [List.length_append]; (try dsimp only at hfl); omega
          generalize hA : m.sg ++ m.ch.flatMap chT ++ (m.lk.take k).flatMap (·.2) = A at *
          have HA := Lib.hid hA
          have hHL := HLEN.out
          have k1 : A.length + sn ≤ maxLen := by unfold maxLen; omega
          have k2 : (A.length + sn) * 24 ≤ 140737488355328 := by omega
          have q1 : (sigV ss).length = sn * 2 := by rw [sigV_len, hxn]
          have hnil : sa = none → sn = 0 ∧ sc = 0 := fun h => ⟨by have := hss.nil h; have := hss.cap; omega, hss.nil h⟩
          clear hx e0 e1 hss hbT hoT HT hA hfl hAl hHL hme
          go_wp2_with (first | (at_builtin; refine wpList_append_any_at _ rfl (.tmp 56) (.tmp 62) 30 rfl w1.heap.size 49 ii (.agg #[.int .i64 0, .string ⟨#[]⟩]) 2 24 Try.underlying30 hi hz0 hz1 hz2 rfl (by decide) (.slice av A.length cv) A.length (sigV A) rfl HO.out sa sn sc (sigV ss) rfl q1 hnil (sigs_news HSS.out) (sigV_one ss) k1 k2 hBs ?_) | fail)
          intro v6 w6 ho6 hg6 _
          have T6 := Lib.hid (show TrAt w1 w6 v6 (m.sg ++ m.ch.flatMap chT ++ (m.lk.take (k + 1)).flatMap (·.2)) from by
            rw [HXS.out, ← List.append_assoc, HA.out]
            exact HT2.out.grow (l := ss) hg6 (by rw [hxn]; exact ho6))
          clear ho6 hg6 k1 k2 q1 hnil e2 x16 lr lc
          go_wp2_with fail
          go_roundw
          case rel => exact ⟨k + 1, by omega, by go_num, T6⟩
          case measure => simp [intOf]; omega
        · obtain rfl : k = n4 := by omega
          have hT : m.lk.take k = m.lk := List.take_of_length_le (by omega)
          rw [hT, ← termsP_eq] at HT
          obtain ⟨hbT, av, cv, rfl, hoT⟩ := HT.out
          have HP := Lib.hid (show TermsPost m w (.returned (.slice av (termsP m).length cv)) wr from ⟨bthen B1.out hbT, _, rfl, owns_lower hoT B1.out.size⟩)
          clear hbT hoT HT hT
          go_wp2_with fail
          go_ret
          exact HP.out
theorem cells13 {α : Type} {S : Sh α} {w : World} {a : Option Addr} {n c : Nat} {l : List α} (h : SlAt S w a n c l) {P : α → Prop} (hP : ∀ w y cs, S.E w y cs → P y) : ∀ y ∈ l, P y := fun y hy => by
  obtain ⟨i, hi, rfl⟩ := List.getElem_of_mem hy
  obtain ⟨b, o, cs, _, hE, _⟩ := h.cell i _ (List.getElem?_eq_getElem hi)
  exact hP _ _ _ hE
theorem terms_fine {w : World} {m : Mg} {a1 : Option Addr} {n1 c1 : Nat} {a2 : Option Addr} {n2 c2 : Nat} {a3 : Option Addr} {n3 c3 : Nat} {a4 : Option Addr} {n4 c4 : Nat} (h : MsgIn w m a1 n1 c1 a2 n2 c2 a3 n3 c3 a4 n4 c4) : ∀ s ∈ termsP m, i64 s.1 ∧ s.2.size ≤ 1125899906842624 := by
  intro s hs
  rw [termsP_eq, List.mem_append, List.mem_append] at hs
  rcases hs with (hs | hs) | hs
  · exact sl_fit h.sg s hs
  · obtain ⟨c, hc, hs⟩ := List.mem_flatMap.1 hs
    refine cells13 h.ch (P := fun c => ∀ s ∈ chT c, i64 s.1 ∧ s.2.size ≤ 1125899906842624) (fun w y cs hE => ?_) c hc s hs
    obtain ⟨a, n, c, rfl, _, _, h3, h4, h5⟩ := change_open hE
    intro s hs
    unfold chT at hs
    rw [List.mem_append] at hs
    rcases hs with hs | hs
    · obtain ⟨x, hx, hs⟩ := List.mem_flatMap.1 hs
      refine cells13 h3 (P := fun x => ∀ s ∈ x.sg, i64 s.1 ∧ s.2.size ≤ 1125899906842624) (fun w x cs hx => ?_) x hx s hs
      obtain ⟨a, n, c, rfl, _, _, _, h4⟩ := cert_open hx
      exact sl_fit h4
    · rw [List.mem_singleton] at hs
      subst hs
      exact ⟨h4, h5⟩
  · obtain ⟨c, hc, hs⟩ := List.mem_flatMap.1 hs
    refine cells13 h.lk (P := fun c => ∀ s ∈ c.2, i64 s.1 ∧ s.2.size ≤ 1125899906842624) (fun w y cs hE => ?_) c hc s hs
    obtain ⟨e, l, s', a, n, c, sa, sn, sc, rfl, rfl, _, _, h4⟩ := link_open hE
    exact sl_fit h4
theorem flat_sz {α : Type} (f : α → List Sg) (z : α → Nat) (h : ∀ x, (f x).length ≤ z x) : ∀ l : List α, (l.flatMap f).length ≤ (l.map z).sum
  | [] => by simp
  | x :: r => by
    rw [List.flatMap_cons, List.length_append, List.map_cons, List.sum_cons]
    have h1 := flat_sz f z h r
    have h2 := h x
    omega
theorem sigs_sz (l : List Sg) : l.length ≤ (l.map shSig.sz).sum := by
  have h := flat_sz (fun x : Sg => [x]) shSig.sz (fun x => by show 1 ≤ 1 + (x.2.size + 1); omega) l
  simpa using h
theorem chT_sz (c : Ch) : (chT c).length ≤ shChange.sz c := by
  have h := flat_sz (fun x : Ce => x.sg) shCert.sz (fun x => by
    have := sigs_sz x.sg
    show x.sg.length ≤ 1 + (1 + (shReq.sz x.q + ((x.sg.map shSig.sz).sum + 1)))
    omega) c.ce
  show (c.ce.flatMap (·.sg) ++ [c.sg]).length ≤ 1 + (1 + (((c.ce.map shCert.sz).sum + 1) + shSig.sz c.sg))
  have h1 : 1 ≤ shSig.sz c.sg := by show 1 ≤ 1 + (c.sg.2.size + 1); omega
  rw [List.length_append, List.length_singleton]
  omega
theorem terms_sz (m : Mg) : (termsP m).length ≤ shMsg.sz m := by
  have h1 := sigs_sz m.sg
  have h2 := flat_sz chT shChange.sz chT_sz m.ch
  have h3 := flat_sz (fun x : Lk => x.2) shLink.sz (fun x => by
    have := sigs_sz x.2
    show x.2.length ≤ shConf.sz x.1 + ((x.2.map shSig.sz).sum + 1)
    omega) m.lk
  have h4 : (termsP m).length = m.sg.length + (m.ch.flatMap chT).length + (m.lk.flatMap (·.2)).length := by rw [termsP_eq, List.length_append, List.length_append]
  show (termsP m).length ≤ 1 + (1 + (1 + (1 + (shReq.sz m.q + (shRes.sz (m.c, m.r) + (Sh.str.sz m.t + (Sh.int.slice.sz m.nx + (((m.sg.map shSig.sz).sum + 1) + (((m.ch.map shChange.sz).sum + 1) + ((m.lk.map shLink.sz).sum + 1))))))))))
  omega
end Go.Proofs.Ytijeieamodjgbaa
