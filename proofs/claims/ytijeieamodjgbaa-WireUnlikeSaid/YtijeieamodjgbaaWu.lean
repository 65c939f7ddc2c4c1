
/- Wire: the reader's walks: link. -/
import Derived.Test.YtijeieamodjgbaaWs
import Derived.Test.YtijeieamodjgbaaReW
import Derived.Deep.RegionLaw
namespace Go.Proofs.Ytijeieamodjgbaa
set_option maxRecDepth 100000
open Go.RowKit Go.Deep
set_option linter.unusedVariables false
set_option linter.unusedSimpArgs false
attribute [local go_sem] run_store_float

theorem link_make {w : World} {e : Int} {l : List Int} {sg : List Sg} {a : Option Addr} {n c : Nat} {sa : Option Addr} {sn sc : Nat} (h1 : i64 e) (h2 : SlAt Sh.int w a n c l) (h3 : SlAt shSig w sa sn sc sg) : shLink.E w ((e, l), sg) [.int .i64 e, .slice a n c, .slice sa sn sc] :=
  ⟨[.int .i64 e, .slice a n c], [.slice sa sn sc], rfl, ⟨[.int .i64 e], [.slice a n c], rfl, ⟨rfl, h1⟩, a, n, c, rfl, h2⟩, sa, sn, sc, rfl, h3⟩
theorem readE_i64 (t : List UInt8) : i64 (readE t) := by
  unfold readE
  split
  · rename_i a b c d r
    have h1 := b.toNat_lt; have h2 := c.toNat_lt
    split
    · unfold i64; omega
    · exact ⟨by decide, by decide⟩
  · exact ⟨by decide, by decide⟩
theorem readL_small (t : List UInt8) : (readL t).length ≤ 100 := by
  unfold readL
  split
  · rename_i a b c d r
    split
    · rename_i h
      unfold okB at h
      simp only [rightB, risingB, Bool.and_eq_true, decide_eq_true_eq] at h
      omega
    · exact Nat.zero_le _
  · exact Nat.zero_le _
theorem pr_link {s s' : R} {sg : List Sg} (h : readC (tVal s) = 0) (hs : Pr (pSigs true) (tNext s) sg s') : Pr (pLink true) s ((readE (tVal s), readL (tVal s)), sg) s' := by
  unfold pLink
  exact (pr_text s).then ((hs.then (f := fun sg => pRet ((readE (tVal s), readL (tVal s)), sg)) (Pr.ret _ _)).if (by simpa using h))
theorem no_link1 {s : R} (h : (decide (readC (tVal s) = 0) && !(tNext s).bad) = false) : No (pLink true) s := by
  unfold pLink
  cases hb : (tNext s).bad with
  | true => exact ((pr_text s).bad hb).then
  | false =>
    rw [hb] at h
    exact No.step (pr_text s) (No.if (by simpa using h))
theorem no_link2 {s : R} (h : No (pSigs true) (tNext s)) : No (pLink true) s := by
  unfold pLink
  exact No.step (pr_text s) (no_if h.then)
set_option maxHeartbeats 2000000 in
theorem rlink_any (p : Nat) (text : ByteArray) (s : R) (w : World) (h : PRd w p text s) :
    Calls Try.prog 128 #[.agg #[.pointer (some ⟨p, 0, none⟩)]] w (GotP (pLink true) shLink aggF w p text s) := by
  obtain ⟨w1, hw1⟩ : ∃ u, u = w.alloc (.cells #[.pointer (some ⟨p, 0, none⟩)] 125 (0, 0)) := ⟨_, rfl⟩
  obtain ⟨w2, hw2⟩ : ∃ u, u = w1.alloc (.cells #[.int .i64 0, .slice none 0 0, .slice none 0 0] 109 (0, 0)) := ⟨_, rfl⟩
  have b1 : Below w.heap.size w w1 := by rw [hw1]; exact below_alloc _ _
  have hz1 : w1.heap.size = w.heap.size + 1 := by rw [hw1]; simp
  have b2 : Below w1.heap.size w1 w2 := by rw [hw2]; exact below_alloc _ _
  have K1 := Lib.hid (show w2.heap[w.heap.size]? = some (.cells #[.pointer (some ⟨p, 0, none⟩)] 125 (0, 0)) from blk_below (by rw [hw1]; exact blk_alloc _ _) b2)
  have K2 := Lib.hid (show w2.heap[w.heap.size + 1]? = some (.cells #[.int .i64 0, .slice none 0 0, .slice none 0 0] 109 (0, 0)) by rw [← hz1, hw2]; exact blk_alloc _ _)
  have B2 := Lib.hid (bthen b1 b2)
  have hp := prd_lt h
  have C1 := Lib.hid (rtext_got p text s w2 (prd_below h B2.out))
  have CM := Lib.hid (fun ok w h => must_any ok p text (tNext s) w h)
  have CQ0 : ∀ w, Calls Try.prog 158 #[.string ⟨(tVal s).toArray⟩] w (fun e w' => ∃ a n c, e = .returned (.tuple #[.agg #[.int .i64 (readE (tVal s)), .slice a n c], .int .i64 (readC (tVal s))]) ∧ IntsAt w' a n (readL (tVal s)) ∧ Below w.heap.size w w' ∧ w'.ownsRow w.heap.size 3 1 (.slice a n c) n (intsV (readL (tVal s)))) :=
    fun w => read_own ⟨(tVal s).toArray⟩ w (by have := tValLen s; simp only [ByteArray.size, List.size_toArray]; omega)
  have CQ := Lib.hid CQ0
  have HI := Lib.hid (readE_i64 (tVal s))
  have HLL := Lib.hid (readL_small (tVal s))
  have PS := Lib.hid (fun sg s' h1 h2 => pr_link (s := s) (s' := s') (sg := sg) h1 h2)
  have NS1 := Lib.hid (fun h => no_link1 (s := s) h)
  have NS2 := Lib.hid (fun h => no_link2 (s := s) h)
  have a0 : w2.cell? ⟨w.heap.size, 0, none⟩ = some (.pointer (some ⟨p, 0, none⟩)) := by rw [blk_cell K1.out]; rfl
  have hk2 := blk_lt K2.out
  clear CQ0
  generalize readE (tVal s) = E at *
  generalize readL (tVal s) = L at *
  generalize readC (tVal s) = C at *
  generalize (⟨(tVal s).toArray⟩ : ByteArray) = T at *
  generalize tNext s = s1 at *
  clear h b1 b2 hz1
  go_enter Try.func128, Try.ntmps128
  go_upto_region 1 with (fail)
  rw [← hw1, ← hw2]
  clear hw1 hw2
  go_wp2_with fail
  refine C1.out.mono ?_
  rintro e w3 ⟨rfl, hr3, ho3⟩
  have hz3 := ho3.size
  have R3 := Lib.hid hr3
  have O3 := Lib.hid (keep_then (Keep.of_below B2.out) ho3)
  have K1' := Lib.hid ((ho3.block _ (blk_lt K1.out) (by omega)).trans K1.out)
  have K2' := Lib.hid ((ho3.block _ (blk_lt K2.out) (by omega)).trans K2.out)
  clear hr3 ho3 a0 C1 K1 K2
  go_wp2_with fail
  refine (CQ.out w3).mono ?_
  rintro e w4 ⟨ra, rn, rc, rfl, hint, b4, hown⟩
  have R4 := Lib.hid (prd_below R3.out b4)
  have O4 := Lib.hid (keep_then O3.out (Keep.of_below b4))
  have K1 := Lib.hid (blk_below K1'.out b4); have K2 := Lib.hid (blk_below K2'.out b4)
  have hz4 := b4.size
  obtain ⟨w5, hw5⟩ : ∃ u, u = w4.alloc (.cells #[.int .i64 E, .slice ra rn rc] 74 (0, 0)) := ⟨_, rfl⟩
  have b5 : Below w4.heap.size w4 w5 := by rw [hw5]; exact below_alloc _ _
  have KQ := Lib.hid (show w5.heap[w4.heap.size]? = some (.cells #[.int .i64 E, .slice ra rn rc] 74 (0, 0)) by rw [hw5]; exact blk_alloc _ _)
  have B5 := Lib.hid b5
  have HOWN := Lib.hid (owns_old hown b5)
  have HIN := Lib.hid (show rn ≤ 100 from by rw [← hint.len]; exact HLL.out)
  have HINT := Lib.hid (show (∀ x ∈ L, i64 x) ∧ L.length = rn from ⟨hint.fit, hint.len⟩)
  have k1 := blk_below K1.out b5
  have c0 : w5.cell? ⟨w.heap.size, 0, none⟩ = some (.pointer (some ⟨p, 0, none⟩)) := by rw [blk_cell k1]; rfl
  clear K1' K2' R3 O3 b4 CQ b5 k1 hint hown
  go_upto_region 2 with (fail)
  rw [← hw5]
  clear hw5
  obtain ⟨q, hq⟩ : ∃ q, q = w4.heap.size := ⟨_, rfl⟩
  rw [← hq] at KQ ⊢
  rw [← hq] at hz4
  have HQ := Lib.hid hq
  clear hq
  go_wp2_with fail
  refine (CM.out _ w5 (prd_below R4.out B5.out)).mono ?_
  rintro e w6 ⟨b6, he⟩
  have R6 := Lib.hid (prd_below (prd_below R4.out B5.out) b6)
  have O6 := Lib.hid (keep_then O4.out (Keep.of_below (bthen B5.out b6)))
  have K16 := Lib.hid (blk_below (blk_below K1.out B5.out) b6)
  have K26 := Lib.hid (blk_below (blk_below K2.out B5.out) b6)
  have KQ6 := Lib.hid (blk_below KQ.out b6)
  have HW6 := Lib.hid (owns_old HOWN.out b6)
  have hz6 := b6.size
  cases hm : (decide (C = 0) && !s1.bad) with
  | false =>
    rw [show (C == 0) = decide (C = 0) from rfl, hm, if_neg (by decide)] at he
    subst he
    go_wp2_with fail
    exact ⟨rfl, O6.out, .inl ⟨rfl, NS1.out hm⟩⟩
  | true =>
  rw [show (C == 0) = decide (C = 0) from rfl, hm, if_pos rfl] at he
  subst he
  rw [Bool.and_eq_true] at hm
  have HC := Lib.hid (of_decide_eq_true hm.1)
  clear hm NS1 c0 CM b6 K2 K1 KQ HOWN R4 O4
  have hq2 := blk_lt KQ6.out
  go_upto_region 3 with (fail)
  have HRD := Lib.hid (fun (u : World) (hu : u.heap = w6.heap) => (prd_block R6.out (by rw [hu]) : PRd u p text s1))
  have CS := Lib.hid (fun (u : World) (hu : u.heap = w6.heap) => rsigs_any p text s1 u (HRD.out u hu))
  have x0 : w6.cell? ⟨w.heap.size, 0, none⟩ = some (.pointer (some ⟨p, 0, none⟩)) := by rw [blk_cell K16.out]; rfl
  have x1 : w6.cell? ⟨q, 0, none⟩ = some (.int .i64 E) := by rw [blk_cell KQ6.out]; rfl
  have x2 : w6.cell? ⟨q, 1, none⟩ = some (.slice ra rn rc) := by rw [blk_cell KQ6.out]; rfl
  have HK := Lib.hid (fun (u w7 : World) (hu : u.heap = w6.heap) (ho : Keep (fun k => k = p) u w7) =>
    (⟨(ho.block q (by rw [hu]; exact hq2) (by omega)).trans ((congrArg (fun h => h[q]?) hu).trans KQ6.out), (ho.block (w.heap.size + 1) (by rw [hu]; exact blk_lt K26.out) (by omega)).trans ((congrArg (fun h => h[w.heap.size + 1]?) hu).trans K26.out)⟩ : w7.heap[q]? = some (.cells #[.int .i64 E, .slice ra rn rc] 74 (0, 0)) ∧ w7.heap[w.heap.size + 1]? = some (.cells #[.int .i64 0, .slice none 0 0, .slice none 0 0] 109 (0, 0))))
  go_region_law (first | (refine step_calls_or rfl 126 #[.agg #[.pointer (some ⟨p, 0, none⟩)]] (by go_simp) (CS.out _ rfl) ?_; rintro e w7 ⟨ho7, h7⟩; rcases h7 with ⟨he, hno⟩ | ⟨sg, s', cs, he, hps, hr7, hE7⟩; (exact .inr ⟨_, he, rfl, keep_then O6.out (keep_then (Keep.of_below (below_drewN (Below.refl _ _) 1)) ho7), .inl ⟨rfl, NS2.out hno⟩⟩); obtain ⟨sa, sn, sc, rfl, hS7⟩ := rob_slice hE7; refine .inl ⟨.slice sa sn sc, he, ?_⟩; clear he; have k7 := Lib.hid (HK.out w6.drew w7 rfl ho7); have y1 : w7.cell? ⟨q, 0, none⟩ = some (.int .i64 E) := (by rw [blk_cell k7.out.1]; rfl); have y2 : w7.cell? ⟨q, 1, none⟩ = some (.slice ra rn rc) := (by rw [blk_cell k7.out.1]; rfl); have d0 : w7.cell? ⟨w.heap.size + 1, 0, none⟩ = some (.int .i64 0) := (by rw [blk_cell k7.out.2]; rfl); have d1 : w7.cell? ⟨w.heap.size + 1, 1, none⟩ = some (.slice none 0 0) := (by rw [blk_cell k7.out.2]; rfl); have d2 : w7.cell? ⟨w.heap.size + 1, 2, none⟩ = some (.slice none 0 0) := (by rw [blk_cell k7.out.2]; rfl); have dz : ∀ o, w7.frozen? ⟨w.heap.size + 1, o, none⟩ = false := fun o => blk_frozen k7.out.2 o; have S7 := Lib.hid hS7; have R7 := Lib.hid hr7; have O7 := Lib.hid ho7; have P7 := Lib.hid hps; clear hE7 hS7 hr7 ho7 hps))
  all_goals
    have O8 := keep_then O6.out (keep_then (Keep.of_below (below_drewN (Below.refl _ _) 1)) O7.out)
    have hne : ¬ w.heap.size + 1 = p := by omega
    have hle : w.heap.size ≤ w.heap.size + 1 ∨ w.heap.size + 1 = p := .inl (by omega)
    have hlo : w.heap.size + 1 < w3.heap.size := by omega
    have OW := owns_setlow (owns_setlow (owns_setlow (owns_keep (owns_old HW6.out (below_drewN (Below.refl _ _) 1)) O7.out (fun k hk hc => by have := (HW6.out.lt k hk).1; omega)) hlo 0 (.int .i64 E)) hlo 1 (.slice ra rn rc)) hlo 2 (.slice sa sn sc)
    have SW := S7.out.step (X' := fun k => k < w.heap.size) (Keep.set (Keep.set (Keep.set (Keep.refl (fun k => k = w.heap.size + 1) w7) (.inr rfl) 0 (.int .i64 E)) (.inr rfl) 1 (.slice ra rn rc)) (.inr rfl) 2 (.slice sa sn sc)) (fun k _ hk => by show k < w6.heap.size; omega) (fun k _ hk => by show k < w6.heap.size; omega)
    have RF := prd_set (prd_set (prd_set R7.out 0 (.int .i64 E) hne) 1 (.slice ra rn rc) hne) 2 (.slice sa sn sc) hne
    have FIN := Lib.hid (show GotP (pLink true) shLink aggF w p text s (.returned (.agg #[.int .i64 E, .slice ra rn rc, .slice sa sn sc])) (((w7.setCell ⟨w.heap.size + 1, 0, none⟩ (.int .i64 E)).setCell ⟨w.heap.size + 1, 1, none⟩ (.slice ra rn rc)).setCell ⟨w.heap.size + 1, 2, none⟩ (.slice sa sn sc)) from
      ⟨Keep.set (Keep.set (Keep.set O8 hle _ _) hle _ _) hle _ _, .inr ⟨((E, L), sg), s', [.int .i64 E, .slice ra rn rc, .slice sa sn sc], rfl, PS.out _ _ HC.out P7.out, RF, fun u hu => link_make HI.out (ints_row (owns_keep OW hu (fun k hk hx => by have := (OW.lt k hk).1; omega)) HINT.out.2 HINT.out.1 (by have := HIN.out; omega)) (SW u hu)⟩⟩)
    clear O8 OW SW RF
    go_wp2_with fail
    refine bodyPost_ret (v := .agg #[.int .i64 E, .slice ra rn rc, .slice sa sn sc]) (by simp [results, Try.results128, go_sem, d0, d1, d2]) rfl FIN.out
end Go.Proofs.Ytijeieamodjgbaa
