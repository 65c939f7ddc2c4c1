
/- TermsEnough: what is gathered of a right configuration is a proof just if a quorum signed; in whatever order, and how often, they are heard: for every input within the bound the law returns true, and its arguments read as before. The bound is the given one of Upto; no other condition. -/
import Derived.Test.YtelmpoaioccpoaaEnP
import Derived.Test.YtelmpoaioccpoaaRn
import Derived.Test.YtelmpoaioccpoaaNews1
import Derived.Test.YtelmpoaioccpoaaLift
import Derived.Deep.RegionHeld3
namespace Go.Proofs.Ytelmpoaioccpoaa.termsEnough
set_option maxRecDepth 100000
open Go.ChangeShapes Go.WideShapes Go.ChangeAt Go.RowKit
attribute [local irreducible] wpQuiet
set_option linter.unusedVariables false
set_option linter.unusedSimpArgs false

theorem heard_at {w : World} {p : Nat} {e : Int} {a : Option Addr} {n c : Nat} {t : ByteArray} {b : Option Addr} {o q : Nat} {T : TypeId} {fr : Nat × Nat} (h : w.heap[p]? = some (.cells #[.int .i64 e, .slice a n c, .string t, .slice b o q] T fr)) :
    w.cell? ⟨p, 0, none⟩ = some (.int .i64 e) ∧ w.cell? ⟨p, 1, none⟩ = some (.slice a n c) ∧ w.cell? ⟨p, 2, none⟩ = some (.string t) ∧ w.cell? ⟨p, 3, none⟩ = some (.slice b o q) :=
  ⟨by rw [blk_cell h]; rfl, by rw [blk_cell h]; rfl, by rw [blk_cell h]; rfl, by rw [blk_cell h]; rfl⟩
theorem sz_len (e : Int) (l : List Int) (t : ByteArray) (s : List Sg) : s.length ≤ shHeard.sz ((e, l), t, s) := by
  have h : ∀ s : List Sg, s.length ≤ (s.map shSig.sz).sum := fun s => by
    induction s with
    | nil => simp
    | cons y r ih =>
      rw [List.map_cons, List.sum_cons, List.length_cons]
      have : 1 ≤ shSig.sz y := by show 1 ≤ 1 + (y.2.size + 1); omega
      omega
  have h1 := h s
  show s.length ≤ (1 + ((l.map _).sum + 1)) + ((t.size + 1) + ((s.map shSig.sz).sum + 1))
  omega
theorem sig_news {w : World} {a : Option Addr} {n c : Nat} {l : List Sg} (h : SlAt shSig w a n c l) : ∀ ad, a = some ad → ∀ j u, (flatV l)[j]? = some u → w.cell? (ad.add j) = some u := by
  intro ad ha j u hu
  have hj : j < l.length * 2 := by rw [← flatV_len]; exact (List.getElem?_eq_some_iff.1 hu).1
  obtain ⟨b, o, x, t, hb, hy, h0, h1, -, -⟩ := sig_cells h (i := j / 2) (by rw [← h.len]; omega)
  rw [ha] at hb
  injection hb with hb
  subst hb
  rw [Addr.add_lit]
  rcases Nat.mod_two_eq_zero_or_one j with hr | hr
  · have h2 := flatV_at l (j / 2) 0 (x, t) _ hy rfl
    rw [show j / 2 * 2 + 0 = j by omega, hu] at h2
    rw [show o + j = o + j / 2 * 2 by omega, h0]; exact h2.symm
  · have h2 := flatV_at l (j / 2) 1 (x, t) _ hy rfl
    rw [show j / 2 * 2 + 1 = j by omega, hu] at h2
    rw [show o + j = o + j / 2 * 2 + 1 by omega, h1]; exact h2.symm
theorem flatV_one (l : List Sg) : ∀ u ∈ flatV l, u.oneCell' = true := by
  intro u hu
  obtain ⟨s, _, hs⟩ := List.mem_flatMap.1 hu
  simp [encS] at hs
  rcases hs with rfl | rfl <;> rfl
theorem sig_ok {w : World} {a : Option Addr} {n c : Nat} {l : List Sg} (h : SlAt shSig w a n c l) : ∀ s ∈ l, sgOk s := by
  intro s hs
  obtain ⟨i, hi, rfl⟩ := List.getElem_of_mem hs
  obtain ⟨b, o, x, t, _, hy, _, _, h1, h2⟩ := sig_cells h (i := i) (by rw [← h.len]; exact hi)
  rw [List.getElem?_eq_getElem hi] at hy
  injection hy with hy
  rw [hy]; exact ⟨h1, h2⟩
theorem gatP_ok {text : ByteArray} {sigs : List Sg} {ms : List Int} (h : ∀ s ∈ sigs, sgOk s) : ∀ s ∈ gatP text sigs ms, sgOk s := fun s hs =>
  h s (((gatU_fact text sigs ms).2 s).1 ((gatP_perm text sigs ms).mem_iff.1 hs)).1
theorem gatP_le (text : ByteArray) (sigs : List Sg) (ms : List Int) : (gatP text sigs ms).length ≤ sigs.length := by rw [(gatP_perm text sigs ms).length_eq]; exact gatU_le _ _ _
theorem same_self (a : Option Addr) (n c : Nat) (l : List Sg) (a' : Option Addr) (n' c' : Nat) (w : World) (h : SlAt shSig w a n c l) (h' : SlAt shSig w a' n' c' l) :
    Calls Try.prog 16 #[.slice a n c, .slice a' n' c'] w fun e w' => e = .returned (.bool true) ∧ ∃ q, w' = w.drewN q := by
  have := samesigs_any a n c l a' n' c' l w h h'
  rw [decide_eq_true rfl] at this
  exact this
/-- A slice cut from its k-th thing on. -/
theorem sl_drop {w : World} {b : Nat} {off n c k : Nat} {l : List Sg} (h : SlAt shSig w (some ⟨b, off, none⟩) n c l) (hk : k ≤ n) : SlAt shSig w (some ⟨b, off + k * 2, none⟩) (n - k) (c - k) (l.drop k) :=
  ⟨by rw [List.length_drop, h.len], by have := h.cap; omega, by have := h.max; omega, by have : n * 24 ≤ 140737488355328 := h.bytes; show (n - k) * 24 ≤ _; omega, fun hn => (by cases hn), fun i y hy => by
    rw [List.getElem?_drop] at hy
    obtain ⟨b', o', cs, ha, hE, hc⟩ := h.cell (k + i) y hy
    injection ha with ha
    injection ha with h1 h2
    subst h1; subst h2
    refine ⟨b, off + k * 2, cs, rfl, hE, fun j v hv => ?_⟩
    have := hc j v hv
    rw [show off + k * 2 + i * shSig.k + j = off + (k + i) * shSig.k + j by show off + k * 2 + i * 2 + j = off + (k + i) * 2 + j; omega]
    exact this⟩

theorem slice_cut {w : World} {b : Option Addr} {n c k : Nat} {l : List Sg} (h : SlAt shSig w b n c l) (hk : k ≤ n) : ∃ b', (∀ w' : World, (Instr.sliceAt 25 (.slice b n c) (some (.int .i64 k)) none none).run Try.prog w' = .ok (.slice b' (n - k) (c - k)) w') ∧ SlAt shSig w b' (n - k) (c - k) (l.drop k) := by
  have hcap := h.cap
  have hmx := h.max
  have hb : n * 24 ≤ 140737488355328 := h.bytes
  have hempty : ∀ b' : Option Addr, n - k = 0 → (b' = none → c - k = 0) → SlAt shSig w b' (n - k) (c - k) (l.drop k) := fun b' h0 hn =>
    ⟨by rw [List.length_drop, h.len], by omega, by omega, by show (n - k) * 24 ≤ _; omega, hn, fun i y hy => by
      have := (List.getElem?_eq_some_iff.1 hy).1
      rw [List.length_drop, h.len] at this; omega⟩
  have k1 : (k : Int) ≤ (n : Int) := by omega
  have k2 : (0 : Int) ≤ (k : Int) := by omega
  have k3 : (n : Int) ≤ (c : Int) := by omega
  cases b with
  | none =>
    have h1 := h.nil rfl
    obtain rfl : c = 0 := h1
    obtain rfl : n = 0 := by omega
    obtain rfl : k = 0 := by omega
    exact ⟨none, fun w' => by go_simp, hempty none rfl (fun _ => rfl)⟩
  | some ad =>
    by_cases hq : c = k
    · subst hq
      obtain rfl : n = c := by omega
      exact ⟨some ad, fun w' => by go_simp, hempty _ (by omega) (fun h => by cases h)⟩
    · refine ⟨some (ad.add (k * 2)), fun w' => by go_simp, ?_⟩
      by_cases h0 : n - k = 0
      · exact hempty _ h0 (fun h => by cases h)
      · obtain ⟨g, off, x, t, hb, _⟩ := sig_cells h (i := 0) (by omega)
        injection hb with hb
        subst hb
        rw [Addr.add_lit]
        exact sl_drop h hk

set_option maxHeartbeats 2000000 in
theorem walk (w : World) (e : Int) (a : Option Addr) (n c : Nat) (l : List Int) (t : ByteArray) (b : Option Addr) (o q : Nat) (s : List Sg) (h : HeardIn w e a n c l t b o q s) (kk : Int) (hkk : i64 kk) (HK : shHeard.sz ((e, l), t, s) ≤ 1048576) :
    Calls Try.prog 5 #[.agg #[.int .i64 e, .slice a n c, .string t, .slice b o q], .int .i64 kk] w fun e w' => e = .returned (.bool true) ∧ Below w.heap.size w w' := by
  have HI := Lib.hid (ints_of_sl h.m); have HS := Lib.hid h.s; have HT := Lib.hid h.t
  have CL := Lib.hid lives09_any
  obtain ⟨ii, hi, hz0, hz1, hz2⟩ := info_parts info_sig9
  have hol := h.s.len
  have hoN : o ≤ 1048576 := by have := sz_len e l t s; omega
  have hnm : n ≤ 9223372036854775807 := (ints_of_sl h.m).max
  have hnl := (ints_of_sl h.m).len
  have hoq := h.s.cap
  have hqm := h.s.max
  have hbnil : b = none → o = 0 ∧ q = 0 := fun hn => ⟨by have := h.s.nil hn; have := h.s.cap; omega, h.s.nil hn⟩
  have KX := Lib.hid (blk_alloc w (.cells #[.int .i64 e, .slice a n c, .string t, .slice b o q] 27 (0, 0)))
  have BX := Lib.hid (below_alloc w (.cells #[.int .i64 e, .slice a n c, .string t, .slice b o q] 27 (0, 0)))
  have HGok := Lib.hid (gatP_ok (text := t) (ms := l) (sig_ok h.s))
  have HGle := Lib.hid (gatP_le t s l)
  have HE := Lib.hid (fun hr => enough (e := e) (l := l) t s hr)
  have HTu := Lib.hid (fun k => gatP_turned t s k l)
  have HOk := Lib.hid (sig_ok h.s)
  clear h HK
  go_enter Try.func5, Try.ntmps5
  go_wp2_with fail
  refine (CL.out _).mono ?_
  rintro r w1 ⟨rfl, b1⟩
  have B1 := Lib.hid (bthen BX.out b1)
  have K1 := Lib.hid (blk_below KX.out b1)
  obtain ⟨x0, x1, x2, x3⟩ := heard_at K1.out
  have CG := Lib.hid (gather_any e a n c l t b o q s w1 (HI.out.below B1.out) (HS.out.old B1.out) HT.out)
  clear b1 KX BX CL
  go_wp2_with fail
  refine CG.out.mono ?_
  rintro r w2 ⟨v2, rfl, ho2, b2⟩
  obtain ⟨a2, c2, rfl⟩ := owns_form ho2
  have B2 := Lib.hid (bthen B1.out b2)
  have K2 := Lib.hid (blk_below K1.out b2)
  have HO2 := Lib.hid (sl_owned ho2 HGok.out (by have := HGle.out; omega))
  clear ho2 b2 x0 x1 x2 x3 K1 B1 CG
  obtain ⟨x0, x1, x2, x3⟩ := heard_at K2.out
  have CR := Lib.hid (fun w' (hb : Below w2.heap.size w2 w') => right_any e a n c l w' (HI.out.below (bthen B2.out hb)))
  have CP := Lib.hid (fun w' (hb : Below w2.heap.size w2 w') => proves_any e a n c l t a2 (gatP t s l).length c2 (gatP t s l) w' (HI.out.below (bthen B2.out hb)) (HO2.out.old hb))
  have CC := Lib.hid (fun w' (hb : Below w2.heap.size w2 w') => count_any e a n c l t b o q s w' (HI.out.below (bthen B2.out hb)) (HS.out.old (bthen B2.out hb)) HT.out)
  have CQ := Lib.hid (fun w' : World => quorum_any (n : Int) w' (by omega) (by omega))
  have HE' := Lib.hid (show rightB e l = true → provesB e l t (gatP t s l) = decide (quorumP (n : Int) ≤ ((gatP t s l).length : Int)) from fun hr => by rw [HE.out hr, hnl])
  clear HE hnl
  generalize quorumP (n : Int) = qu at *
  generalize provesB e l t (gatP t s l) = pv at *
  generalize hG : gatP t s l = G at *
  have hz := World.block_lt x0
  generalize rightB e l = rb at *
  have key : ∀ w4, Below w2.heap.size w2 w4 → True := fun _ _ => trivial
  cases rb with
  | true =>
    have hpv := HE'.out (by first | rfl | trivial | simp)
    subst hpv
    clear HE' key
    go_wp2_with fail
    refine wp_region_below (by kernel_rfl) (by kernel_rfl) ?_
    repeat (refine wpQuiet_step (fun K hK => ?_); go_simp; first | (refine hK _ ?_; clear hK K) | (apply Exists.intro; refine ⟨fun w' hw' => ?_, hK _ ?_⟩; (first | (go_at_call 17; exact Calls.quiet_below hw' (CR.out _ hw')) | (go_at_call 11; exact Calls.quiet_below hw' (CP.out _ hw')) | (go_at_call 13; exact Calls.quiet_below hw' (CC.out _ hw')) | (go_at_call 18; exact Calls.quiet_below_same hw' (CQ.out _)) | (with_reducible rfl) | (obtain ⟨cc, dd⟩ := bcell hw'; go_simp; rfl)); clear hK K))
    refine wpQuiet_nil ?_
    intro w4 h4
    have B4 := Lib.hid (bthen B2.out h4)
    have K4 := Lib.hid (blk_below K2.out h4)
    have HO4 := Lib.hid (HO2.out.old h4)
    clear h4 x0 x1 x2 x3 hz CR CP CC CQ B2 K2 HO2
    obtain ⟨x0, x1, x2, x3⟩ := heard_at K4.out
    have hu0 : 0 ≤ IntKind.u64.wrap kk ∧ IntKind.u64.wrap kk < 18446744073709551616 := by simp [IntKind.wrap, IntKind.bits, IntKind.signed]; omega
    have hm1 : IntKind.i64.wrap ((o : Int) + 1) = (o : Int) + 1 := IntWalk.i64_in _ (by omega)
    have hm2 : IntKind.u64.wrap ((o : Int) + 1) = (o : Int) + 1 := by simp [IntKind.wrap, IntKind.bits, IntKind.signed]; omega
    obtain ⟨k, hk, hkm⟩ : ∃ k : Nat, k ≤ o ∧ (IntKind.u64.wrap kk).tmod ((o : Int) + 1) = (k : Int) := by
      rw [Int.tmod_eq_emod_of_nonneg hu0.1]
      have h1 := Int.emod_nonneg (IntKind.u64.wrap kk) (show ((o : Int) + 1) ≠ 0 by omega)
      have h2 := Int.emod_lt_of_pos (IntKind.u64.wrap kk) (show 0 < ((o : Int) + 1) by omega)
      exact ⟨((IntKind.u64.wrap kk) % ((o : Int) + 1)).toNat, by omega, by omega⟩
    have hm3 : IntKind.i64.wrap (k : Int) = (k : Int) := IntWalk.i64_in _ (by omega)
    have hm4 : IntKind.u64.wrap (k : Int) = (k : Int) := by simp [IntKind.wrap, IntKind.bits, IntKind.signed]; omega
    have hko : (k : Int) ≤ (o : Int) := by omega
    have hko0 : (0 : Int) ≤ (k : Int) := by omega
    have hdz : ((o : Int) + 1 == 0) = false := by simp; omega
    obtain ⟨b', hcut, hd'⟩ := slice_cut (HS.out.old B4.out) hk
    have HD := Lib.hid (fun w' (hb : Below w4.heap.size w4 w') => hd'.old hb)
    have HX3 := Lib.hid (show ∀ w', Below w4.heap.size w4 w' → w'.cell? ⟨w.heap.size, 3, none⟩ = some (.slice b o q) from fun w' hb => (heard_at (blk_below K4.out hb)).2.2.2)
    have hdl : (flatV (s.drop k)).length = (o - k) * 2 := by rw [flatV_len, List.length_drop, hol]
    have hsl : (flatV s).length = o * 2 := by rw [flatV_len, hol]
    have hdn : b' = none → o - k = 0 ∧ q - k = 0 := fun hn => ⟨by have := hd'.nil hn; have := hd'.cap; omega, hd'.nil hn⟩
    have HB := Lib.hid (below_drewN (Below.refl w4.heap.size w4) 1)
    have hwz := B4.out.size
    have HOL := Lib.hid hol
    clear hol HGok HGle hd'
    go_upto_region 7 with (fail)
    clear hu0 hm1 hm2 hm3 hm4 hdz hkm x0 x1 x2
    go_region_held3 (fun w' => w'.cell? ⟨w.heap.size, 3, none⟩ = some (.slice b o q))
      (first | exact x3 | assumption | go_keep)
      (first
        | (refine step_append_any _ rfl (.const (.slice none 0 0)) (.tmp 54) 25 rfl w4.heap.size 34 ii (.agg #[.int .i64 0, .string ⟨#[]⟩]) 2 24 Try.underlying25 hi hz0 hz1 hz2 rfl (by decide) (.slice none 0 0) 0 [] rfl (World.ownsRow_nil _ _ _ _) b' (o - k) (q - k) (flatV (s.drop k)) rfl hdl hdn (sig_news (HD.out _ HB.out)) (flatV_one _) (by unfold maxLen; omega) (by omega) HB.out.size ?_; intro v5 w5 ho5 hg5; have hf5 := owns_form ho5; obtain ⟨a5, c5, rfl⟩ := hf5; have HB := Lib.hid (bthen HB.out (grown_below_none hg5)); have HO5 := Lib.hid ho5; clear hg5 ho5; have x3 := HX3.out _ HB.out)
        | (refine step_append_any _ rfl (.tmp 55) (.tmp 57) 25 rfl w4.heap.size 34 ii (.agg #[.int .i64 0, .string ⟨#[]⟩]) 2 24 Try.underlying25 hi hz0 hz1 hz2 rfl (by decide) (.slice a5 (0 + (o - k)) c5) (0 + (o - k)) ([] ++ flatV (s.drop k)) rfl HO5.out b o q (flatV s) rfl hsl hbnil (sig_news (HS.out.old (bthen B4.out HB.out))) (flatV_one _) (by unfold maxLen; omega) (by omega) HB.out.size ?_; intro v6 w6 ho6 hg6; have hf6 := owns_form ho6; obtain ⟨a6, c6, rfl⟩ := hf6; have hlt5 := HO5.out.lt; have HB6 := Lib.hid (grown_below HB.out hg6 (fun j hj => (hlt5 j hj).1)); have HO6 := Lib.hid ho6; clear hg6 ho6 hlt5; have x3 := HX3.out _ HB6.out))
    have B6 := Lib.hid (bthen B4.out HB6.out)
    have K6 := Lib.hid (blk_below K4.out HB6.out)
    obtain ⟨x0, x1, x2, x3⟩ := heard_at K6.out
    have hl6 : flatV (s.drop k ++ s) = [] ++ flatV (s.drop k) ++ flatV s := by simp [flatV]
    have hle6 : (s.drop k ++ s).length = 0 + (o - k) + o := by rw [List.length_append, List.length_drop, HOL.out]; omega
    have ho6 := HO6.out
    rw [← hl6, ← hle6] at ho6
    have hk6 : ∀ y ∈ s.drop k ++ s, sgOk y := fun y hy => by
      rw [List.mem_append] at hy
      exact HOk.out y (hy.elim (fun h => List.mem_of_mem_drop h) id)
    have HS6 := Lib.hid (sl_owned ho6 hk6 (by rw [hle6]; omega))
    have CG := gather_any e a n c l t a6 (s.drop k ++ s).length c6 (s.drop k ++ s) w6 (HI.out.below B6.out) HS6.out HT.out
    rw [HTu.out k] at CG
    rw [hle6] at CG
    replace CG := Lib.hid CG
    have HO7 := Lib.hid (HO4.out.old HB6.out)
    have HGok := Lib.hid (show ∀ y ∈ G, sgOk y from sl_ok HO4.out)
    have HGb : G.length * 24 ≤ 140737488355328 := HO4.out.bytes
    have hn6 : 0 + (o - k) + o = o - k + o := by omega
    rw [hn6] at CG
    clear hl6 hle6 ho6 hk6 HO6 HB6 HO5 HB HX3 HD hcut hdl hsl hdn hwz K4 B4 HO4 HOL
    go_wp2_with fail
    refine CG.out.mono ?_
    rintro r w7 ⟨v7, rfl, ho7, b7⟩
    obtain ⟨a7, c7, rfl⟩ := owns_form ho7
    have B7 := Lib.hid (bthen B6.out b7)
    have CS := Lib.hid (same_self a2 G.length c2 G a7 G.length c7 w7 (HO7.out.old b7) (sl_owned ho7 HGok.out HGb))
    clear ho7 b7 CG x0 x1 x2 x3
    go_wp2_with fail
    refine CS.out.mono ?_
    rintro r w8 ⟨rfl, q8, rfl⟩
    go_wp2_with fail
    go_ret
    exact ⟨rfl, below_drewN B7.out q8⟩
  | false =>
    clear HE' key
    go_wp2_with fail
    refine wp_region_below (by kernel_rfl) (by kernel_rfl) ?_
    repeat (refine wpQuiet_step (fun K hK => ?_); go_simp; first | (refine hK _ ?_; clear hK K) | (apply Exists.intro; refine ⟨fun w' hw' => ?_, hK _ ?_⟩; (first | (go_at_call 17; exact Calls.quiet_below hw' (CR.out _ hw')) | (with_reducible rfl) | (obtain ⟨cc, dd⟩ := bcell hw'; go_simp; rfl)); clear hK K))
    refine wpQuiet_nil ?_
    intro w4 h4
    have B4 := Lib.hid (bthen B2.out h4)
    have K4 := Lib.hid (blk_below K2.out h4)
    have HO4 := Lib.hid (HO2.out.old h4)
    clear h4 x0 x1 x2 x3 hz CR CP CC CQ B2 K2 HO2
    obtain ⟨x0, x1, x2, x3⟩ := heard_at K4.out
    have hu0 : 0 ≤ IntKind.u64.wrap kk ∧ IntKind.u64.wrap kk < 18446744073709551616 := by simp [IntKind.wrap, IntKind.bits, IntKind.signed]; omega
    have hm1 : IntKind.i64.wrap ((o : Int) + 1) = (o : Int) + 1 := IntWalk.i64_in _ (by omega)
    have hm2 : IntKind.u64.wrap ((o : Int) + 1) = (o : Int) + 1 := by simp [IntKind.wrap, IntKind.bits, IntKind.signed]; omega
    obtain ⟨k, hk, hkm⟩ : ∃ k : Nat, k ≤ o ∧ (IntKind.u64.wrap kk).tmod ((o : Int) + 1) = (k : Int) := by
      rw [Int.tmod_eq_emod_of_nonneg hu0.1]
      have h1 := Int.emod_nonneg (IntKind.u64.wrap kk) (show ((o : Int) + 1) ≠ 0 by omega)
      have h2 := Int.emod_lt_of_pos (IntKind.u64.wrap kk) (show 0 < ((o : Int) + 1) by omega)
      exact ⟨((IntKind.u64.wrap kk) % ((o : Int) + 1)).toNat, by omega, by omega⟩
    have hm3 : IntKind.i64.wrap (k : Int) = (k : Int) := IntWalk.i64_in _ (by omega)
    have hm4 : IntKind.u64.wrap (k : Int) = (k : Int) := by simp [IntKind.wrap, IntKind.bits, IntKind.signed]; omega
    have hko : (k : Int) ≤ (o : Int) := by omega
    have hko0 : (0 : Int) ≤ (k : Int) := by omega
    have hdz : ((o : Int) + 1 == 0) = false := by simp; omega
    obtain ⟨b', hcut, hd'⟩ := slice_cut (HS.out.old B4.out) hk
    have HD := Lib.hid (fun w' (hb : Below w4.heap.size w4 w') => hd'.old hb)
    have HX3 := Lib.hid (show ∀ w', Below w4.heap.size w4 w' → w'.cell? ⟨w.heap.size, 3, none⟩ = some (.slice b o q) from fun w' hb => (heard_at (blk_below K4.out hb)).2.2.2)
    have hdl : (flatV (s.drop k)).length = (o - k) * 2 := by rw [flatV_len, List.length_drop, hol]
    have hsl : (flatV s).length = o * 2 := by rw [flatV_len, hol]
    have hdn : b' = none → o - k = 0 ∧ q - k = 0 := fun hn => ⟨by have := hd'.nil hn; have := hd'.cap; omega, hd'.nil hn⟩
    have HB := Lib.hid (below_drewN (Below.refl w4.heap.size w4) 1)
    have hwz := B4.out.size
    have HOL := Lib.hid hol
    clear hol HGok HGle hd'
    go_upto_region 7 with (fail)
    clear hu0 hm1 hm2 hm3 hm4 hdz hkm x0 x1 x2
    go_region_held3 (fun w' => w'.cell? ⟨w.heap.size, 3, none⟩ = some (.slice b o q))
      (first | exact x3 | assumption | go_keep)
      (first
        | (refine step_append_any _ rfl (.const (.slice none 0 0)) (.tmp 54) 25 rfl w4.heap.size 34 ii (.agg #[.int .i64 0, .string ⟨#[]⟩]) 2 24 Try.underlying25 hi hz0 hz1 hz2 rfl (by decide) (.slice none 0 0) 0 [] rfl (World.ownsRow_nil _ _ _ _) b' (o - k) (q - k) (flatV (s.drop k)) rfl hdl hdn (sig_news (HD.out _ HB.out)) (flatV_one _) (by unfold maxLen; omega) (by omega) HB.out.size ?_; intro v5 w5 ho5 hg5; have hf5 := owns_form ho5; obtain ⟨a5, c5, rfl⟩ := hf5; have HB := Lib.hid (bthen HB.out (grown_below_none hg5)); have HO5 := Lib.hid ho5; clear hg5 ho5; have x3 := HX3.out _ HB.out)
        | (refine step_append_any _ rfl (.tmp 55) (.tmp 57) 25 rfl w4.heap.size 34 ii (.agg #[.int .i64 0, .string ⟨#[]⟩]) 2 24 Try.underlying25 hi hz0 hz1 hz2 rfl (by decide) (.slice a5 (0 + (o - k)) c5) (0 + (o - k)) ([] ++ flatV (s.drop k)) rfl HO5.out b o q (flatV s) rfl hsl hbnil (sig_news (HS.out.old (bthen B4.out HB.out))) (flatV_one _) (by unfold maxLen; omega) (by omega) HB.out.size ?_; intro v6 w6 ho6 hg6; have hf6 := owns_form ho6; obtain ⟨a6, c6, rfl⟩ := hf6; have hlt5 := HO5.out.lt; have HB6 := Lib.hid (grown_below HB.out hg6 (fun j hj => (hlt5 j hj).1)); have HO6 := Lib.hid ho6; clear hg6 ho6 hlt5; have x3 := HX3.out _ HB6.out))
    have B6 := Lib.hid (bthen B4.out HB6.out)
    have K6 := Lib.hid (blk_below K4.out HB6.out)
    obtain ⟨x0, x1, x2, x3⟩ := heard_at K6.out
    have hl6 : flatV (s.drop k ++ s) = [] ++ flatV (s.drop k) ++ flatV s := by simp [flatV]
    have hle6 : (s.drop k ++ s).length = 0 + (o - k) + o := by rw [List.length_append, List.length_drop, HOL.out]; omega
    have ho6 := HO6.out
    rw [← hl6, ← hle6] at ho6
    have hk6 : ∀ y ∈ s.drop k ++ s, sgOk y := fun y hy => by
      rw [List.mem_append] at hy
      exact HOk.out y (hy.elim (fun h => List.mem_of_mem_drop h) id)
    have HS6 := Lib.hid (sl_owned ho6 hk6 (by rw [hle6]; omega))
    have CG := gather_any e a n c l t a6 (s.drop k ++ s).length c6 (s.drop k ++ s) w6 (HI.out.below B6.out) HS6.out HT.out
    rw [HTu.out k] at CG
    rw [hle6] at CG
    replace CG := Lib.hid CG
    have HO7 := Lib.hid (HO4.out.old HB6.out)
    have HGok := Lib.hid (show ∀ y ∈ G, sgOk y from sl_ok HO4.out)
    have HGb : G.length * 24 ≤ 140737488355328 := HO4.out.bytes
    have hn6 : 0 + (o - k) + o = o - k + o := by omega
    rw [hn6] at CG
    clear hl6 hle6 ho6 hk6 HO6 HB6 HO5 HB HX3 HD hcut hdl hsl hdn hwz K4 B4 HO4 HOL
    go_wp2_with fail
    refine CG.out.mono ?_
    rintro r w7 ⟨v7, rfl, ho7, b7⟩
    obtain ⟨a7, c7, rfl⟩ := owns_form ho7
    have B7 := Lib.hid (bthen B6.out b7)
    have CS := Lib.hid (same_self a2 G.length c2 G a7 G.length c7 w7 (HO7.out.old b7) (sl_owned ho7 HGok.out HGb))
    clear ho7 b7 CG x0 x1 x2 x3
    go_wp2_with fail
    refine CS.out.mono ?_
    rintro r w8 ⟨rfl, q8, rfl⟩
    go_wp2_with fail
    go_ret
    exact ⟨rfl, below_drewN B7.out q8⟩
set_option maxRecDepth 100000 in
theorem lifted (os : Os) (started : os.Started) (H : Type) (enc : TypeId × Value → H) (F : Stop.Interp) :
    ReturnsInHanded {} Try.checked os 5 .any ((Rows.OpenSpec.upto Rows.termsEnoughSpec).pre6 enc Try.prog Try.f5 Rows.termsEnoughUptoRow.domain false) (((Rows.OpenSpec.upto Rows.termsEnoughSpec).at F).post enc Try.prog Try.f5 false true false false) := by
  refine returnsInHanded_of_cond (C := Try.checked) (s := Rows.OpenSpec.upto Rows.termsEnoughSpec) (k := Rows.uptoSmall) rfl own started (by kernel_rfl) Try.func5
    (OpenSpec.witness (enc := enc) (C := Try.checked) (s := Rows.OpenSpec.upto Rows.termsEnoughSpec) (k := Rows.uptoSmall) rfl false ⟨#[], #[.agg #[.int .i64 0, .slice none 0 0, .string ⟨#[]⟩, .slice none 0 0], .int .i64 0], []⟩ 8 (by kernel_rfl) (by kernel_rfl) (by kernel_rfl)
      (x := ([.agg [.agg [.lit (.int .i64 0), .nil], .lit (.string []), .nil], .lit (.int .i64 0)], [], [])) (by kernel_rfl) rfl (by kernel_rfl)) ?_
  intro W base args ds gs before hval0 hW _ hk _
  have hval : ∀ (j : Nat) t v, Try.f5.params[j]? = some t → args[j]? = some v → Value.okWide Try.prog W .any base t v := hval0
  have hW' := hW
  obtain ⟨p, q, hA0, hV, rfl, hfz, hnd⟩ := hW
  have hA : DataW.TrodAll enc Try.prog W 0 (fun _ => true) true Try.f5.params.toList args.toList ds p := hA0
  rw [Try.params5] at hA hval
  have hA2 := hA
  obtain ⟨v0, vs0, d0, ds0, p0, q0, hargs, rfl, rfl, h0, r0⟩ := trodAll_cons hA
  obtain ⟨v1, vs1, d1, ds1, p1, q1, rfl, rfl, rfl, h1, r1⟩ := trodAll_cons r0
  obtain ⟨rfl, rfl, rfl⟩ := trodAll_nil r1
  obtain rfl : args = #[v0, v1] := by cases args; simp_all
  obtain ⟨rfl, rfl⟩ := trodVars_none hV
  clear hargs
  have hk' : Rows.uptoSmall H [d0, d1] = true := by simpa using hk
  have k0 := hval 0 27 v0 rfl rfl
  obtain ⟨fu0, m0⟩ := h0
  have F0 : Fit Try.prog 27 d0 := fit_upto hk' (by simp) _
  have s0 := cells_agg Try.underlying27 k0
  obtain ⟨y0, E0, g0⟩ := vwHeard.2.2 m0 F0
  obtain ⟨p0, l0, tx0, sg0, a0, n0, c0, bb0, oo0, qc0, rfl, e0, f0⟩ := heard_open E0
  obtain ⟨z0, s01, s02⟩ := s0
  have e0' := agg_of ⟨s01, s02⟩ e0
  subst e0'
  have k1 := hval 1 3 v1 rfl rfl
  obtain ⟨fu1, m1⟩ := h1
  obtain ⟨a1, e1, f1⟩ := view_int Try.underlying3 m1
  have e1' := int_of Try.underlying3 k1 e1
  subst e1'
  have G0 : shHeard.sz ((p0, l0), tx0, sg0) ≤ Rows.uptoBulk d0 := g0
  have HK : shHeard.sz ((p0, l0), tx0, sg0) ≤ 1048576 := by have h : Rows.uptoBulkAll [d0, d1] ≤ 1048576 := (by simpa [Rows.uptoSmall] using hk'); simp only [Rows.uptoBulkAll] at h; omega
  refine (walk W p0 a0 n0 c0 l0 tx0 bb0 oo0 qc0 sg0 f0 a1 f1 HK).mono fun e W' ⟨he, bel⟩ => ?_
  subst he
  exact ⟨_, rfl, _, _, _, [], _, [], hW', trodAll_mk1 (shut_bool Try.underlying4 _), trodAll_again laidOut bel (by kernel_rfl) hA2, rfl, bel.frame _, fun h => by cases h⟩

theorem over : Rows.termsEnoughUptoRow.holds Try.pinned (Rows.OpenSpec.upto Rows.termsEnoughSpec) :=
  OpenClaim.holds_of_cond 5 Try.f5 rfl rfl rfl rfl rfl rfl rfl ⟨rfl, rfl, rfl, rfl, rfl⟩ rfl rfl rfl rfl rfl (by kernel_rfl) Try.func5 (by kernel_rfl)
    (of_decide_eq_true (by kernel_rfl)) (by unfold Func.isWrapper; first | (rw [if_pos (by decide +kernel)]; kernel_rfl) | (rw [if_neg (by decide +kernel)]; exact ⟨rfl, rfl⟩))
    (fun os started H enc _ F => lifted os started H enc F)

theorem proved : Rows.TermsEnoughUptoSaid := over
#print axioms proved
end Go.Proofs.Ytelmpoaioccpoaa.termsEnough
