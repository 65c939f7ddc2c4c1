
/- TermsGathers: what is gathered is what the document says, of any list; the list stays: for every input the law returns true, and its argument reads as before. No condition. -/
import Derived.Test.YtelmpoaioccpoaaRg3
import Derived.Test.YtelmpoaioccpoaaSm
import Derived.Test.YtelmpoaioccpoaaAo
import Derived.Test.YtelmpoaioccpoaaNews1
import Derived.Deep.RegionHeld3
import Derived.Test.YtelmpoaioccpoaaLift
namespace Go.Proofs.Ytelmpoaioccpoaa.termsGathers
set_option maxRecDepth 100000
open Go.ChangeShapes Go.WideShapes Go.ChangeAt Go.RowKit
attribute [local irreducible] wpQuiet
set_option linter.unusedVariables false
set_option linter.unusedSimpArgs false

theorem heard_at {w : World} {p : Nat} {e : Int} {a : Option Addr} {n c : Nat} {t : ByteArray} {b : Option Addr} {o q : Nat} {T : TypeId} {fr : Nat × Nat} (h : w.heap[p]? = some (.cells #[.int .i64 e, .slice a n c, .string t, .slice b o q] T fr)) :
    w.cell? ⟨p, 0, none⟩ = some (.int .i64 e) ∧ w.cell? ⟨p, 1, none⟩ = some (.slice a n c) ∧ w.cell? ⟨p, 2, none⟩ = some (.string t) ∧ w.cell? ⟨p, 3, none⟩ = some (.slice b o q) :=
  ⟨by rw [blk_cell h]; rfl, by rw [blk_cell h]; rfl, by rw [blk_cell h]; rfl, by rw [blk_cell h]; rfl⟩
theorem sig_news {w : World} {a : Option Addr} {n c : Nat} {l : List Sg} (h : SlAt shSig w a n c l) : ∀ ad, a = some ad → ∀ j u, (flatV l)[j]? = some u → w.cell? (ad.add j) = some u := by
  intro ad ha j u hu
  have hj : j < l.length * 2 := by rw [← flatV_len]; exact (List.getElem?_eq_some_iff.1 hu).1
  obtain ⟨b, o, x, t, hb, hy, h0, h1, -, -⟩ := sig_cells h (i := j / 2) (by rw [← h.len]; omega)
  rw [ha] at hb
  injection hb with hb
  subst hb
  rw [Addr.add_lit]
  rcases Nat.mod_two_eq_zero_or_one j with hr | hr
  · have h2 := flatV_at l (j / 2) 0 (x, t) _ hy rfl
    rw [show j / 2 * 2 + 0 = j by omega, hu] at h2
    rw [show o + j = o + j / 2 * 2 by omega, h0]; exact h2.symm
  · have h2 := flatV_at l (j / 2) 1 (x, t) _ hy rfl
    rw [show j / 2 * 2 + 1 = j by omega, hu] at h2
    rw [show o + j = o + j / 2 * 2 + 1 by omega, h1]; exact h2.symm
theorem flatV_one (l : List Sg) : ∀ u ∈ flatV l, u.oneCell' = true := by
  intro u hu
  obtain ⟨s, _, hs⟩ := List.mem_flatMap.1 hu
  simp [encS] at hs
  rcases hs with rfl | rfl <;> rfl
theorem sig_ok {w : World} {a : Option Addr} {n c : Nat} {l : List Sg} (h : SlAt shSig w a n c l) : ∀ s ∈ l, sgOk s := by
  intro s hs
  obtain ⟨i, hi, rfl⟩ := List.getElem_of_mem hs
  obtain ⟨b, o, x, t, _, hy, _, _, h1, h2⟩ := sig_cells h (i := i) (by rw [← h.len]; exact hi)
  rw [List.getElem?_eq_getElem hi] at hy
  injection hy with hy
  rw [hy]; exact ⟨h1, h2⟩
theorem gatP_ok {text : ByteArray} {sigs : List Sg} {ms : List Int} (h : ∀ s ∈ sigs, sgOk s) : ∀ s ∈ gatP text sigs ms, sgOk s := fun s hs =>
  h s (((gatU_fact text sigs ms).2 s).1 ((gatP_perm text sigs ms).mem_iff.1 hs)).1
theorem gatP_le (text : ByteArray) (sigs : List Sg) (ms : List Int) : (gatP text sigs ms).length ≤ sigs.length := by rw [(gatP_perm text sigs ms).length_eq]; exact gatU_le _ _ _

theorem same_self (a : Option Addr) (n c : Nat) (l : List Sg) (a' : Option Addr) (n' c' : Nat) (w : World) (h : SlAt shSig w a n c l) (h' : SlAt shSig w a' n' c' l) :
    Calls Try.prog 16 #[.slice a n c, .slice a' n' c'] w fun e w' => e = .returned (.bool true) ∧ ∃ q, w' = w.drewN q := by
  have := samesigs_any a n c l a' n' c' l w h h'
  rw [decide_eq_true rfl] at this
  exact this

set_option maxHeartbeats 2000000 in
theorem walk (w : World) (e : Int) (a : Option Addr) (n c : Nat) (l : List Int) (t : ByteArray) (b : Option Addr) (o q : Nat) (s : List Sg) (h : HeardIn w e a n c l t b o q s) :
    Calls Try.prog 4 #[.agg #[.int .i64 e, .slice a n c, .string t, .slice b o q]] w fun e w' => e = .returned (.bool true) ∧ Below w.heap.size w w' := by
  have HI := Lib.hid (ints_of_sl h.m); have HS := Lib.hid h.s; have HT := Lib.hid h.t
  have CL := Lib.hid lives09_any
  obtain ⟨ii, hi, hz0, hz1, hz2⟩ := info_parts info_sig9
  have hob : o * 24 ≤ 140737488355328 := h.s.bytes
  have hol := h.s.len
  have hbnil : b = none → o = 0 ∧ q = 0 := fun hn => ⟨by have := h.s.nil hn; have := h.s.cap; omega, h.s.nil hn⟩
  have KX := Lib.hid (blk_alloc w (.cells #[.int .i64 e, .slice a n c, .string t, .slice b o q] 27 (0, 0)))
  have BX := Lib.hid (below_alloc w (.cells #[.int .i64 e, .slice a n c, .string t, .slice b o q] 27 (0, 0)))
  clear h
  go_enter Try.func4, Try.ntmps4
  go_wp2_with fail
  refine (CL.out _).mono ?_
  rintro r w1 ⟨rfl, b1⟩
  have B1 := Lib.hid (bthen BX.out b1)
  have K1 := Lib.hid (blk_below KX.out b1)
  obtain ⟨x0, x1, x2, x3⟩ := heard_at K1.out
  have hzw1 : w.heap.size + 1 ≤ w1.heap.size := by have := b1.size; simp at this; omega
  clear b1 KX BX CL
  have HS1 := Lib.hid (HS.out.old B1.out)
  have hfl : (flatV s).length = o * 2 := by rw [flatV_len, hol]
  go_wp2_with (first | (at_builtin; refine wpList_append_any _ rfl (.const (.slice none 0 0)) (.tmp 8) 25 rfl (w.heap.size + 1) 34 ii (.agg #[.int .i64 0, .string ⟨#[]⟩]) 2 24 Try.underlying25 hi hz0 hz1 hz2 rfl (by decide) (.slice none 0 0) 0 [] rfl (World.ownsRow_nil _ _ _ _) b o q (flatV s) rfl hfl hbnil (sig_news HS1.out) (flatV_one s) (by unfold maxLen; omega) (by omega) hzw1 ?_) | fail)
  intro v2 w2 ho2 hg2 hn2
  have b2 : Below w1.heap.size w1 w2 := grown_below_none hg2
  have B2 := Lib.hid (bthen B1.out b2)
  have hzw2 : w.heap.size + 1 ≤ w2.heap.size := Nat.le_trans hzw1 b2.size
  have K2 := Lib.hid (blk_below K1.out b2)
  obtain ⟨a2, c2, rfl⟩ := owns_form ho2
  have HO2 := Lib.hid (owns_old ho2 (below_alloc w2 (.cells #[.int .i64 (-7), .string ⟨#[]⟩] 34 (0, 0))))
  clear ho2 hg2 b2 x0 x1 x2 x3 K1 B1 HS1 hn2
  go_wp2_with (first | (at_builtin; refine wpList_append_one _ rfl (.tmp 9) (.tmp 11) 25 rfl (w.heap.size + 1) 34 ii (.agg #[.int .i64 0, .string ⟨#[]⟩]) 2 24 Try.underlying25 hi hz0 hz1 hz2 rfl (by decide) (.slice a2 o c2) o (flatV s) rfl HO2.out ⟨w2.heap.size, 0, none⟩ 1 [.int .i64 (-7), .string ⟨#[]⟩] rfl rfl (sig_new w2 (-7) ⟨#[]⟩) (by simp [Value.oneCell']) (by unfold maxLen; omega) (by decide) (by omega) (by simp; omega) ?_) | fail)
  intro v3 w3 ho3 hg3
  have hlt2 := HO2.out.lt
  have hba2 := below_alloc w2 (.cells #[.int .i64 (-7), .string ⟨#[]⟩] 34 (0, 0))
  have K3 := Lib.hid (show w3.heap[w.heap.size]? = _ from (hg3.block w.heap.size (by have := blk_lt (blk_below K2.out hba2); exact this) (fun e => by have := (hlt2 _ e.symm).1; omega)).trans (blk_below K2.out hba2))
  have B3 := Lib.hid (grown_below (bthen B2.out hba2) hg3 (fun j hj => by have := (hlt2 j hj).1; omega))
  have h33 : flatV s ++ [.int .i64 (-7), .string ⟨#[]⟩] = flatV (s ++ [(-7, ⟨#[]⟩)]) := by rw [flatV_snoc]
  rw [h33] at ho3
  obtain ⟨a3, c3, rfl⟩ := owns_form ho3
  obtain ⟨g, hoc, rfl⟩ : ∃ g, o + 1 ≤ c3 ∧ a3 = some ⟨g, 0, none⟩ := by
    rcases ho3.2 with ⟨hv, h0⟩ | ⟨g, cap, c0, hv, _, _, hnc, _⟩
    · omega
    · injection hv with h1 h2 h3
      exact ⟨g, by omega, h1⟩
  have hc3m : c3 ≤ 9223372036854775807 := by
    rcases ho3.2 with ⟨hv, h0⟩ | ⟨g, cap, c0, hv, _, _, hnc, hcm, _⟩
    · omega
    · injection hv with h1 h2 h3
      have hmax : maxLen = 9223372036854775807 := rfl
      omega
  have HO3 := Lib.hid ho3
  have HSl := Lib.hid (show ∀ w', Below w3.heap.size w3 w' → SlAt shSig w' (some ⟨g, 0, none⟩) o c3 s from fun w' hb => sl_flat hol (fun t v hv => by
    have := (owns_old HO3.out hb).cells (g := g) rfl t v (by rw [flatV_snoc, List.getElem?_append_left (List.getElem?_eq_some_iff.1 hv).1]; exact hv)
    rwa [Addr.add_lit, Nat.zero_add] at this) (sig_ok HS.out) (by omega) hc3m hob)
  have HLast := Lib.hid (show ∀ w', Below w3.heap.size w3 w' → w'.cell? ⟨g, o * 2, none⟩ = some (.int .i64 (-7)) ∧ w'.cell? ⟨g, o * 2 + 1, none⟩ = some (.string ⟨#[]⟩) from fun w' hb => by
    have := owns_cellS (owns_old HO3.out hb) (k := o) (s := (-7, ⟨#[]⟩)) (by rw [← hol]; simp)
    exact this)
  clear ho3 hg3 hlt2 hba2 h33 HO2 K2 B2
  have CG := Lib.hid (fun w' (hb : Below w3.heap.size w3 w') => gather_any e a n c l t (some ⟨g, 0, none⟩) o c3 s w' (HI.out.below (bthen B3.out hb)) (HSl.out _ hb) HT.out)
  have CR := Lib.hid (fun w' (hb : Below w3.heap.size w3 w') => rgather_any e a n c l t b o q s w' (HI.out.below (bthen B3.out hb)) (HS.out.old (bthen B3.out hb)) HT.out)
  have CS := Lib.hid (fun w' (hb : Below w3.heap.size w3 w') => same_self (some ⟨g, 0, none⟩) o c3 s b o q w' (HSl.out _ hb) (HS.out.old (bthen B3.out hb)))
  have hGok := gatP_ok (text := t) (ms := l) (sig_ok HS.out)
  have hGle := gatP_le t s l
  generalize gatP t s l = G at *
  obtain ⟨x0, x1, x2, x3⟩ := heard_at K3.out
  have hz := World.block_lt x0
  have hoc2 : o ≤ c3 := by omega
  go_wp2_with fail
  refine wp_region_parts (by kernel_rfl) ?_
  refine wpAny_seg (Below w3.heap.size w3) 0 9 _ (by kernel_rfl) rfl rfl (below_drewN (Below.refl _ _) 1) ?_
  repeat (refine wpQuiet_step (fun K hK => ?_); go_simp; first | (refine hK _ ?_; clear hK K) | (apply Exists.intro; refine ⟨fun w' hw' => ?_, hK _ ?_⟩; (first | (with_reducible rfl) | (obtain ⟨cc, dd⟩ := bcell hw'; go_simp; rfl)); clear hK K))
  refine wpQuiet_nil ?_
  intro w5 h5
  refine wpAny_tail 9 (by kernel_rfl) ?_
  simp only [List.drop_succ_cons, List.drop_zero]
  go_wp2_with fail
  refine (CG.out _ h5).mono ?_
  rintro r w6 ⟨v6, rfl, ho6, b6⟩
  obtain ⟨a6, c6, rfl⟩ := owns_form ho6
  have B6 := Lib.hid (bthen h5 b6)
  have HO6 := Lib.hid ho6
  clear ho6 b6 h5 x0 x1 x2 x3 hz CG
  obtain ⟨x0, x1, x2, x3⟩ := heard_at (blk_below K3.out B6.out)
  have hz := World.block_lt x0
  go_wp2_with fail
  have HG6 := Lib.hid (sl_owned HO6.out hGok (by omega))
  have HGok := Lib.hid hGok
  have HB := Lib.hid (below_drewN (Below.refl w6.heap.size w6) 1)
  obtain ⟨y0, y1⟩ := HLast.out _ B6.out
  have hq : ∀ w, (binOp .eql 34 (.agg #[.int .i64 (-7), .string ⟨#[]⟩]) (.agg #[.int .i64 (-7), .string ⟨#[]⟩])).run Try.prog w = .ok (.bool true) w := fun w => by have := run_eq_sig w (-7) ⟨#[]⟩ (-7) ⟨#[]⟩; rwa [decide_eq_true rfl] at this
  have HGB := Lib.hid hGle
  have hi1 : (0 : Int) ≤ (o : Int) := by omega
  have hi2 : (o : Int) < (o : Int) + 1 := by omega
  clear hGok hGle hfl hbnil hzw1 hzw2 hi hz0 hz1 hz2 HO6
  go_region_held3 (fun w' => (w'.cell? ⟨w.heap.size, 0, none⟩ = some (.int .i64 e) ∧ w'.cell? ⟨w.heap.size, 1, none⟩ = some (.slice a n c) ∧ w'.cell? ⟨w.heap.size, 2, none⟩ = some (.string t) ∧ w'.cell? ⟨w.heap.size, 3, none⟩ = some (.slice b o q)) ∧ w'.cell? ⟨g, o * 2, none⟩ = some (.int .i64 (-7)) ∧ w'.cell? ⟨g, o * 2 + 1, none⟩ = some (.string ⟨#[]⟩))
    (first | exact ⟨⟨by assumption, by assumption, by assumption, by assumption⟩, by assumption, by assumption⟩ | go_keep)
    (first
      | (go_at_call 14; refine (CR.out _ (bthen B6.out HB.out)).mono ?_; rintro r w8 ⟨v8, rfl, ho8, b8⟩; obtain ⟨a8, c8, rfl⟩ := owns_form ho8; have HO8 := Lib.hid (sl_owned ho8 HGok.out (by have := HGB.out; omega)); have HB := Lib.hid (bthen HB.out b8); have HB8 := HB; clear ho8 b8; obtain ⟨x0, x1, x2, x3⟩ := heard_at (blk_below K3.out (bthen B6.out HB.out)); obtain ⟨y0, y1⟩ := HLast.out _ (bthen B6.out HB.out))
      | (go_at_call_of 16 (Value.slice a6 G.length c6); refine (same_self a6 G.length c6 G a8 G.length c8 _ (HG6.out.old HB.out) HO8.out).mono ?_; rintro r w9 ⟨rfl, q9, rfl⟩; have HB := Lib.hid (below_drewN HB.out q9); obtain ⟨x0, x1, x2, x3⟩ := heard_at (blk_below K3.out (bthen B6.out HB.out)); obtain ⟨y0, y1⟩ := HLast.out _ (bthen B6.out HB.out))
      | (go_at_call_of 16 (Value.slice (some ⟨g, 0, none⟩) o c3); refine (CS.out _ (bthen B6.out HB.out)).mono ?_; rintro r w10 ⟨rfl, q10, rfl⟩; have HB := Lib.hid (below_drewN HB.out q10); obtain ⟨x0, x1, x2, x3⟩ := heard_at (blk_below K3.out (bthen B6.out HB.out)); obtain ⟨y0, y1⟩ := HLast.out _ (bthen B6.out HB.out)))
  go_wp2_with fail
  go_ret
  exact ⟨rfl, bthen B3.out (bthen B6.out (below_drewN HB8.out _))⟩
set_option maxRecDepth 100000 in
theorem lifted (os : Os) (started : os.Started) (H : Type) (enc : TypeId × Value → H) :
    ReturnsInHanded {} Try.checked os 4 .any (Rows.termsGathersSpec.pre6 enc Try.prog Try.f4 Rows.termsGathersRow.domain false) (Rows.termsGathersSpec.post enc Try.prog Try.f4 false true false false) := by
  refine returnsInHanded_of_change_sized (C := Try.checked) own started (by kernel_rfl) Try.func4
    (ChangeSpec.witness6 (enc := enc) (C := Try.checked) false ⟨#[], #[.agg #[.int .i64 0, .slice none 0 0, .string ⟨#[]⟩, .slice none 0 0]], []⟩ 8 (by kernel_rfl) (by kernel_rfl) (by kernel_rfl) (by kernel_rfl)) ?_
  intro W base args ds gs before hval0 hW hcnd hsz _
  have hval : ∀ (j : Nat) t v, Try.f4.params[j]? = some t → args[j]? = some v → Value.okWide Try.prog W .any base t v := hval0
  have hW' := hW
  obtain ⟨p, q, hA0, hV, rfl, hfz, hnd⟩ := hW
  have hA : DataW.TrodAll enc Try.prog W 0 (fun _ => true) true Try.f4.params.toList args.toList ds p := hA0
  rw [Try.params4] at hA hval hsz
  have hA2 := hA
  obtain ⟨v0, vs0, d0, ds0, p0, q0, hargs, rfl, rfl, h0, r0⟩ := trodAll_cons hA
  obtain ⟨rfl, rfl, rfl⟩ := trodAll_nil r0
  obtain rfl : args = #[v0] := by cases args; simp_all
  obtain ⟨rfl, rfl⟩ := trodVars_none hV
  clear hargs
  have k0 := hval 0 27 v0 rfl rfl
  obtain ⟨fu0, m0⟩ := h0
  have w0 := weights_of hsz (j := 0) (t := 27) rfl rfl
  have F0 : Fit Try.prog 27 d0 := .inl w0
  have s0 := cells_agg Try.underlying27 k0
  obtain ⟨y0, E0, g0⟩ := vwHeard.2.2 m0 F0
  obtain ⟨p0, l0, tx0, sg0, a0, n0, c0, bb0, oo0, qc0, rfl, e0, f0⟩ := heard_open E0
  obtain ⟨z0, s01, s02⟩ := s0
  have e0' := agg_of ⟨s01, s02⟩ e0
  subst e0'
  refine (walk W p0 a0 n0 c0 l0 tx0 bb0 oo0 qc0 sg0 f0).mono fun e W' ⟨he, bel⟩ => ?_
  subst he
  exact ⟨_, rfl, _, _, _, [], _, [], hW', trodAll_mk1 (shut_bool Try.underlying4 _), trodAll_again laidOut bel (by kernel_rfl) hA2, rfl, bel.frame _, fun h => by cases h⟩

theorem over : Rows.termsGathersRow.holds Try.pinned (OpenSpec.ofChange Rows.termsGathersSpec) :=
  OpenClaim.holds_of_wide 4 Try.f4 rfl rfl rfl rfl rfl rfl rfl ⟨rfl, rfl, rfl, rfl, rfl⟩ rfl rfl rfl rfl rfl (by kernel_rfl) Try.func4 (by kernel_rfl)
    (of_decide_eq_true (by kernel_rfl)) (by unfold Func.isWrapper; first | (rw [if_pos (by decide +kernel)]; kernel_rfl) | (rw [if_neg (by decide +kernel)]; exact ⟨rfl, rfl⟩))
    (fun os started H enc _ => lifted os started H enc)

theorem proved : Rows.TermsGathersSaid := over
#print axioms proved
end Go.Proofs.Ytelmpoaioccpoaa.termsGathers
