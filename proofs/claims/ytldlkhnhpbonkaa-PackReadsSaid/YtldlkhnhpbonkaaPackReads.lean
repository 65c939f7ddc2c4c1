/- PackReads: a reader reads from any bytes just what the document says: for every input the law returns true, and its arguments read as before. No condition. -/
import Derived.Test.YtldlkhnhpbonkaaIt
import Derived.Test.YtldlkhnhpbonkaaPhase
namespace Go.Proofs.Ytldlkhnhpbonkaa.packReads
open Go.ChangeShapes Go.WideShapes Go.ChangeAt Go.RowKit
set_option linter.unusedVariables false

theorem prd_heap {p : Nat} {text : ByteArray} {w w' : World} {s : R} (hr : PRd w p text s) (h : w'.heap = w.heap) : PRd w' p text s := by
  obtain ⟨at0, h1, h2, hk, h3⟩ := hr
  exact ⟨at0, h1, h2, by rw [h]; exact hk, h3⟩
theorem rrd_heap {p : Nat} {w w' : World} {s : R} (hr : RRd w p s) (h : w'.heap = w.heap) : RRd w' p s := by
  obtain ⟨S, hk, h1, h2⟩ := hr
  exact ⟨S, by rw [h]; exact hk, h1, h2⟩
/-- Both readers, and all that is older. -/
structure Box2 (text : ByteArray) (w : World) (p q : Nat) (wr : World) (s : R) : Prop where
  below : Below w.heap.size w wr
  hp : w.heap.size ≤ p
  hq : w.heap.size ≤ q
  prd : PRd wr p text s
  rrd : RRd wr q s
theorem Box2.step {text : ByteArray} {w : World} {p q : Nat} {wr w5 w6 : World} {s s' : R} (h : Box2 text w p q wr s) (h5 : Below wr.heap.size wr w5) (ho : Only p (some q) w5 w6) (h1 : PRd w6 p text s') (h2 : RRd w6 q s') : Box2 text w p q w6 s' :=
  ⟨Only.below (bthen h.below h5) ho h.hp (fun k hk => by injection hk with hk; have := h.hq; omega), h.hp, h.hq, h1, h2⟩
theorem Box2.old {text : ByteArray} {w : World} {p q : Nat} {wr w5 : World} {s : R} (h : Box2 text w p q wr s) (h5 : Below wr.heap.size wr w5) : Box2 text w p q w5 s :=
  ⟨bthen h.below h5, h.hp, h.hq, prd_below h.prd h5, rrd_below h.rrd h5⟩

set_option maxHeartbeats 2000000 in
theorem walk (w : World) (text : ByteArray) (hts : text.size ≤ 140737488351232) (a : Option Addr) (n c : Nat) (l : List It) (hl : SlAt shIt w a n c l) :
    Calls Try.prog 3 #[.string text, .slice a n c] w fun e w' => e = .returned (.bool true) ∧ Below w.heap.size w w' := by
  have HL := Lib.hid hl
  have hn : n ≤ 9223372036854775807 := Nat.le_trans hl.cap hl.max
  clear hl
  go_enter Try.func3, Try.ntmps3
  go_wp2_with fail
  refine (lives_any _).mono ?_
  rintro e w1 ⟨rfl, b1⟩
  go_wp2_with fail
  refine (read_any text w1 hts).mono ?_
  rintro e w2 ⟨rfl, hr2, b2⟩
  have hz1 := b1.size
  have hz2 := prd_lt hr2
  have HB := Lib.hid (show Box2 text w w1.heap.size w2.heap.size (w2.alloc (.cells #[.string text, .bool false] 28)) ⟨text.data.toList, false⟩ from
    ⟨balloc (bthen b1 b2) _, hz1, by omega, prd_below hr2 (below_alloc _ _), ⟨text, blk_alloc _ _, rfl, hts⟩⟩)
  clear b1 b2 hr2
  go_wp2_with fail
  have hne : ¬ w2.heap.size = w1.heap.size := by omega
  generalize w1.heap.size = p at *
  generalize w2.heap.size = q at *
  go_loopw [7] (fun i wr => ∃ j : Nat, ∃ s, j ≤ n ∧ i = .int .i64 j ∧ Hid (Box2 text w p q wr s)) (fun i _ => n - (intOf i).toNat)
  case atStart => exact ⟨0, _, by omega, rfl, HB⟩
  case round =>
    clear HB
    obtain ⟨j, s, hj, rfl, HB⟩ := hrel
    by_cases hlt : j < n
    · obtain ⟨b, o, k, m, x, t, rfl, _, c0, c1, c2, c3, _⟩ := it_cells (HL.out.old HB.out.below) hlt
      have CS : ∀ (w' : World), Below wr.heap.size wr w' → Calls Try.prog 12 #[.pointer (some ⟨p, 0, none⟩), .pointer (some ⟨q, 0, none⟩), .agg #[.int .i64 k, .int .i64 m, .int .u64 x, .string t]] w' (SamePost w' p q text (iNext s (kindN k))) :=
        fun w' hw => same_any k m x t p q text s w' hne (prd_below HB.out.prd hw) (rrd_below HB.out.rrd hw)
      replace CS := Lib.hid CS
      generalize iNext s (kindN k) = s' at *
      have hbl := World.block_lt c0
      have hj0 : (0 : Int) ≤ (j : Int) := by omega
      have hj1 : (j : Int) < (n : Int) := by omega
      go_wp2_with fail
      refine wp_region_parts (by kernel_rfl) ?_
      refine wpAny_seg (Below wr.heap.size wr) 0 6 _ (by kernel_rfl) rfl rfl (below_drewN (Below.refl _ _) 1) ?_
      repeat (refine wpQuiet_step (fun K hK => ?_); go_simp; first | (refine hK _ ?_; clear hK K) | (apply Exists.intro; refine ⟨fun w' hw' => ?_, hK _ ?_⟩; (first | (obtain ⟨cc, dd⟩ := bcell hw'; go_simp; rfl) | (with_reducible rfl)); clear hK K))
      refine wpQuiet_nil ?_
      intro w5 h5
      refine wpAny_bar 6 _ (by kernel_rfl) rfl rfl (fun K hK => ?_)
      refine step_calls_g (by rfl) 12 #[.pointer (some ⟨p, 0, none⟩), .pointer (some ⟨q, 0, none⟩), .agg #[.int .i64 k, .int .i64 m, .int .u64 x, .string t]] (by go_simp) (CS.out _ h5) ?_
      rintro e w6 ⟨rfl, hr6, hm6, ho6⟩
      refine ⟨_, rfl, hK _ _ ?_⟩
      clear hK K
      have HB6 := Lib.hid (HB.out.step h5 ho6 hr6 hm6)
      have Hm6 := Lib.hid hm6; have Hr6 := Lib.hid hr6
      obtain ⟨S6, hk6, hs6, ht6⟩ := hm6
      have k6 : w6.cell? ⟨q, 0, none⟩ = some (.string S6) := by rw [blk_cell hk6]; rfl
      have l6 : S6.size = s'.rest.length := by rw [← hs6]; simp
      have l7 : ((s'.rest.length : Int) != (S6.size : Int)) = false := by rw [l6]; simp
      clear hk6 hs6 hr6 ho6 h5 CS l6 c0 c1 c2 c3
      have hq6 := rrd_lt Hm6.out
      refine wpAny_seg (Below w6.heap.size w6) 7 25 _ (by kernel_rfl) rfl rfl (Below.refl _ _) ?_
      repeat (refine wpQuiet_step (fun K hK => ?_); go_simp; first | (refine hK _ ?_; clear hK K) | (apply Exists.intro; refine ⟨fun w' hw' => ?_, hK _ ?_⟩; (first | (go_at_call 13; exact Calls.quiet_below_drawn hw' (left_any p text s' _ (prd_below Hr6.out hw'))) | (go_at_call 14; exact Calls.quiet_below_drawn hw' (end_any p text s' _ (prd_below Hr6.out hw'))) | (go_at_call 15; exact Calls.quiet_below_same hw' (rrend_any q s' _ (rrd_below Hm6.out hw'))) | (obtain ⟨cc, dd⟩ := bcell hw'; go_simp; rfl) | (with_reducible rfl)); clear hK K))
      refine wpQuiet_nil ?_
      intro w7 h7
      refine wpAny_end rfl ?_
      go_wp2_with fail
      go_roundw
      case rel => exact ⟨j + 1, s', by omega, by go_num, Lib.hid (HB6.out.old h7)⟩
      case measure => simp [intOf]; omega
    · obtain rfl : j = n := by omega
      have hm := HB.out.rrd
      obtain ⟨S6, hk6, hs6, ht6⟩ := hm
      have k6 : wr.cell? ⟨q, 0, none⟩ = some (.string S6) := by rw [blk_cell hk6]; rfl
      have l6 : S6.size = s.rest.length := by rw [← hs6]; simp
      have l7 : ((s.rest.length : Int) == (S6.size : Int)) = true := by rw [l6]; simp
      have hq6 := blk_lt hk6
      clear hk6 hs6 l6
      go_wp2_with fail
      refine wp_region_parts (by kernel_rfl) ?_
      refine wpAny_seg (Below wr.heap.size wr) 0 9 _ (by kernel_rfl) rfl rfl (below_drewN (Below.refl _ _) 1) ?_
      repeat (refine wpQuiet_step (fun K hK => ?_); go_simp; first | (refine hK _ ?_; clear hK K) | (apply Exists.intro; refine ⟨fun w' hw' => ?_, hK _ ?_⟩; (first | (go_at_call 13; exact Calls.quiet_below_drawn hw' (left_any p text s _ (prd_below HB.out.prd hw'))) | (obtain ⟨cc, dd⟩ := bcell hw'; go_simp; rfl) | (with_reducible rfl)); clear hK K))
      refine wpQuiet_nil ?_
      intro w7 h7
      refine wpAny_end rfl ?_
      go_wp2_with fail
      go_ret
      exact ⟨rfl, bthen HB.out.below h7⟩

set_option maxRecDepth 100000 in
theorem lifted (os : Os) (started : os.Started) (H : Type) (enc : TypeId × Value → H) :
    ReturnsInHanded {} Try.checked os 3 .any (Rows.packReadsSpec.pre6 enc Try.prog Try.f3 Rows.packReadsRow.domain false) (Rows.packReadsSpec.post enc Try.prog Try.f3 false true false false) := by
  refine returnsInHanded_of_change_sized (C := Try.checked) own started (by kernel_rfl) Try.func3
    (ChangeSpec.witness6 (enc := enc) (C := Try.checked) false ⟨#[], #[.string ⟨#[]⟩, .slice none 0 0], []⟩ 8 (by kernel_rfl) (by kernel_rfl) (by kernel_rfl) (by kernel_rfl)) ?_
  intro W base args ds gs before hval0 hW hcnd hsz _
  have hval : ∀ (j : Nat) t v, Try.f3.params[j]? = some t → args[j]? = some v → Value.okWide Try.prog W .any base t v := hval0
  have hW' := hW
  obtain ⟨p, q, hA0, hV, rfl, hfz, hnd⟩ := hW
  have hA : DataW.TrodAll enc Try.prog W 0 (fun _ => true) true Try.f3.params.toList args.toList ds p := hA0
  rw [Try.params3] at hA hval hsz
  have hA2 := hA
  obtain ⟨v0, vs0, d0, ds0, p0, q0, hargs, rfl, rfl, h0, r0⟩ := trodAll_cons hA
  obtain ⟨v1, vs1, d1, ds1, p1, q1, rfl, rfl, rfl, h1, r1⟩ := trodAll_cons r0
  obtain ⟨rfl, rfl, rfl⟩ := trodAll_nil r1
  obtain rfl : args = #[v0, v1] := by cases args; simp_all
  obtain ⟨rfl, rfl⟩ := trodVars_none hV
  clear hargs
  have k0 := hval 0 9 v0 rfl rfl
  obtain ⟨fu0, m0⟩ := h0
  have w0 := weights_of hsz (j := 0) (t := 9) rfl rfl
  obtain ⟨a0, e0, f0⟩ := view_string Try.underlying9 m0 w0
  have e0' := string_of Try.underlying9 k0 e0
  subst e0'
  have k1 := hval 1 22 v1 rfl rfl
  obtain ⟨fu1, m1⟩ := h1
  have w1 := weights_of hsz (j := 1) (t := 22) rfl rfl
  obtain ⟨l1, ⟨a1, n1, c1, e1, f1⟩, g1⟩ := vwIts.2.2 m1 w1
  have e1' := slice_of Try.underlying22 k1 e1
  subst e1'
  refine (walk W a0 f0 a1 n1 c1 l1 f1).mono fun e W' ⟨he, bel⟩ => ?_
  subst he
  exact ⟨_, rfl, _, _, _, [], _, [], hW', trodAll_mk1 (shut_bool Try.underlying4 _), trodAll_again laidOut bel (by kernel_rfl) hA2, rfl, bel.frame _, fun h => by cases h⟩

theorem over : Rows.packReadsRow.holds Try.pinned (OpenSpec.ofChange Rows.packReadsSpec) :=
  OpenClaim.holds_of_wide 3 Try.f3 rfl rfl rfl rfl rfl rfl rfl ⟨rfl, rfl, rfl, rfl, rfl⟩ rfl rfl rfl rfl rfl (by kernel_rfl) Try.func3 (by kernel_rfl)
    (of_decide_eq_true (by kernel_rfl)) (by unfold Func.isWrapper; first | (rw [if_pos (by decide +kernel)]; kernel_rfl) | (rw [if_neg (by decide +kernel)]; exact ⟨rfl, rfl⟩))
    (fun os started H enc _ => lifted os started H enc)

theorem proved : Rows.PackReadsSaid := over
#print axioms proved
end Go.Proofs.Ytldlkhnhpbonkaa.packReads
