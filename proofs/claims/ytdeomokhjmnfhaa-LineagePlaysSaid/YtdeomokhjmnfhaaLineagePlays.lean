
/- LineagePlays: a tracker takes, refuses and knows what the document says, in whatever row of calls: for every input the law returns true, and its arguments read as before. No condition. -/
import Derived.Test.YtdeomokhjmnfhaaSa
namespace Go.Proofs.Ytdeomokhjmnfhaa.lineagePlays
open Go.ChangeShapes Go.WideShapes Go.ChangeAt Go.RowKit
set_option linter.unusedVariables false

def SepR (X : Nat → Prop) (p : Nat) (oc os : Option Nat) (X2 : Nat → Prop) (q : Nat) (ol : Option Nat) : Prop :=
  (∀ k, trX p oc os k → X2 k ∧ ¬ rX q ol k) ∧ (∀ k, rX q ol k → X k ∧ ¬ trX p oc os k)
def PS (w : World) (p q : Nat) (c0 : Cf) (L L2 : List Lk) (wr : World) : Prop :=
  ∃ B X oc os B2 X2 ol, Trk X wr B p oc os (c0 :: L.map (·.1)) (L.map (·.2)) ∧ RTrk X2 wr B2 q ol c0 L2 ∧ SepR X p oc os X2 q ol ∧
    chainC c0 L = 0 ∧ chainC c0 L2 = 0 ∧ Below w.heap.size w wr ∧ w.heap.size ≤ B ∧ B ≤ wr.heap.size ∧ w.heap.size ≤ B2 ∧ B2 ≤ wr.heap.size
section
variable {w wr w' : World} {p q : Nat} {c0 : Cf} {L L2 : List Lk}
theorem PS.below (h : PS w p q c0 L L2 wr) : Below w.heap.size w wr := by
  obtain ⟨B, X, oc, os, B2, X2, ol, h1, h2, h3, h4, h5, h6, h7, h8, h9, h10⟩ := h
  exact h6
theorem PS.old (h : PS w p q c0 L L2 wr) (hb : Below wr.heap.size wr w') : PS w p q c0 L L2 w' := by
  obtain ⟨B, X, oc, os, B2, X2, ol, h1, h2, h3, h4, h5, h6, h7, h8, h9, h10⟩ := h
  exact ⟨B, X, oc, os, B2, X2, ol, h1.old hb, h2.old hb, h3, h4, h5, bthen h6 hb, h7, Nat.le_trans h8 hb.size, h9, Nat.le_trans h10 hb.size⟩
theorem PS.call (h : PS w p q c0 L L2 wr) (h0 : 0 ≤ c0.1) (one : Bool) {a : Option Addr} {n c : Nat} {chain : List Lk} (hc : SlAt shLink w a n c chain) :
    Calls Try.prog 15 #[.pointer (some ⟨p, 0, none⟩), .agg #[.bool one, .slice a n c]] wr fun r w' => r = .returned (.int .i64 (callE c0 L one chain)) ∧ PS w p q c0 (callL c0 L one chain) L2 w' := by
  obtain ⟨B, X, oc, os, B2, X2, ol, h1, h2, h3, h4, h5, h6, h7, h8, h9, h10⟩ := h
  refine (call_any X B p oc os c0 L one a n c chain wr h1 h8 h0 h4 (rsl_old hc h6 (fun k hk => Nat.le_trans h7 (trX_ge h1 k hk)))).mono ?_
  rintro r w' ⟨rfl, X', oc', os', hn, hx, ht, hk⟩
  refine ⟨rfl, B, X', oc', os', B2, X2, ol, ht, h2.keep hk (fun k _ hx => h3.1 k hx), ⟨fun k hk => ?_, fun k hk => ?_⟩, call_good h4 one chain, h5, hk.below h6 (fun k hk' => Nat.le_trans h7 (trX_ge h1 k hk')), h7, Nat.le_trans h8 hk.size, h9, Nat.le_trans h10 hk.size⟩
  · rcases hn k hk with h' | h'
    · exact h3.1 k h'
    · exact ⟨h2.new k h', fun hc => by have := rX_lt h2 k hc; omega⟩
  · have hl := rX_lt h2 k hk
    obtain ⟨h11, h12⟩ := h3.2 k hk
    refine ⟨hx.2 k hl h11, fun hc => ?_⟩
    rcases hn k hc with h' | h'
    · exact h12 h'
    · omega
theorem PS.model (h : PS w p q c0 L L2 wr) (h0 : 0 ≤ c0.1) (one : Bool) {a : Option Addr} {n c : Nat} {chain : List Lk} (hc : SlAt shLink w a n c chain) :
    Calls Try.prog 20 #[.pointer (some ⟨q, 0, none⟩), .agg #[.bool one, .slice a n c]] wr fun r w' => r = .returned (.int .i64 (callE c0 L2 one chain)) ∧ PS w p q c0 L (callL c0 L2 one chain) w' := by
  obtain ⟨B, X, oc, os, B2, X2, ol, h1, h2, h3, h4, h5, h6, h7, h8, h9, h10⟩ := h
  refine (model_any X2 B2 q ol c0 L2 one a n c chain wr h2 h10 h0 h5 (hc.old h6)).mono ?_
  rintro r w' ⟨rfl, X', ol', hn, hx, ht, hk⟩
  refine ⟨rfl, B, X, oc, os, B2, X', ol', h1.keep hk (fun k _ hx => h3.2 k hx), ht, ⟨fun k hk => ?_, fun k hk => ?_⟩, h4, call_good h5 one chain, hk.below h6 (fun k hk' => Nat.le_trans h9 (rX_ge h2 k hk')), h7, Nat.le_trans h8 hk.size, h9, Nat.le_trans h10 hk.size⟩
  · have hl := trX_lt h1 k hk
    obtain ⟨h11, h12⟩ := h3.1 k hk
    refine ⟨hx.2 k hl h11, fun hc => ?_⟩
    rcases hn k hc with h' | h'
    · exact h12 h'
    · omega
  · rcases hn k hk with h' | h'
    · exact h3.2 k h'
    · exact ⟨h1.new k h', fun hc => by have := trX_lt h1 k hc; omega⟩
theorem PS.same (h : PS w p q c0 L L wr) (h0 : 0 ≤ c0.1) : Calls Try.prog 21 #[.pointer (some ⟨p, 0, none⟩), .pointer (some ⟨q, 0, none⟩)] wr fun r w' => r = .returned (.bool true) ∧ PS w p q c0 L L w' := by
  have h' := h
  obtain ⟨B, X, oc, os, B2, X2, ol, h1, h2, h3, h4, h5, h6, h7, h8, h9, h10⟩ := h'
  refine (same10_any X B p oc os X2 B2 q ol c0 L wr h1 h2 (chain_len h0 h4)).mono ?_
  rintro r w' ⟨rfl, hb⟩
  exact ⟨rfl, h.old hb⟩
end

set_option maxRecDepth 100000 in
set_option maxHeartbeats 2000000 in
theorem walk (w : World) (e0 : Int) (a0 : Option Addr) (n0 c0 : Nat) (l0 : List Int) (h0 : i64 e0) (s0 : SlAt Sh.int w a0 n0 c0 l0) (a : Option Addr) (n c : Nat) (script : List Op) (hs : SlAt shOp w a n c script) :
    Calls Try.prog 6 #[.agg #[.int .i64 e0, .slice a0 n0 c0], .slice a n c] w fun e w' => e = .returned (.bool true) ∧ Below w.heap.size w w' := by
  have hlen := hs.len
  have hmax := Nat.le_trans hs.cap hs.max
  have HS := Lib.hid hs
  have HI := Lib.hid s0
  have hn := s0.nil; have hcap0 := s0.cap; have hby := s0.bytes
  have HN := Lib.hid (show a0 = none → c0 = 0 ∧ n0 = 0 from fun h => ⟨hn h, by have := hn h; omega⟩)
  clear hs s0 hn hcap0
  go_enter Try.func6, Try.ntmps6
  go_wp2_with fail
  refine (lives10_any _).mono ?_
  rintro r w1 ⟨rfl, b1⟩
  have x0 := below_cell b1 (b := w.heap.size) (o := 0) (v := .int .i64 e0) (by simp)
  have x1 := below_cell b1 (b := w.heap.size) (o := 1) (v := .slice a0 n0 c0) (by simp)
  have B1 := Lib.hid (bthen (below_alloc w _) b1)
  clear b1
  go_wp2_with fail
  refine (new_any e0 a0 n0 c0 l0 w1 (ints_of_sl (HI.out.old B1.out)) HN.out hby h0).mono ?_
  rintro r w2 ⟨b2, h2⟩
  replace x0 := below_cell b2 x0
  replace x1 := below_cell b2 x1
  have B2 := Lib.hid (bthen B1.out b2)
  rcases h2 with ⟨hr, he, X, p, oc, rfl, hp, hX, ht⟩ | ⟨hno, rfl⟩
  · have HRE := Lib.hid (show rightB e0 l0 = true ∧ e0 = 0 from ⟨hr, he⟩)
    have HT0 := Lib.hid ht
    clear hr he ht hX
    go_wp2_with fail
    refine (lnew_any e0 a0 n0 c0 l0 w w2 HI.out B2.out h0).mono ?_
    rintro r w3 ⟨b3, h3⟩
    rcases h3 with ⟨_, _, X2, q, rfl, hq, hX2, ht2⟩ | ⟨hno, _⟩
    · have HE := Lib.hid (show 0 ≤ ((e0, l0) : Cf).1 by rw [HRE.out.2]; exact Int.le_refl _)
      have HT := Lib.hid (show PS w p q (e0, l0) [] [] w3 from by
        have hz1 := B1.out.size
        have hz2 := b2.size
        refine ⟨_, X, oc, none, _, X2, none, HT0.out.old b3, ht2, ⟨fun k hk => ?_, fun k hk => ?_⟩, rfl, rfl, bthen B2.out b3, hz1, Nat.le_trans b2.size b3.size, B2.out.size, b3.size⟩
        · have h1 := trX_ge HT0.out k hk
          have h2 := trX_lt HT0.out k hk
          exact ⟨(hX2 k).2 (by omega), fun hc => by have := rX_ge ht2 k hc; omega⟩
        · have h1 := rX_ge ht2 k hk
          exact ⟨HT0.out.new k h1, fun hc => by have := trX_lt HT0.out k hc; omega⟩)
      clear HT0 ht2 hX2 hp hq HRE b2 b3 B2 x0 x1
      generalize ((e0, l0) : Cf) = cf at *
      go_wp2_with fail
      go_loopw [9] (fun i wr => ∃ j : Nat, j ≤ n ∧ i = .int .i64 j ∧ Hid (∃ L, PS w p q cf L L wr)) (fun i _ => n - (intOf i).toNat)
      case atStart => exact ⟨0, by omega, rfl, Lib.hid ⟨[], HT.out⟩⟩
      case round =>
        clear HT
        obtain ⟨j, hj, rfl, HT⟩ := hrel
        obtain ⟨L, hT⟩ := HT.out
        have HT := Lib.hid hT
        clear hT
        by_cases hlt : j < n
        · obtain ⟨⟨one, chain⟩, hy⟩ : ∃ y, script[j]? = some y := ⟨_, List.getElem?_eq_getElem (by omega)⟩
          obtain ⟨b, o, a1, n1, c1, rfl, m0, m1, hsc⟩ := op_cells HS.out hy
          have HC := Lib.hid (show ∀ w', Below w.heap.size w w' → w'.cell? ⟨b, o + j * 2, none⟩ = some (.bool one) ∧ w'.cell? ⟨b, o + j * 2 + 1, none⟩ = some (.slice a1 n1 c1) from fun w' hb => ⟨below_cell hb m0, below_cell hb m1⟩)
          have HSC := Lib.hid hsc
          obtain ⟨m0, m1⟩ := HC.out _ HT.out.below
          have hj0 : (0 : Int) ≤ (j : Int) := by omega
          have hj1 : (j : Int) < (n : Int) := by omega
          have HTD := Lib.hid (HT.out.old (below_drewN (Below.refl wr.heap.size wr) 1))
          have CALL := Lib.hid (HTD.out.call HE.out one HSC.out)
          have CMOD := Lib.hid (fun (w' : World) (L1 : List Lk) (h : PS w p q cf L1 L w') => h.model HE.out one HSC.out)
          generalize callE cf L one chain = x at *
          generalize callL cf L one chain = L' at *
          clear hsc hy HTD
          go_wp2_with fail
          go_region_held3 (fun w' => w'.cell? ⟨b, o + j * 2, none⟩ = some (.bool one) ∧ w'.cell? ⟨b, o + j * 2 + 1, none⟩ = some (.slice a1 n1 c1)) (first | exact ⟨by assumption, by assumption⟩ | go_keep)
            (first
              | (go_at_call 15; refine CALL.out.mono ?_; rintro r w4 ⟨rfl, h4⟩; have H4 := Lib.hid h4; clear h4; obtain ⟨m0, m1⟩ := HC.out _ H4.out.below)
              | (go_at_call 20; refine (CMOD.out _ _ H4.out).mono ?_; rintro r w5 ⟨rfl, h5⟩; have H5 := Lib.hid h5; clear h5; obtain ⟨m0, m1⟩ := HC.out _ H5.out.below)
              | (go_at_call 21; refine (H5.out.same HE.out).mono ?_; rintro r w6 ⟨rfl, h6⟩; have H6 := Lib.hid h6; clear h6; obtain ⟨m0, m1⟩ := HC.out _ H6.out.below))
          clear m0 m1 CALL CMOD
          go_wp2_with fail
          go_roundw
          case rel => exact ⟨j + 1, by omega, by go_num, Lib.hid ⟨L', H6.out⟩⟩
          case measure => simp [intOf]; omega
        · have CS := Lib.hid (HT.out.same HE.out)
          go_wp2_with fail
          refine CS.out.mono ?_
          rintro r w6 ⟨rfl, h6⟩
          have B6 := Lib.hid h6.below
          clear h6 CS
          go_wp2_with fail
          go_ret
          exact ⟨rfl, B6.out⟩
    · exact (hno HRE.out).elim
  · have HNO := Lib.hid hno
    clear hno
    go_wp2_with fail
    refine (lnew_any e0 a0 n0 c0 l0 w w2 HI.out B2.out h0).mono ?_
    rintro r w3 ⟨b3, h3⟩
    rcases h3 with ⟨hr, he, _⟩ | ⟨_, rfl⟩
    · exact (HNO.out ⟨hr, he⟩).elim
    · have B3 := Lib.hid (bthen B2.out b3)
      clear b3 b2 x0 x1
      go_wp2_with fail
      go_ret
      exact ⟨rfl, B3.out⟩

set_option maxRecDepth 100000 in
theorem lifted (os : Os) (started : os.Started) (H : Type) (enc : TypeId × Value → H) :
    ReturnsInHanded {} Try.checked os 6 .any (Rows.lineagePlaysSpec.pre6 enc Try.prog Try.f6 Rows.lineagePlaysRow.domain false) (Rows.lineagePlaysSpec.post enc Try.prog Try.f6 false true false false) := by
  refine returnsInHanded_of_change_sized (C := Try.checked) own started (by kernel_rfl) Try.func6
    (ChangeSpec.witness6 (enc := enc) (C := Try.checked) false ⟨#[], #[.agg #[.int .i64 0, .slice none 0 0], .slice none 0 0], []⟩ 8 (by kernel_rfl) (by kernel_rfl) (by kernel_rfl) (by kernel_rfl)) ?_
  intro W base args ds gs before hval0 hW hcnd hsz _
  have hval : ∀ (j : Nat) t v, Try.f6.params[j]? = some t → args[j]? = some v → Value.okWide Try.prog W .any base t v := hval0
  have hW' := hW
  obtain ⟨p, q, hA0, hV, rfl, hfz, hnd⟩ := hW
  have hA : DataW.TrodAll enc Try.prog W 0 (fun _ => true) true Try.f6.params.toList args.toList ds p := hA0
  rw [Try.params6] at hA hval hsz
  have hA2 := hA
  obtain ⟨v0, vs0, d0, ds0, p0, q0, hargs, rfl, rfl, h0, r0⟩ := trodAll_cons hA
  obtain ⟨v1, vs1, d1, ds1, p1, q1, rfl, rfl, rfl, h1, r1⟩ := trodAll_cons r0
  obtain ⟨rfl, rfl, rfl⟩ := trodAll_nil r1
  obtain rfl : args = #[v0, v1] := by cases args; simp_all
  obtain ⟨rfl, rfl⟩ := trodVars_none hV
  clear hargs
  have k0 := hval 0 24 v0 rfl rfl
  obtain ⟨fu0, m0⟩ := h0
  have w0 := weights_of hsz (j := 0) (t := 24) rfl rfl
  have F0 : Fit Try.prog 24 d0 := .inl w0
  have s0 := cells_agg Try.underlying24 k0
  obtain ⟨y0, E0, g0⟩ := vwConf.2.2 m0 F0
  obtain ⟨p0, l0, a0, n0, c0, rfl, e0, f0, j0⟩ := conf_open E0
  obtain ⟨z0, s01, s02⟩ := s0
  have e0' := agg_of ⟨s01, s02⟩ e0
  subst e0'
  have k1 := hval 1 32 v1 rfl rfl
  obtain ⟨fu1, m1⟩ := h1
  have w1 := weights_of hsz (j := 1) (t := 32) rfl rfl
  have F1 : Fit Try.prog 32 d1 := .inl w1
  obtain ⟨l1, ⟨a1, n1, c1, e1, f1⟩, g1⟩ := vwOps.2.2 m1 F1
  have e1' := slice_of Try.underlying32 k1 e1
  subst e1'
  refine (walk W p0 a0 n0 c0 l0 f0 j0 a1 n1 c1 l1 f1).mono fun e W' ⟨he, bel⟩ => ?_
  subst he
  exact ⟨_, rfl, _, _, _, [], _, [], hW', trodAll_mk1 (shut_bool Try.underlying4 _), trodAll_again laidOut bel (by kernel_rfl) hA2, rfl, bel.frame _, fun h => by cases h⟩

theorem over : Rows.lineagePlaysRow.holds Try.pinned (OpenSpec.ofChange Rows.lineagePlaysSpec) :=
  OpenClaim.holds_of_wide 6 Try.f6 rfl rfl rfl rfl rfl rfl rfl ⟨rfl, rfl, rfl, rfl, rfl⟩ rfl rfl rfl rfl rfl (by kernel_rfl) Try.func6 (by kernel_rfl)
    (of_decide_eq_true (by kernel_rfl)) (by unfold Func.isWrapper; first | (rw [if_pos (by decide +kernel)]; kernel_rfl) | (rw [if_neg (by decide +kernel)]; exact ⟨rfl, rfl⟩))
    (fun os started H enc _ => lifted os started H enc)

theorem proved : Rows.LineagePlaysSaid := over
#print axioms proved
end Go.Proofs.Ytdeomokhjmnfhaa.lineagePlays
