
/- VotesNil: a tally that isn't there takes no vote and settles nothing: for every input the law returns true, and its arguments read as before. No condition. -/
import Derived.Test.YtfhbjajhmegdmaaVw15
import Derived.Test.YtfhbjajhmegdmaaLift
namespace Go.Proofs.Ytfhbjajhmegdmaa.votesNil
set_option maxRecDepth 100000
open Go.ChangeShapes Go.WideShapes Go.ChangeAt Go.RowKit
set_option linter.unusedVariables false
set_option linter.unusedSimpArgs false

def nilR (vb : Nat) (x : Int) (t : ByteArray) (b : Option Addr) (m d : Nat) (q : Int) : Nat → World → Value → Prop
  | 0 => fun _ v => v = .pointer none
  | 1 => fun _ v => v = .pointer (some ⟨vb, 0, none⟩)
  | 2 => fun _ v => v = .int .i64 x
  | 3 => fun _ v => v = .pointer (some ⟨vb, 1, none⟩)
  | 4 => fun _ v => v = .string t
  | 5 => fun _ v => v = .pointer (some ⟨vb, 2, none⟩)
  | 6 => fun _ v => v = .slice b m d
  | 7 => fun _ v => v = .agg #[.int .i64 x, .string t, .slice b m d, .int .i64 q]
  | 8 => fun w v => ∃ b, v = .agg #[.int .i64 0, .slice (some ⟨b, 0, none⟩) 4 4] ∧ SlAt Sh.int w (some ⟨b, 0, none⟩) 4 4 [0, 1, 2, 3]
  | 9 => fun w v => ∃ a n c, v = .slice a n c
  | _ => fun _ _ => False
theorem nilR_stab {vb : Nat} {x : Int} {t : ByteArray} {b : Option Addr} {m d : Nat} {q : Int} : ∀ i w w' v, nilR vb x t b m d q i w v → Below w.heap.size w w' → nilR vb x t b m d q i w' v
  | 0, w, w', v, h, hb => h
  | 1, w, w', v, h, hb => h
  | 2, w, w', v, h, hb => h
  | 3, w, w', v, h, hb => h
  | 4, w, w', v, h, hb => h
  | 5, w, w', v, h, hb => h
  | 6, w, w', v, h, hb => h
  | 7, w, w', v, h, hb => h
  | 8, w, w', v, ⟨b, h1, h2⟩, hb => ⟨b, h1, h2.old hb⟩
  | 9, w, w', v, ⟨a, n, c, h1⟩, hb => ⟨a, n, c, h1⟩
  | _ + 10, w, w', v, h, hb => h

set_option maxHeartbeats 2000000 in
theorem walk (w : World) (x : Int) (t : ByteArray) (b : Option Addr) (m d : Nat) (nx : List Int) (q : Int) (hv : VoteIn w x t b m d nx q) :
    Calls Try.prog 7 #[.agg #[.int .i64 x, .string t, .slice b m d, .int .i64 q]] w fun e w' => e = .returned (.bool true) ∧ Below w.heap.size w w' := by
  have BX := Lib.hid (below_alloc w (.cells #[.int .i64 x, .string t, .slice b m d, .int .i64 q] 38 (0, 0)))
  have KX := Lib.hid (blk_alloc w (.cells #[.int .i64 x, .string t, .slice b m d, .int .i64 q] 38 (0, 0)))
  have HV := Lib.hid hv
  have CL := Lib.hid lives15_any
  clear hv
  go_enter Try.func7, Try.ntmps7
  go_wp2_with fail
  refine (CL.out _).mono ?_
  rintro r w1 ⟨rfl, b1⟩
  have B1 := Lib.hid (bthen BX.out b1)
  have K1 := Lib.hid (blk_below KX.out b1)
  clear b1 BX KX
  go_wp2_with fail
  refine (vsettled_nil w1).mono ?_
  rintro r w2 ⟨rfl, b2⟩
  have B2 := Lib.hid (bthen B1.out b2)
  have K2 := Lib.hid (blk_below K1.out b2)
  clear b2 B1 K1
  go_upto_region 5 with (fail)
  have ba := below_alloc w2 (.cells #[.string ⟨#[]⟩, .slice none 0 0, .int .i64 0, .slice none 0 0, .slice none 0 0] 51 (0, 0))
  have KS := Lib.hid (blk_alloc w2 (.cells #[.string ⟨#[]⟩, .slice none 0 0, .int .i64 0, .slice none 0 0, .slice none 0 0] 51 (0, 0)))
  have B6 := Lib.hid (bthen B2.out ba)
  have KV := Lib.hid (blk_below K2.out ba)
  have HX6 := Lib.hid ((ints_of_sl HV.out.s).below B6.out)
  clear ba K2 B2
  generalize w2.alloc (.cells #[.string ⟨#[]⟩, .slice none 0 0, .int .i64 0, .slice none 0 0, .slice none 0 0] 51 (0, 0)) = w6 at *
  generalize hvb : w.heap.size = vb at *
  refine wp_region_made 10 (nilR vb x t b m d q) (fun _ _ => none) rfl (by kernel_rfl) (by kernel_rfl) nilR_stab (fun _ _ _ _ _ h => by cases h) (fun i oo hi ho => ?_) (fun vs w7 hb7 hs hne => ?_)
  · intro ac wa hba hE hF K hK
    have b7 := below_undrew hba
    have hno : ∀ k, (none : Option Nat) = some k → wa.heap.size ≤ k := fun _ h => by cases h
    have b7' := b7
    have hx := HX6.out
    have KVa := blk_below KV.out b7
    have z0 : wa.cell? ⟨vb, 0, none⟩ = some (.int .i64 x) := by rw [blk_cell KVa]; rfl
    have z1 : wa.cell? ⟨vb, 1, none⟩ = some (.string t) := by rw [blk_cell KVa]; rfl
    have z2 : wa.cell? ⟨vb, 2, none⟩ = some (.slice b m d) := by rw [blk_cell KVa]; rfl
    have z3 : wa.cell? ⟨vb, 3, none⟩ = some (.int .i64 q) := by rw [blk_cell KVa]; rfl
    have hi' : i = 0 ∨ i = 1 ∨ i = 2 ∨ i = 3 ∨ i = 4 ∨ i = 5 ∨ i = 6 ∨ i = 7 ∨ i = 8 ∨ i = 9 := by omega
    rcases hi' with rfl | rfl | rfl | rfl | rfl | rfl | rfl | rfl | rfl | rfl
    · obtain rfl := Option.some.inj ho
      have h1 : ac.eval (.tmp 3) = .pointer none := hE 3 (by decide)
      exact news_val rfl rfl (by generalize ac.eval = ρ at h1; simp only [execOp]; go_simp) (hK _ _ (Below.refl _ _) rfl hno)
    · obtain rfl := Option.some.inj ho
      have h1 : ac.eval (.tmp 1) = .pointer (some ⟨vb, 0, none⟩) := hE 1 (by decide)
      exact news_val rfl rfl (by generalize ac.eval = ρ at h1; simp only [execOp]; go_simp) (hK _ _ (Below.refl _ _) rfl hno)
    · obtain rfl := Option.some.inj ho
      have h1 : ac.eval (.tmp 14) = .pointer (some ⟨vb, 0, none⟩) := hF ⟨1, .data⟩ (by simp) rfl 14 rfl
      exact news_val rfl rfl (by generalize ac.eval = ρ at h1; simp only [execOp]; go_simp) (hK _ _ (Below.refl _ _) rfl hno)
    · obtain rfl := Option.some.inj ho
      have h1 : ac.eval (.tmp 1) = .pointer (some ⟨vb, 0, none⟩) := hE 1 (by decide)
      exact news_val rfl rfl (by generalize ac.eval = ρ at h1; simp only [execOp]; go_simp) (hK _ _ (Below.refl _ _) rfl hno)
    · obtain rfl := Option.some.inj ho
      have h1 : ac.eval (.tmp 16) = .pointer (some ⟨vb, 1, none⟩) := hF ⟨3, .data⟩ (by simp) rfl 16 rfl
      exact news_val rfl rfl (by generalize ac.eval = ρ at h1; simp only [execOp]; go_simp) (hK _ _ (Below.refl _ _) rfl hno)
    · obtain rfl := Option.some.inj ho
      have h1 : ac.eval (.tmp 1) = .pointer (some ⟨vb, 0, none⟩) := hE 1 (by decide)
      exact news_val rfl rfl (by generalize ac.eval = ρ at h1; simp only [execOp]; go_simp) (hK _ _ (Below.refl _ _) rfl hno)
    · obtain rfl := Option.some.inj ho
      have h1 : ac.eval (.tmp 18) = .pointer (some ⟨vb, 2, none⟩) := hF ⟨5, .data⟩ (by simp) rfl 18 rfl
      exact news_val rfl rfl (by generalize ac.eval = ρ at h1; simp only [execOp]; go_simp) (hK _ _ (Below.refl _ _) rfl hno)
    · obtain rfl := Option.some.inj ho
      have h1 : ac.eval (.tmp 1) = .pointer (some ⟨vb, 0, none⟩) := hE 1 (by decide)
      exact news_val rfl rfl (by generalize ac.eval = ρ at h1; simp only [execOp]; go_simp) (hK _ _ (Below.refl _ _) rfl hno)
    · obtain rfl := Option.some.inj ho
      have hf : ac.eval (.func 27) = .func (.func 27) #[] #[] := rfl
      refine made_call rfl rfl 27 #[] (by generalize ac.eval = ρ at hf; simp only [execOp]; go_simp) (four15_any wa) ?_
      rintro r w8 ⟨b8, rfl, h8, b8'⟩
      exact ⟨_, rfl, hK _ _ b8' ⟨b8, rfl, h8⟩ (fun _ h => by cases h)⟩
    · obtain rfl := Option.some.inj ho
      have h1 : ac.eval (.tmp 20) = .agg #[.int .i64 x, .string t, .slice b m d, .int .i64 q] := hF ⟨7, .data⟩ (by simp) rfl 20 rfl
      obtain ⟨b7, h2, hs7⟩ : ∃ b, (ac.eval (.tmp 21)) = .agg #[.int .i64 0, .slice (some ⟨b, 0, none⟩) 4 4] ∧ SlAt Sh.int wa (some ⟨b, 0, none⟩) 4 4 [0, 1, 2, 3] := hF ⟨8, .data⟩ (by simp) rfl 21 rfl
      have hf : ac.eval (.func 14) = .func (.func 14) #[] #[] := rfl
      refine made_call rfl rfl 14 #[.agg #[.int .i64 x, .string t, .slice b m d, .int .i64 q], .agg #[.int .i64 0, .slice (some ⟨b7, 0, none⟩) 4 4]] (by generalize ac.eval = ρ at h1 h2 hf; simp only [execOp]; go_simp) (sigs15_any x t b m d nx q 0 (some ⟨b7, 0, none⟩) 4 4 [0, 1, 2, 3] wa (by simp [i64]) (ints_of_sl hs7) HV.out.t (hx.below b7') HV.out.x) ?_
      rintro r w8 ⟨v8, rfl, ho8, b8⟩
      obtain ⟨a8, c8, rfl⟩ := owns_form ho8
      exact ⟨_, rfl, hK _ _ b8 ⟨a8, _, c8, rfl⟩ (fun _ h => by cases h)⟩
  · have e0 : vs 0 = _ := hs 0 (by omega)
    have e1 : vs 1 = _ := hs 1 (by omega)
    have e2 : vs 2 = _ := hs 2 (by omega)
    have e3 : vs 3 = _ := hs 3 (by omega)
    have e4 : vs 4 = _ := hs 4 (by omega)
    have e5 : vs 5 = _ := hs 5 (by omega)
    have e6 : vs 6 = _ := hs 6 (by omega)
    have e7 : vs 7 = _ := hs 7 (by omega)
    obtain ⟨b7, e8, hs7⟩ : ∃ b, (vs 8) = .agg #[.int .i64 0, .slice (some ⟨b, 0, none⟩) 4 4] ∧ SlAt Sh.int w7 (some ⟨b, 0, none⟩) 4 4 [0, 1, 2, 3] := hs 8 (by omega)
    obtain ⟨a8, n8, c8, e9⟩ : ∃ a n c, (vs 9) = .slice a n c := hs 9 (by omega)
    show wpList _ _ _ _ ((((((((((Act.put _ (some 13) (vs 0)).put (some 14) (vs 1)).put (some 15) (vs 2)).put (some 16) (vs 3)).put (some 17) (vs 4)).put (some 18) (vs 5)).put (some 19) (vs 6)).put (some 20) (vs 7)).put (some 21) (vs 8)).put (some 22) (vs 9)) _
    rw [e0, e1, e2, e3, e4, e5, e6, e7, e8, e9]
    clear e0 e1 e2 e3 e4 e5 e6 e7 e8 e9 hs hne vs
    have B7 := Lib.hid (bthen (by rw [hvb]; exact B6.out : Below w.heap.size w w6) hb7)
    have KS7 := blk_below KS.out hb7
    have s0 : w7.cell? ⟨w2.heap.size, 0, none⟩ = some (.string ⟨#[]⟩) := by rw [blk_cell KS7]; rfl
    have s1 : w7.cell? ⟨w2.heap.size, 1, none⟩ = some (.slice none 0 0) := by rw [blk_cell KS7]; rfl
    clear hb7 KS7 hs7 B6 KV KS HX6
    simp only [List.drop_succ_cons, List.drop_zero, Act.put, List.setIfInBounds_toArray, List.set_cons_succ, List.set_cons_zero]
    go_wp2_with fail
    refine (vadd_nil _ _ _ _ _ _ _ _ w7).mono ?_
    rintro r w8 ⟨rfl, rfl⟩
    go_wp2_with fail
    refine (vcount_nil w7).mono ?_
    rintro r w8 ⟨rfl, rfl⟩
    go_wp2_with fail
    go_ret
    exact ⟨rfl, B7.out⟩
set_option maxRecDepth 100000 in
theorem lifted (os : Os) (started : os.Started) (H : Type) (enc : TypeId × Value → H) :
    ReturnsInHanded {} Try.checked os 7 .any (Rows.votesNilSpec.pre6 enc Try.prog Try.f7 Rows.votesNilRow.domain false) (Rows.votesNilSpec.post enc Try.prog Try.f7 false true false false) := by
  refine returnsInHanded_of_change_sized (C := Try.checked) own started (by kernel_rfl) Try.func7
    (ChangeSpec.witness6 (enc := enc) (C := Try.checked) false ⟨#[], #[.agg #[.int .i64 0, .string ⟨#[]⟩, .slice none 0 0, .int .i64 0]], []⟩ 8 (by kernel_rfl) (by kernel_rfl) (by kernel_rfl) (by kernel_rfl)) ?_
  intro W base args ds gs before hval0 hW hcnd hsz _
  have hval : ∀ (j : Nat) t v, Try.f7.params[j]? = some t → args[j]? = some v → Value.okWide Try.prog W .any base t v := hval0
  have hW' := hW
  obtain ⟨p, q, hA0, hV, rfl, hfz, hnd⟩ := hW
  have hA : DataW.TrodAll enc Try.prog W 0 (fun _ => true) true Try.f7.params.toList args.toList ds p := hA0
  rw [Try.params7] at hA hval hsz
  have hA2 := hA
  obtain ⟨v0, vs0, d0, ds0, p0, q0, hargs, rfl, rfl, h0, r0⟩ := trodAll_cons hA
  obtain ⟨rfl, rfl, rfl⟩ := trodAll_nil r0
  obtain rfl : args = #[v0] := by cases args; simp_all
  obtain ⟨rfl, rfl⟩ := trodVars_none hV
  clear hargs
  have k0 := hval 0 38 v0 rfl rfl
  obtain ⟨fu0, m0⟩ := h0
  have w0 := weights_of hsz (j := 0) (t := 38) rfl rfl
  have F0 : Fit Try.prog 38 d0 := .inl w0
  have s0 := cells_agg Try.underlying38 k0
  obtain ⟨y0, E0, g0⟩ := vwVote.2.2 m0 F0
  obtain ⟨x0, t0, l0, q0q, a0, n0, c0, rfl, e0, f0⟩ := vote_open E0
  obtain ⟨z0, s01, s02⟩ := s0
  have e0' := agg_of ⟨s01, s02⟩ e0
  subst e0'
  refine (walk W x0 t0 a0 n0 c0 l0 q0q f0).mono fun e W' ⟨he, bel⟩ => ?_
  subst he
  exact ⟨_, rfl, _, _, _, [], _, [], hW', trodAll_mk1 (shut_bool Try.underlying4 _), trodAll_again laidOut bel (by kernel_rfl) hA2, rfl, bel.frame _, fun h => by cases h⟩

theorem over : Rows.votesNilRow.holds Try.pinned (OpenSpec.ofChange Rows.votesNilSpec) :=
  OpenClaim.holds_of_wide 7 Try.f7 rfl rfl rfl rfl rfl rfl rfl ⟨rfl, rfl, rfl, rfl, rfl⟩ rfl rfl rfl rfl rfl (by kernel_rfl) Try.func7 (by kernel_rfl)
    (of_decide_eq_true (by kernel_rfl)) (by unfold Func.isWrapper; first | (rw [if_pos (by decide +kernel)]; kernel_rfl) | (rw [if_neg (by decide +kernel)]; exact ⟨rfl, rfl⟩))
    (fun os started H enc _ => lifted os started H enc)

theorem proved : Rows.VotesNilSaid := over
#print axioms proved
end Go.Proofs.Ytfhbjajhmegdmaa.votesNil
