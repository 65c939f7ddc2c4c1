/- PackWrites: a writer writes just the bytes that the document says, or tells the first error: for every input of bulk at most 1048576 the law returns true, and its arguments read as before. -/
import Derived.Test.YtldlkhnhpbonkaaTwo
import Derived.Test.YtldlkhnhpbonkaaPhase
import Derived.JoinedCond
namespace Go.Proofs.Ytldlkhnhpbonkaa.packWrites
open Go.ChangeShapes Go.WideShapes Go.ChangeAt Go.RowKit
set_option linter.unusedVariables false

def Inv (w : World) (M : Int) (l : List It) (pw pm : Nat) (j : Nat) (wr : World) : Prop := ∃ obw obm s, Two w pw pm wr obw obm s s ∧ Wi M (cost (l.take j)) s

set_option maxHeartbeats 2000000 in
theorem walk (w : World) (limit : Int) (hlim : i64 limit) (a : Option Addr) (n c : Nat) (l : List It) (hl : SlAt shIt w a n c l) (HK : shIt.slice.sz l ≤ 1048576) :
    Calls Try.prog 8 #[.int .i64 limit, .slice a n c] w fun e w' => e = .returned (.bool true) ∧ Below w.heap.size w w' := by
  have HL := Lib.hid hl
  have hn : n ≤ 9223372036854775807 := Nat.le_trans hl.cap hl.max
  have hcost := cost_le l
  obtain ⟨hlim1, hlim2⟩ := hlim
  clear hl
  go_enter Try.func8, Try.ntmps8
  go_wp2_with fail
  refine (lives_any _).mono ?_
  rintro e w1 ⟨rfl, b1⟩
  go_wp2_with fail
  refine (wnew_any limit w1).mono ?_
  rintro e w2 ⟨rfl, hw2, b2⟩
  go_wp2_with fail
  refine (rnew_any limit w2).mono ?_
  rintro e w3 ⟨rfl, hw3, b3⟩
  have hz1 := b1.size
  have hz2 := WAt.lt hw2
  obtain ⟨M, hM⟩ : ∃ M, M = max limit 0 := ⟨_, rfl⟩
  have HI := Lib.hid (show Inv w M l w1.heap.size w2.heap.size 0 w3 from ⟨none, none, _, ⟨bthen (bthen b1 b2) b3, hz1, by omega, by omega, by simp, by simp, fun k hk => (by cases hk), fun k hk => (by cases hk), fun k hk => (by cases hk), WAt.below hw2 b3, hw3⟩, by rw [hM]; exact Wi.start limit⟩)
  have hM2 : M ≤ 9223372036854775807 := by omega
  have hMl : M = limit ∧ 0 ≤ limit ∨ M = 0 ∧ limit < 0 := by omega
  replace hMl := Lib.hid hMl
  clear b1 b2 b3 hw2 hw3 hM
  generalize w1.heap.size = pw at *
  generalize w2.heap.size = pm at *
  go_wp2_with fail
  go_loopw [7] (fun i wr => ∃ j : Nat, j ≤ n ∧ i = .int .i64 j ∧ Hid (Inv w M l pw pm j wr)) (fun i _ => n - (intOf i).toNat)
  case atStart => exact ⟨0, by omega, rfl, HI⟩
  case round =>
    clear HI
    obtain ⟨j, hj, rfl, HI⟩ := hrel
    obtain ⟨obw, obm, s, HT, HW⟩ := HI.out
    clear HI
    by_cases hlt : j < n
    · obtain ⟨b, o, k, m, x, t, rfl, hit, c0, c1, c2, c3, hk, hm, ⟨hx0, hx1⟩, ht⟩ := it_cells (HL.out.old HT.below) hlt
      obtain ⟨x, rfl⟩ := Int.eq_ofNat_of_zero_le hx0
      have hct := cost_take l hit
      have hcl := cost_take_le l (j + 1)
      have hbs := itBs_len (kindN k) m x t
      have HW2 := Lib.hid (HW.put (itOk (kindN k) m x t) (itBs (kindN k) m x t) (8 + t.size) hbs)
      rw [← hct] at HW2
      have ho1 := HW.cost
      have hroom : 0 ≤ s.room ∧ s.room + s.out.length ≤ 9223372036854775807 := by have := HW.room; have := HW.sum; omega
      have CP := fun (w' : World) (hb : Below wr.heap.size wr w') => write_any k m x t pw pw obw s w' (WAt.below HT.pwr hb) (by have := WAt.lt HT.pwr; have := hb.size; omega) (HW.ok hM2) (by omega) hm (by omega) ht
      have CM := fun (w' : World) (ob' : Option Nat) (hr : RWr w' pm pm obm s) => model_any k m x t pm pm obm s w' hr (by have := WAt.lt hr; omega) hroom (by omega) hm (by omega) ht
      generalize wPut s (itOk (kindN k) m x t) (itBs (kindN k) m x t) = s' at *
      replace CP := Lib.hid CP; replace CM := Lib.hid CM
      have HT1 := Lib.hid HT
      have q0 := World.block_lt c0
      have HL1 := Lib.hid (show SlAt shIt wr (some ⟨b, o, none⟩) n c l from HL.out.old HT.below)
      have hj0 : (0 : Int) ≤ (j : Int) := by omega
      have hj1 : (j : Int) < (n : Int) := by omega
      clear hct hcl hbs ho1 hroom hk hm hx0 hx1 ht HT HW hcost
      go_wp2_with fail
      refine (CP.out wr (Below.refl _ _)).mono ?_
      rintro e w4 ⟨rfl, ob4, hob4, hw4, o4⟩
      have HT2 := Lib.hid (HT1.out.pstep hob4 o4 hw4)
      obtain ⟨b', o', k', m', x', t', hao, hit', c0, c1, c2, c3, _⟩ := it_cells (HL.out.old HT2.out.below) hlt
      obtain ⟨rfl, rfl⟩ : b = b' ∧ o = o' := by simpa using hao
      rw [hit] at hit'
      obtain ⟨rfl, rfl, rfl, rfl⟩ : k = k' ∧ m = m' ∧ (x : Int) = x' ∧ t = t' := by simpa using hit'
      clear hit' hao hob4 hw4 o4 HT1 CP
      go_wp2_with fail
      refine (CM.out w4 ob4 HT2.out.rwr).mono ?_
      rintro e w5 ⟨rfl, ob5, hob5, hw5, o5⟩
      have HT3 := Lib.hid (HT2.out.rstep hob5 o5 hw5)
      clear hob5 hw5 o5 HT2 CM c0 c1 c2 c3 HL1
      obtain ⟨vm, m0, _, _, _, mo, _⟩ := WAt.cells HT3.out.rwr
      obtain ⟨am, cm, rfl⟩ := owns_slice mo
      have hpm := WAt.lt HT3.out.rwr
      clear mo
      have HN := Lib.hid (show Inv w M l pw pm (j + 1) w5 from ⟨ob4, ob5, s', HT3.out, HW2.out⟩)
      have hs1 := HW2.out.sum
      have hs2 := HW2.out.room
      have CL := Lib.hid (fun (w' : World) (hb : Below w5.heap.size w5 w') => wlen_any pw pw ob4 s' w' (WAt.below HT3.out.pwr hb))
      generalize s'.out.length = L at *
      have hL : (L : Int) ≤ M := by omega
      clear hs1 hs2 HW2 HT3
      have hd : decide ((if limit < 0 then (0 : Int) else limit) < (L : Int)) = false := by
        have := hMl.out
        split <;> simp <;> omega
      go_wp2_with fail
      refine wp_region_parts (by kernel_rfl) ?_
      refine wpAny_seg (Below w5.heap.size w5) 0 15 _ (by kernel_rfl) rfl rfl (below_drewN (Below.refl _ _) 1) ?_
      repeat (refine wpQuiet_step (fun K hK => ?_); go_simp; first | (refine hK _ ?_; clear hK K) | (apply Exists.intro; refine ⟨fun w' hw' => ?_, hK _ ?_⟩; (first | (go_at_call 20; exact Calls.quiet_below_same hw' (CL.out _ hw')) | (obtain ⟨cc, dd⟩ := bcell hw'; go_simp; rfl) | (with_reducible rfl)); clear hK K))
      refine wpQuiet_nil ?_
      intro w7 h7
      refine wpAny_end rfl ?_
      clear CL c0 c1 c2 c3 m0 hd
      go_wp2_with fail
      go_roundw
      case rel => exact ⟨j + 1, by omega, by go_num, Lib.hid (by obtain ⟨x1, x2, x3, x4, x5⟩ := HN.out; exact ⟨x1, x2, x3, x4.old h7, x5⟩)⟩
      case measure => simp [intOf]; omega
    · obtain rfl : j = n := by omega
      have CD := Lib.hid (fun (w' : World) (hb : Below wr.heap.size wr w') => wdone_any pw pw obw s w' (WAt.below HT.pwr hb))
      have CR := Lib.hid (fun (w' : World) (hb : Below wr.heap.size wr w') => rdone_any pm pm obm s w' (WAt.below HT.rwr hb))
      have HB := Lib.hid HT.below
      clear HT HW hMl
      generalize doneS s = D at *
      generalize s.err = er at *
      go_wp2_with fail
      refine (CD.out wr (Below.refl _ _)).mono ?_
      rintro e w4 ⟨rfl, b4⟩
      go_wp2_with fail
      refine (CR.out w4 b4).mono ?_
      rintro e w5 ⟨rfl, b5⟩
      go_wp2_with fail
      refine (CD.out w5 (bthen b4 b5)).mono ?_
      rintro e w6 ⟨rfl, b6⟩
      go_wp2_with fail
      go_ret
      exact ⟨rfl, bthen HB.out (bthen (bthen b4 b5) b6)⟩

set_option maxRecDepth 100000 in
theorem lifted (os : Os) (started : os.Started) (H : Type) (enc : TypeId × Value → H) (F : Stop.Interp) :
    ReturnsInHanded {} Try.checked os 8 .any ((Rows.OpenSpec.upto Rows.packWritesSpec).pre6 enc Try.prog Try.f8 Rows.packWritesUptoRow.domain false) (((Rows.OpenSpec.upto Rows.packWritesSpec).at F).post enc Try.prog Try.f8 false true false false) := by
  refine returnsInHanded_of_cond (C := Try.checked) (s := Rows.OpenSpec.upto Rows.packWritesSpec) (k := Rows.uptoSmall) rfl own started (by kernel_rfl) Try.func8
    (OpenSpec.witness (enc := enc) (C := Try.checked) (s := Rows.OpenSpec.upto Rows.packWritesSpec) (k := Rows.uptoSmall) rfl false ⟨#[], #[.int .i64 0, .slice none 0 0], []⟩ 8 (by kernel_rfl) (by kernel_rfl) (by kernel_rfl)
      (x := ([.lit (.int .i64 0), .nil], [], [])) (by kernel_rfl) rfl (by kernel_rfl)) ?_
  intro W base args ds gs before hval0 hW _ hk _
  have hval : ∀ (j : Nat) t v, Try.f8.params[j]? = some t → args[j]? = some v → Value.okWide Try.prog W .any base t v := hval0
  have hW' := hW
  obtain ⟨p, q, hA0, hV, rfl, hfz, hnd⟩ := hW
  have hA : DataW.TrodAll enc Try.prog W 0 (fun _ => true) true Try.f8.params.toList args.toList ds p := hA0
  rw [Try.params8] at hA hval
  have hA2 := hA
  obtain ⟨v0, vs0, d0, ds0, p0, q0, hargs, rfl, rfl, h0, r0⟩ := trodAll_cons hA
  obtain ⟨v1, vs1, d1, ds1, p1, q1, rfl, rfl, rfl, h1, r1⟩ := trodAll_cons r0
  obtain ⟨rfl, rfl, rfl⟩ := trodAll_nil r1
  obtain rfl : args = #[v0, v1] := by cases args; simp_all
  obtain ⟨rfl, rfl⟩ := trodVars_none hV
  clear hargs
  have hk' : Rows.uptoSmall H [d0, d1] = true := by simpa using hk
  have k0 := hval 0 3 v0 rfl rfl
  obtain ⟨fu0, m0⟩ := h0
  obtain ⟨a0, e0, f0⟩ := view_int Try.underlying3 m0
  have e0' := int_of Try.underlying3 k0 e0
  subst e0'
  have k1 := hval 1 22 v1 rfl rfl
  obtain ⟨fu1, m1⟩ := h1
  have F1 : Fit Try.prog 22 d1 := fit_upto hk' (by simp) _
  obtain ⟨l1, ⟨a1, n1, c1, e1, f1⟩, g1⟩ := vwIts.2.2 m1 F1
  have e1' := slice_of Try.underlying22 k1 e1
  subst e1'
  have G1 : shIt.slice.sz l1 ≤ Rows.uptoBulk d1 := g1
  have HK : shIt.slice.sz l1 ≤ 1048576 := by have h : Rows.uptoBulkAll [d0, d1] ≤ 1048576 := (by simpa [Rows.uptoSmall] using hk'); simp only [Rows.uptoBulkAll] at h; omega
  refine (walk W a0 f0 a1 n1 c1 l1 f1 HK).mono fun e W' ⟨he, bel⟩ => ?_
  subst he
  exact ⟨_, rfl, _, _, _, [], _, [], hW', trodAll_mk1 (shut_bool Try.underlying4 _), trodAll_again laidOut bel (by kernel_rfl) hA2, rfl, bel.frame _, fun h => by cases h⟩

theorem over : Rows.packWritesUptoRow.holds Try.pinned (Rows.OpenSpec.upto Rows.packWritesSpec) :=
  OpenClaim.holds_of_cond 8 Try.f8 rfl rfl rfl rfl rfl rfl rfl ⟨rfl, rfl, rfl, rfl, rfl⟩ rfl rfl rfl rfl rfl (by kernel_rfl) Try.func8 (by kernel_rfl)
    (of_decide_eq_true (by kernel_rfl)) (by unfold Func.isWrapper; first | (rw [if_pos (by decide +kernel)]; kernel_rfl) | (rw [if_neg (by decide +kernel)]; exact ⟨rfl, rfl⟩))
    (fun os started H enc _ F => lifted os started H enc F)

theorem proved : Rows.PackWritesUptoSaid := over
#print axioms proved
end Go.Proofs.Ytldlkhnhpbonkaa.packWrites
