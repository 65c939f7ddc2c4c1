
/- TermsBooks: what stands in a book, how much, and what is derivable, is what the document says, note by note: for every input within the bound the law returns true, and its arguments read as before. The bound is the given one of Upto; no other condition. -/
import Derived.Test.YtelmpoaioccpoaaGrP
import Derived.Test.YtelmpoaioccpoaaRn
import Derived.Test.YtelmpoaioccpoaaLift
import Derived.Deep.RegionHeld3
namespace Go.Proofs.Ytelmpoaioccpoaa.termsBooks
set_option maxRecDepth 100000
open Go.ChangeShapes Go.WideShapes Go.ChangeAt Go.RowKit
attribute [local irreducible] wpQuiet
set_option linter.unusedVariables false
set_option linter.unusedSimpArgs false

theorem notes_cells {w : World} {a : Option Addr} {n c : Nat} {l : List (List Sg)} (h : SlAt shSig.slice w a n c l) {i : Nat} (hi : i < n) :
    ∃ b o a' n' c' y, a = some ⟨b, o, none⟩ ∧ l[i]? = some y ∧ w.cell? ⟨b, o + i, none⟩ = some (.slice a' n' c') ∧ SlAt shSig w a' n' c' y := by
  obtain ⟨y, hy⟩ : ∃ y, l[i]? = some y := ⟨_, List.getElem?_eq_getElem (by rw [h.len]; exact hi)⟩
  obtain ⟨b, o, cs, ha, hE, hc⟩ := h.cell i y hy
  obtain ⟨a', n', c', rfl, hs⟩ := hE
  refine ⟨b, o, a', n', c', y, ha, hy, ?_, hs⟩
  have := hc 0 _ rfl
  rw [show o + i * shSig.slice.k + 0 = o + i by show o + i * 1 + 0 = o + i; omega] at this
  exact this
def F (notes : List (List Sg)) (k : Nat) : List Sg := noteP [] (notes.take k).flatten
theorem F_succ {notes : List (List Sg)} {k : Nat} {y : List Sg} (h : notes[k]? = some y) : F notes (k + 1) = noteP (F notes k) y := by
  rw [F, F, List.take_add_one, h]; simp [noteP, List.foldl_append]
theorem len_succ {notes : List (List Sg)} {k : Nat} {y : List Sg} (h : notes[k]? = some y) : (notes.take (k + 1)).flatten.length = (notes.take k).flatten.length + y.length := by
  rw [List.take_add_one, h]; simp
theorem F_len (notes : List (List Sg)) (k : Nat) : (F notes k).length ≤ (notes.take k).flatten.length := by
  have := noteP_len [] (notes.take k).flatten
  simpa [F] using this
theorem flat_le (notes : List (List Sg)) (k : Nat) : (notes.take k).flatten.length ≤ shSig.slice.slice.sz notes := by
  have h : ∀ s : List Sg, s.length ≤ (s.map shSig.sz).sum := fun s => by
    induction s with
    | nil => simp
    | cons y r ih =>
      rw [List.map_cons, List.sum_cons, List.length_cons]
      have : 1 ≤ shSig.sz y := by show 1 ≤ 1 + (y.2.size + 1); omega
      omega
  have h2 : ∀ (l : List (List Sg)) (k : Nat), (l.take k).flatten.length ≤ (l.map shSig.slice.sz).sum := fun l => by
    induction l with
    | nil => intro k; simp
    | cons y r ih =>
      intro k
      cases k with
      | zero => simp
      | succ k =>
        rw [List.take_succ_cons, List.flatten_cons, List.length_append, List.map_cons, List.sum_cons]
        have h3 := ih k
        have h4 := h y
        have h5 : shSig.slice.sz y = (y.map shSig.sz).sum + 1 := rfl
        omega
  have h6 := h2 notes k
  have h7 : shSig.slice.slice.sz notes = (notes.map shSig.slice.sz).sum + 1 := rfl
  omega
theorem F_ok {notes : List (List Sg)} (h : ∀ y ∈ notes, ∀ s ∈ y, sgOk s) (k : Nat) : ∀ s ∈ F notes k, sgOk s :=
  noteP_ok (fun s hs => by cases hs) (fun s hs => by
    obtain ⟨y, hy, hs⟩ := List.mem_flatten.1 hs
    exact h y (List.mem_of_mem_take hy) s hs)

set_option maxHeartbeats 2000000 in
theorem walk (w : World) (na : Option Addr) (nn nc : Nat) (notes : List (List Sg)) (hn : SlAt shSig.slice w na nn nc notes) (ba : Option Addr) (bn bc : Nat) (bad : List Int) (hb : SlAt Sh.int w ba bn bc bad) (sa : Option Addr) (sn sc : Nat) (sigs : List Sg) (hs : SlAt shSig w sa sn sc sigs) (HK : shSig.slice.slice.sz notes + Sh.int.slice.sz bad + shSig.slice.sz sigs ≤ 1048576) :
    Calls Try.prog 7 #[.slice na nn nc, .slice ba bn bc, .slice sa sn sc] w fun e w' => e = .returned (.bool true) ∧ Below w.heap.size w w' := by
  have HI := Lib.hid (ints_of_sl hb); have HN := Lib.hid hn; have HS := Lib.hid hs
  have hfl := fun k => flat_le notes k
  have hFl := fun k => F_len notes k
  have hnl := hn.len
  have hnm : nn ≤ 9223372036854775807 := Nat.le_trans hn.cap hn.max
  have hsm : sn ≤ 9223372036854775807 := Nat.le_trans hs.cap hs.max
  have hsl := hs.len
  have HFok := Lib.hid (F_ok (notes := notes) (fun y hy => by
    obtain ⟨i, hi, rfl⟩ := List.getElem_of_mem hy
    obtain ⟨b, o, a', n', c', y, _, hy, _, h⟩ := notes_cells hn (i := i) (by rw [← hn.len]; exact hi)
    rw [List.getElem?_eq_getElem hi] at hy
    injection hy with hy
    rw [hy]; exact sl_ok h))
  have CL := Lib.hid lives09_any
  clear hn hb hs
  go_enter Try.func7, Try.ntmps7
  go_wp2_with fail
  refine (CL.out _).mono ?_
  rintro r w1 ⟨rfl, b1⟩
  have B1 := Lib.hid b1
  clear b1 CL
  go_wp2_with fail
  refine (bnew_any _).mono ?_
  rintro r w2 ⟨rfl, hbk, b2⟩
  have hm1 := B1.out.size
  have hm2 : w2.heap.size ≥ w1.heap.size + 2 := hbk.lt.1
  generalize w1.heap.size = m at *
  have HB2 := Lib.hid hbk
  have B2 : Hid (Below w.heap.size w w2) := Lib.hid (B1.out.trans (b2.mono hm1))
  clear hbk b2 B1
  go_wp2_with fail
  go_loopw [8, 9] (fun out i wr => ∃ k : Nat, k ≤ nn ∧ i = .int .i64 k ∧ Hid (wr.ownsRow (m + 2) 34 2 out (F notes k).length (flatV (F notes k))) ∧ Hid (BookAt wr (m + 1) m (F notes k) (notes.take k).flatten.length) ∧ Hid (Below w.heap.size w wr) ∧ m + 2 ≤ wr.heap.size) (fun _ i _ => nn - (intOf i).toNat)
  case atStart => exact ⟨0, by omega, rfl, Lib.hid (World.ownsRow_nil _ _ _ _), HB2, B2, hm2⟩
  case round =>
    obtain ⟨k, hk, rfl, HO, HB, HW, hz⟩ := hrel
    have hFk := hFl k
    have hfk := hfl k
    obtain ⟨av, cv, rfl⟩ := owns_form HO.out
    by_cases hlt : k < nn
    · have hd : decide ((k : Int) < (nn : Int)) = true := by simp; omega
      have hFk1 := hFl (k + 1)
      have hfk1 := hfl (k + 1)
      obtain ⟨bb, o, a', n', c', y, rfl, hy, x0, hy'⟩ := notes_cells (HN.out.old HW.out) hlt
      have hF1 := F_succ hy
      have hL1 := len_succ hy
      have hyl := hy'.len
      have HY := Lib.hid (show ∀ w', Keep (fun k => k = m) wr w' → SlAt shSig w' a' n' c' y from fun w' hk => by
        have hyn : SlAt shSig w a' n' c' y := by
          obtain ⟨_, _, a2, n2, c2, y2, h1, h2, h3, h4⟩ := notes_cells HN.out hlt
          injection h1 with h1
          injection h1 with h1 h1'
          subst h1; subst h1'
          rw [hy] at h2
          injection h2 with h2
          subst h2
          rw [HW.out.cell (World.block_lt h3)] at x0
          rw [h3] at x0
          injection x0 with x0
          injection x0 with q1 q2 q3
          subst q1; subst q2; subst q3
          exact h4
        exact hyn.old (hk.below HW.out (fun k hk => by omega)))
      have CN := Lib.hid (note_any (m + 1) m (F notes k) (notes.take k).flatten.length a' n' c' y wr HB.out HY.out (by omega))
      go_wp2_with fail
      refine CN.out.mono ?_
      rintro r w4 ⟨rfl, hb4, k4⟩
      have B4 := Lib.hid (k4.below HW.out (fun k hk => by omega))
      have HO4 := Lib.hid (owns_keep HO.out k4 (fun j hj hjm => by
        subst hjm
        rcases HO.out.2 with ⟨h0, _⟩ | ⟨g, cap, cur, h0, hg, _⟩
        · rw [h0] at hj; cases hj
        · rw [h0] at hj; injection hj with hj; have : g = j := hj; omega))
      rw [← hF1, ← hyl, ← hL1] at hb4
      have HB4 := Lib.hid hb4
      have hz4 := k4.size
      have x4 : w4.cell? ⟨bb, o + k, none⟩ = some (.slice a' n' c') := by
        obtain ⟨_, _, a2, n2, c2, y2, h1, h2, h3, h4⟩ := notes_cells (HN.out.old B4.out) hlt
        obtain ⟨_, _, a3, n3, c3, y3, g1, g2, g3, g4⟩ := notes_cells HN.out hlt
        injection h1 with h1
        injection h1 with h1 h1'
        subst h1; subst h1'
        injection g1 with g1
        injection g1 with g1 g1'
        subst g1; subst g1'
        rw [B4.out.cell (World.block_lt g3), g3] at h3
        rw [HW.out.cell (World.block_lt g3), g3] at x0
        injection h3 with h3
        rw [B4.out.cell (World.block_lt g3), g3]; exact x0
      have CM := Lib.hid (rnoted_any (m + 2) (.slice av (F notes k).length cv) (F notes k) a' n' c' y w4 HO4.out (HFok.out k) (by omega) (fun w' hk' => by
        have hyn : SlAt shSig w a' n' c' y := by
          obtain ⟨_, _, a2, n2, c2, y2, h1, h2, h3, h4⟩ := notes_cells HN.out hlt
          injection h1 with h1
          injection h1 with h1 h1'
          subst h1; subst h1'
          rw [hy] at h2
          injection h2 with h2
          subst h2
          rw [HW.out.cell (World.block_lt h3)] at x0
          rw [h3] at x0
          injection x0 with x0
          injection x0 with q1 q2 q3
          subst q1; subst q2; subst q3
          exact h4
        exact hyn.old (hk'.below B4.out (fun j hj => by
          rcases HO4.out.2 with ⟨h0, _⟩ | ⟨g, cap, cur, h0, hg, _⟩
          · rw [h0] at hj; cases hj
          · rw [h0] at hj; injection hj with hj; have : g = j := hj; omega))) (by omega))
      rw [← hF1] at CM
      clear hb4 k4 CN HB x0 HO
      have hyl' := hyl
      clear hyl hF1
      generalize F notes k = Fk at *
      generalize hFF : F notes (k + 1) = Fk1 at *
      go_wp2_with fail
      refine CM.out.mono ?_
      rintro r w5 ⟨v5, rfl, ho5, hor5, k5⟩
      have ho5' := ho5
      obtain ⟨a5, c5, rfl⟩ := owns_form ho5'
      have hge : ∀ j, (Value.slice av Fk.length cv).ownBlock = some j → m + 2 ≤ j := fun j hj => by
        rcases HO4.out.2 with ⟨h0, _⟩ | ⟨g, cap, cur, h0, hg, _⟩
        · rw [h0] at hj; cases hj
        · rw [h0] at hj; injection hj with hj; have : g = j := hj; omega
      have B5 := Lib.hid (k5.below B4.out (fun j hj => by have := hge j hj; omega))
      have HB5 := Lib.hid (HB4.out.keep k5 (fun h => by have := hge _ h; omega) (fun h => by have := hge _ h; omega))
      have HO5 := Lib.hid ho5
      have hz5 := k5.size
      have CD := Lib.hid (bderiv_any (.pointer (some ⟨m + 1, 0, none⟩)) Fk1 ba bn bc bad sa sn sc sigs w5 (.inr ⟨_, _, _, rfl, HB5.out, by omega⟩) (HI.out.below B5.out) (HS.out.old B5.out))
      have CLn := Lib.hid (blen_any (.pointer (some ⟨m + 1, 0, none⟩)) Fk1 w5 (.inr ⟨_, _, _, rfl, HB5.out, by omega⟩))
      have hok1 : ∀ s ∈ Fk1, sgOk s := by rw [← hFF]; exact HFok.out _
      have CR := Lib.hid (fun w6 (hb6 : Below w5.heap.size w5 w6) => rderiv_any a5 Fk1.length c5 Fk1 ba bn bc bad sa sn sc sigs w6 (sl_owned (owns_old HO5.out hb6) hok1 (by omega)) (HI.out.below (bthen B5.out hb6)) (HS.out.old (bthen B5.out hb6)))
      have hnw : IntKind.i64.wrap ((k : Int) + 1) = (k : Int) + 1 := IntWalk.i64_in _ (by omega)
      clear ho5 ho5' hor5 k5 CM HB4 HO4 hge B4 hy'
      generalize derivP Fk1 bad sigs = dv at *
      go_wp2_with fail
      refine CLn.out.mono ?_
      rintro r w6 ⟨rfl, rfl⟩
      go_wp2_with fail
      refine CD.out.mono ?_
      rintro r w6 ⟨rfl, b6⟩
      go_wp2_with fail
      refine (CR.out _ b6).mono ?_
      rintro r w7 ⟨rfl, b7⟩
      have B7 := Lib.hid (bthen (bthen B5.out b6) b7)
      have b67 := bthen b6 b7
      have HB7 := Lib.hid (HB5.out.old b67)
      have HO7 := Lib.hid (owns_old HO5.out b67)
      have hz7 := b67.size
      clear b6 b7 b67 CLn CD CR HB5 HO5 B5
      cases dv
      all_goals (
        go_wp2_with fail
        go_roundw
        all_goals (first | exact ⟨k + 1, by omega, by go_num, by rw [hFF]; exact HO7, by rw [hFF]; exact HB7, B7, by omega⟩ | (simp [intOf]; omega)))
    · have hkn : k = nn := by omega
      obtain ⟨wo, hwo⟩ : ∃ wo, wo = wr := ⟨_, rfl⟩
      subst hwo
      subst hkn
      have hd : decide ((k : Int) < (k : Int)) = false := by simp
      have hok1 := HFok.out k
      generalize F notes k = Fk at *
      have HL := Lib.hid (fun w' (hb : Below wo.heap.size wo w') => sl_owned (owns_old HO.out hb) hok1 (by omega))
      clear hFl hFk HFok
      go_wp2_with fail
      go_loopw [10] (fun i wr => ∃ j : Nat, j ≤ sn ∧ i = .int .i64 j ∧ Hid (Below wo.heap.size wo wr)) (fun i _ => sn - (intOf i).toNat)
      case atStart => exact ⟨0, by omega, rfl, Lib.hid (Below.refl _ _)⟩
      case round =>
        obtain ⟨j, hj, rfl, HQ⟩ := hrel
        by_cases hlt2 : j < sn
        · have hd2 : decide ((j : Int) < (sn : Int)) = true := by simp; omega
          obtain ⟨bb, o, x, t, rfl, hy, x0, x1, h1, h2⟩ := sig_cells (HS.out.old (bthen HW.out HQ.out)) hlt2
          have CH := fun w' (hb : Below wr.heap.size wr w') => bhas_any (.pointer (some ⟨m + 1, 0, none⟩)) Fk (x, t) w' (.inr ⟨_, _, _, rfl, HB.out.old (bthen HQ.out hb), by omega⟩) ⟨h1, h2⟩
          have CS := fun w' (hb : Below wr.heap.size wr w') => stands_any av Fk.length cv Fk (x, t) w' (HL.out w' (bthen HQ.out hb))
          unfold sgV at CH CS
          dsimp only at CH CS
          replace CH := Lib.hid CH
          replace CS := Lib.hid CS
          have hz := World.block_lt x0
          generalize decide ((x, t) ∈ Fk) = isin at *
          clear hy
          cases isin
          all_goals (
            go_wp2_with fail
            refine wp_region_below (by kernel_rfl) (by kernel_rfl) ?_
            repeat (refine wpQuiet_step (fun K hK => ?_); go_simp; first | (refine hK _ ?_; clear hK K) | (apply Exists.intro; refine ⟨fun w' hw' => ?_, hK _ ?_⟩; (first | (go_at_call 27; exact Calls.quiet_below hw' (CH.out _ hw')) | (go_at_call 28; exact Calls.quiet_below hw' (CS.out _ hw')) | (with_reducible rfl) | (obtain ⟨cc, dd⟩ := bcell hw'; go_simp; rfl)); clear hK K))
            refine wpQuiet_nil ?_
            intro w8 h8
            have Q8 := Lib.hid (bthen HQ.out h8)
            clear h8 x0 x1 hz CH CS
            go_wp2_with fail
            go_roundw
            all_goals (first | exact ⟨j + 1, by omega, by go_num, Q8⟩ | (simp [intOf]; omega)))
        · have hjn : j = sn := by omega
          subst hjn
          have hd2 : decide ((j : Int) < (j : Int)) = false := by simp
          have B9 := Lib.hid (bthen HW.out HQ.out)
          have CD := Lib.hid (bderiv_any (.pointer (some ⟨m + 1, 0, none⟩)) Fk ba bn bc bad sa j sc sigs wr (.inr ⟨_, _, _, rfl, HB.out.old HQ.out, by omega⟩) (HI.out.below B9.out) (HS.out.old B9.out))
          have CR := Lib.hid (fun w6 (hb6 : Below wr.heap.size wr w6) => rderiv_any av Fk.length cv Fk ba bn bc bad sa j sc sigs w6 (HL.out _ (bthen HQ.out hb6)) (HI.out.below (bthen B9.out hb6)) (HS.out.old (bthen B9.out hb6)))
          generalize derivP Fk bad sigs = dv at *
          go_wp2_with fail
          refine CD.out.mono ?_
          rintro r w6 ⟨rfl, b6⟩
          go_wp2_with fail
          refine (CR.out _ b6).mono ?_
          rintro r w7 ⟨rfl, b7⟩
          have B7 := Lib.hid (bthen (bthen B9.out b6) b7)
          clear b6 b7 CD CR
          cases dv
          all_goals (
            go_wp2_with fail
            go_ret
            exact ⟨rfl, B7.out⟩)
set_option maxRecDepth 100000 in
theorem lifted (os : Os) (started : os.Started) (H : Type) (enc : TypeId × Value → H) (F : Stop.Interp) :
    ReturnsInHanded {} Try.checked os 7 .any ((Rows.OpenSpec.upto Rows.termsBooksSpec).pre6 enc Try.prog Try.f7 Rows.termsBooksUptoRow.domain false) (((Rows.OpenSpec.upto Rows.termsBooksSpec).at F).post enc Try.prog Try.f7 false true false false) := by
  refine returnsInHanded_of_cond (C := Try.checked) (s := Rows.OpenSpec.upto Rows.termsBooksSpec) (k := Rows.uptoSmall) rfl own started (by kernel_rfl) Try.func7
    (OpenSpec.witness (enc := enc) (C := Try.checked) (s := Rows.OpenSpec.upto Rows.termsBooksSpec) (k := Rows.uptoSmall) rfl false ⟨#[], #[.slice none 0 0, .slice none 0 0, .slice none 0 0], []⟩ 8 (by kernel_rfl) (by kernel_rfl) (by kernel_rfl)
      (x := ([.nil, .nil, .nil], [], [])) (by kernel_rfl) rfl (by kernel_rfl)) ?_
  intro W base args ds gs before hval0 hW _ hk _
  have hval : ∀ (j : Nat) t v, Try.f7.params[j]? = some t → args[j]? = some v → Value.okWide Try.prog W .any base t v := hval0
  have hW' := hW
  obtain ⟨p, q, hA0, hV, rfl, hfz, hnd⟩ := hW
  have hA : DataW.TrodAll enc Try.prog W 0 (fun _ => true) true Try.f7.params.toList args.toList ds p := hA0
  rw [Try.params7] at hA hval
  have hA2 := hA
  obtain ⟨v0, vs0, d0, ds0, p0, q0, hargs, rfl, rfl, h0, r0⟩ := trodAll_cons hA
  obtain ⟨v1, vs1, d1, ds1, p1, q1, rfl, rfl, rfl, h1, r1⟩ := trodAll_cons r0
  obtain ⟨v2, vs2, d2, ds2, p2, q2, rfl, rfl, rfl, h2, r2⟩ := trodAll_cons r1
  obtain ⟨rfl, rfl, rfl⟩ := trodAll_nil r2
  obtain rfl : args = #[v0, v1, v2] := by cases args; simp_all
  obtain ⟨rfl, rfl⟩ := trodVars_none hV
  clear hargs
  have hk' : Rows.uptoSmall H [d0, d1, d2] = true := by simpa using hk
  have k0 := hval 0 41 v0 rfl rfl
  obtain ⟨fu0, m0⟩ := h0
  have F0 : Fit Try.prog 41 d0 := fit_upto hk' (by simp) _
  obtain ⟨l0, ⟨a0, n0, c0, e0, f0⟩, g0⟩ := vwNotes.2.2 m0 F0
  have e0' := slice_of Try.underlying41 k0 e0
  subst e0'
  have k1 := hval 1 22 v1 rfl rfl
  obtain ⟨fu1, m1⟩ := h1
  have F1 : Fit Try.prog 22 d1 := fit_upto hk' (by simp) _
  obtain ⟨l1, ⟨a1, n1, c1, e1, f1⟩, g1⟩ := vwInts.2.2 m1 F1
  have e1' := slice_of Try.underlying22 k1 e1
  subst e1'
  have k2 := hval 2 25 v2 rfl rfl
  obtain ⟨fu2, m2⟩ := h2
  have F2 : Fit Try.prog 25 d2 := fit_upto hk' (by simp) _
  obtain ⟨l2, ⟨a2, n2, c2, e2, f2⟩, g2⟩ := vwSigs.2.2 m2 F2
  have e2' := slice_of Try.underlying25 k2 e2
  subst e2'
  have G0 : shSig.slice.slice.sz l0 ≤ Rows.uptoBulk d0 := g0
  have G1 : Sh.int.slice.sz l1 ≤ Rows.uptoBulk d1 := g1
  have G2 : shSig.slice.sz l2 ≤ Rows.uptoBulk d2 := g2
  have HK : shSig.slice.slice.sz l0 + Sh.int.slice.sz l1 + shSig.slice.sz l2 ≤ 1048576 := by have h : Rows.uptoBulkAll [d0, d1, d2] ≤ 1048576 := (by simpa [Rows.uptoSmall] using hk'); simp only [Rows.uptoBulkAll] at h; omega
  refine (walk W a0 n0 c0 l0 f0 a1 n1 c1 l1 f1 a2 n2 c2 l2 f2 HK).mono fun e W' ⟨he, bel⟩ => ?_
  subst he
  exact ⟨_, rfl, _, _, _, [], _, [], hW', trodAll_mk1 (shut_bool Try.underlying4 _), trodAll_again laidOut bel (by kernel_rfl) hA2, rfl, bel.frame _, fun h => by cases h⟩

theorem over : Rows.termsBooksUptoRow.holds Try.pinned (Rows.OpenSpec.upto Rows.termsBooksSpec) :=
  OpenClaim.holds_of_cond 7 Try.f7 rfl rfl rfl rfl rfl rfl rfl ⟨rfl, rfl, rfl, rfl, rfl⟩ rfl rfl rfl rfl rfl (by kernel_rfl) Try.func7 (by kernel_rfl)
    (of_decide_eq_true (by kernel_rfl)) (by unfold Func.isWrapper; first | (rw [if_pos (by decide +kernel)]; kernel_rfl) | (rw [if_neg (by decide +kernel)]; exact ⟨rfl, rfl⟩))
    (fun os started H enc _ F => lifted os started H enc F)

theorem proved : Rows.TermsBooksUptoSaid := over
#print axioms proved
end Go.Proofs.Ytelmpoaioccpoaa.termsBooks
