
/- LineageTeaches: what one tracker knows another one takes that began with the same and knows less: for every input the law returns true, and its arguments read as before. No condition. -/
import Derived.Test.YtdeomokhjmnfhaaTk
namespace Go.Proofs.Ytdeomokhjmnfhaa.lineageTeaches
open Go.ChangeShapes Go.WideShapes Go.ChangeAt Go.RowKit
set_option linter.unusedVariables false

theorem other_self (c0 : Cf) (L : List Lk) : otherB (c0 :: L.map (·.1)) L = false := by
  rw [otherB, List.tail_cons, List.any_eq_false]
  induction L with
  | nil => intro x hx; cases hx
  | cons y r ih =>
    intro x hx
    rw [List.map_cons, List.zip_cons_cons] at hx
    rcases List.mem_cons.1 hx with rfl | hx
    · simp
    · exact ih x hx
theorem take_self {c0 : Cf} {L : List Lk} (hg : chainC c0 L = 0) (hl : L.length ≤ 64) : takeC c0 (L.map (·.1)) L = 17 := by
  rw [takeC, if_neg (by omega), checkC, if_neg (by simp [hg]), other_self, if_neg (by simp), if_pos (by simp)]
theorem take_val {c0 : Cf} {L M : List Lk} (hg : chainC c0 L = 0) (hl : L.length ≤ 64) : takeC c0 (M.map (·.1)) L = 0 ∨ takeC c0 (M.map (·.1)) L = 22 ∨ (takeC c0 (M.map (·.1)) L = 17 ∧ L.length ≤ M.length) := by
  rw [takeC, if_neg (by omega), checkC, if_neg (by simp [hg])]
  split
  · exact .inr (.inl rfl)
  · split
    · rename_i h; exact .inr (.inr ⟨rfl, by simp at h; omega⟩)
    · exact .inl rfl

def TSt (w : World) (p q : Nat) (c0 : Cf) (wr : World) : Prop :=
  ∃ B X oc os L B2 X2 oc2 os2 L2, Trk X wr B p oc os (c0 :: L.map (·.1)) (L.map (·.2)) ∧ Trk X2 wr B2 q oc2 os2 (c0 :: L2.map (·.1)) (L2.map (·.2)) ∧ Sep X p oc os X2 q oc2 os2 ∧
    chainC c0 L = 0 ∧ chainC c0 L2 = 0 ∧ Below w.heap.size w wr ∧ w.heap.size ≤ B ∧ B ≤ wr.heap.size ∧ w.heap.size ≤ B2 ∧ B2 ≤ wr.heap.size
theorem TSt.swap {w wr : World} {p q : Nat} {c0 : Cf} (h : TSt w p q c0 wr) : TSt w q p c0 wr := by
  obtain ⟨B, X, oc, os, L, B2, X2, oc2, os2, L2, h1, h2, h3, h4, h5, h6, h7, h8, h9, h10⟩ := h
  exact ⟨B2, X2, oc2, os2, L2, B, X, oc, os, L, h2, h1, h3.symm, h5, h4, h6, h9, h10, h7, h8⟩
/-- One call on one of the two. -/
theorem TSt.step {w wr : World} {p q : Nat} {c0 : Cf} (h : TSt w p q c0 wr) (h0 : 0 ≤ c0.1) (one : Bool) {a : Option Addr} {n c : Nat} {chain : List Lk} (hc : SlAt shLink w a n c chain) :
    Calls Try.prog 15 #[.pointer (some ⟨p, 0, none⟩), .agg #[.bool one, .slice a n c]] wr fun r w' => (∃ x, r = .returned (.int .i64 x)) ∧ TSt w p q c0 w' := by
  obtain ⟨B, X, oc, os, L, B2, X2, oc2, os2, L2, h1, h2, h3, h4, h5, h6, h7, h8, h9, h10⟩ := h
  refine (call_any X B p oc os c0 L one a n c chain wr h1 h8 h0 h4 (rsl_old hc h6 (fun k hk => Nat.le_trans h7 (trX_ge h1 k hk)))).mono ?_
  rintro r w' ⟨rfl, X', oc', os', hn, hx, ht, hk⟩
  exact ⟨⟨_, rfl⟩, B, X', oc', os', _, B2, X2, oc2, os2, L2, ht, h3.keep2 h2 hk, h3.step h1 h2 hn hx, call_good h4 one chain, h5, hk.below h6 (fun k hk' => Nat.le_trans h7 (trX_ge h1 k hk')), h7, Nat.le_trans h8 hk.size, h9, Nat.le_trans h10 hk.size⟩

set_option maxRecDepth 100000 in
set_option maxHeartbeats 2000000 in
theorem walk (w : World) (e0 : Int) (a0 : Option Addr) (n0 c0 : Nat) (l0 : List Int) (h0 : i64 e0) (s0 : SlAt Sh.int w a0 n0 c0 l0) (a : Option Addr) (n c : Nat) (script : List Op) (hs : SlAt shOp w a n c script) (a' : Option Addr) (n' c' : Nat) (script' : List Op) (hs' : SlAt shOp w a' n' c' script') :
    Calls Try.prog 5 #[.agg #[.int .i64 e0, .slice a0 n0 c0], .slice a n c, .slice a' n' c'] w fun e w' => e = .returned (.bool true) ∧ Below w.heap.size w w' := by
  have hlen := hs.len
  have hmax := Nat.le_trans hs.cap hs.max
  have hlen' := hs'.len
  have hmax' := Nat.le_trans hs'.cap hs'.max
  have HS := Lib.hid hs
  have HS' := Lib.hid hs'
  have HI := Lib.hid s0
  have hn := s0.nil; have hcap0 := s0.cap; have hby := s0.bytes
  have HN := Lib.hid (show a0 = none → c0 = 0 ∧ n0 = 0 from fun h => ⟨hn h, by have := hn h; omega⟩)
  clear hs hs' s0 hn hcap0
  go_enter Try.func5, Try.ntmps5
  go_wp2_with fail
  refine (lives10_any _).mono ?_
  rintro r w1 ⟨rfl, b1⟩
  have x0 := below_cell b1 (b := w.heap.size) (o := 0) (v := .int .i64 e0) (by simp)
  have x1 := below_cell b1 (b := w.heap.size) (o := 1) (v := .slice a0 n0 c0) (by simp)
  have B1 := Lib.hid (bthen (below_alloc w _) b1)
  clear b1
  go_wp2_with fail
  refine (new_any e0 a0 n0 c0 l0 w1 (ints_of_sl (HI.out.old B1.out)) HN.out hby h0).mono ?_
  rintro r w2 ⟨b2, h2⟩
  replace x0 := below_cell b2 x0
  replace x1 := below_cell b2 x1
  have B2 := Lib.hid (bthen B1.out b2)
  rcases h2 with ⟨hr, he, X, p, oc, rfl, hp, hX, ht⟩ | ⟨hno, rfl⟩
  · have HRE := Lib.hid (show rightB e0 l0 = true ∧ e0 = 0 from ⟨hr, he⟩)
    have HT0 := Lib.hid ht
    clear hr he ht hX
    go_wp2_with fail
    refine (new_any e0 a0 n0 c0 l0 w2 (ints_of_sl (HI.out.old B2.out)) HN.out hby h0).mono ?_
    rintro r w3 ⟨b3, h3⟩
    rcases h3 with ⟨_, _, X2, q, oc2, rfl, hq, hX2, ht2⟩ | ⟨hno, _⟩
    · have HE := Lib.hid (show 0 ≤ ((e0, l0) : Cf).1 by rw [HRE.out.2]; exact Int.le_refl _)
      have HT := Lib.hid (show TSt w p q (e0, l0) w3 from ⟨_, X, oc, none, [], _, X2, oc2, none, [], HT0.out.old b3, ht2, sep_new HT0.out ht2 hX2, rfl, rfl, bthen B2.out b3, B1.out.size, Nat.le_trans b2.size b3.size, B2.out.size, b3.size⟩)
      clear HT0 ht2 hX2 hp hq HRE b2 b3 B2 x0 x1
      generalize ((e0, l0) : Cf) = cf at *
      go_wp2_with fail
      go_loopw [11] (fun i wr => ∃ j : Nat, j ≤ n ∧ i = .int .i64 j ∧ Hid (TSt w p q cf wr)) (fun i _ => n - (intOf i).toNat)
      case atStart => exact ⟨0, by omega, rfl, HT⟩
      case round =>
        clear HT
        obtain ⟨j, hj, rfl, HT⟩ := hrel
        by_cases hlt : j < n
        · obtain ⟨⟨one, chain⟩, hy⟩ : ∃ y, script[j]? = some y := ⟨_, List.getElem?_eq_getElem (by omega)⟩
          obtain ⟨b, o, a1, n1, c1, rfl, m0, m1, hsc⟩ := op_cells HS.out hy
          have CT := Lib.hid (HT.out.step HE.out one hsc)
          have hb : Below w.heap.size w wr := by obtain ⟨_, _, _, _, _, _, _, _, _, _, _, _, _, _, _, hb, _⟩ := HT.out; exact hb
          replace m0 := below_cell hb m0
          replace m1 := below_cell hb m1
          have hj0 : (0 : Int) ≤ (j : Int) := by omega
          have hj1 : (j : Int) < (n : Int) := by omega
          clear hb hsc hy HT
          go_wp2_with fail
          refine CT.out.mono ?_
          rintro r w6 ⟨⟨x, rfl⟩, ht6⟩
          have HT6 := Lib.hid ht6
          clear ht6 CT m0 m1
          go_wp2_with fail
          go_roundw
          case rel => exact ⟨j + 1, by omega, by go_num, HT6⟩
          case measure => simp [intOf]; omega
        · go_wp2_with fail
          obtain ⟨wo, rfl⟩ : ∃ wo : World, wo = wr := ⟨_, rfl⟩
          go_loopw [12] (fun i wr => ∃ j : Nat, j ≤ n' ∧ i = .int .i64 j ∧ Hid (TSt w p q cf wr)) (fun i _ => n' - (intOf i).toNat)
          case atStart => exact ⟨0, by omega, rfl, HT⟩
          case round =>
            clear HT hlt hj
            obtain ⟨k, hk, rfl, HT⟩ := hrel
            by_cases hlt : k < n'
            · obtain ⟨⟨one, chain⟩, hy⟩ : ∃ y, script'[k]? = some y := ⟨_, List.getElem?_eq_getElem (by omega)⟩
              obtain ⟨b, o, a1, n1, c1, rfl, m0, m1, hsc⟩ := op_cells HS'.out hy
              have CT := Lib.hid (HT.out.swap.step HE.out one hsc)
              have hb : Below w.heap.size w wr := by obtain ⟨_, _, _, _, _, _, _, _, _, _, _, _, _, _, _, hb, _⟩ := HT.out; exact hb
              replace m0 := below_cell hb m0
              replace m1 := below_cell hb m1
              have hj0 : (0 : Int) ≤ (k : Int) := by omega
              have hj1 : (k : Int) < (n' : Int) := by omega
              clear hb hsc hy HT
              go_wp2_with fail
              refine CT.out.mono ?_
              rintro r w6 ⟨⟨x, rfl⟩, ht6⟩
              have HT6 := Lib.hid ht6.swap
              clear ht6 CT m0 m1
              go_wp2_with fail
              go_roundw
              case rel => exact ⟨k + 1, by omega, by go_num, HT6⟩
              case measure => simp [intOf]; omega
            · obtain ⟨B, X, oc, os, L, B2, X2, oc2, os2, L2, h1, h2, h3, h4, h5, h6, h7, h8, h9, h10⟩ := HT.out
              have hL := chain_len HE.out h4
              have hL2 := chain_len HE.out h5
              have CC := chain_any X B p oc os (cf :: L.map (·.1)) (L.map (·.2)) wr h1 (by simp) (by simp; omega)
              rw [chainL_map] at CC
              have CC := Lib.hid CC
              have T1 := Lib.hid h1; have T2 := Lib.hid h2; have H3 := Lib.hid h3; have H4 := Lib.hid h4; have H5 := Lib.hid h5; have H6 := Lib.hid h6
              have hlt2 := Lib.hid h2.lt
              clear HT h1 h2 h3 h4 h5 h6
              go_wp2_with fail
              refine CC.out.mono ?_
              rintro r w7 ⟨b7, a8, c8, xs8, rfl, ho8, hr8⟩
              have hR := rsl_chain (Y := trX q oc2 os2) (by omega) ho8 hr8 (fun k hk => by
                obtain ⟨h1, h2, h3⟩ := hlt2.out
                rcases hk with rfl | hk | hk
                · exact h1
                · exact (h2 k hk).2
                · exact (h3 k hk).2)
              have CT := Lib.hid (take_any X2 B2 q oc2 os2 cf (L2.map (·.1)) (L2.map (·.2)) a8 L.length c8 L w7 (T2.out.old b7) (Nat.le_trans h10 b7.size) (by simp; omega) (by simp; omega) hR)
              have HR := Lib.hid hR
              have HV := Lib.hid (take_val (M := L2) H4.out (show L.length ≤ 64 by omega))
              have HVS := Lib.hid (take_self H4.out (show L.length ≤ 64 by omega))
              have B7 := Lib.hid (bthen H6.out b7)
              have hz7 := b7.size
              have T17 := Lib.hid (T1.out.old b7)
              have T27 := Lib.hid (T2.out.old b7)
              generalize takeC cf (L2.map (·.1)) L = x at *
              clear CC ho8 hr8 b7 hR
              go_wp2_with fail
              refine CT.out.mono ?_
              rintro r w8 ⟨rfl, hne, heq⟩
              rcases HV.out with hx | hx | ⟨hx, hle⟩
              · subst hx
                obtain ⟨X3, oc3, os3, hn3, hx3, ht3, hk3⟩ := heq rfl
                have HR8 := Lib.hid (HR.out.step hk3 (fun _ _ h => h) (fun k hk (hx : trX q oc3 os3 k) => by
                  rcases hn3 k hx with h | h
                  · exact h
                  · omega))
                have T3 := Lib.hid ht3
                have B8 := Lib.hid (hk3.below B7.out (fun k hk => Nat.le_trans h9 (trX_ge T2.out k hk)))
                have hz8 := hk3.size
                have CC2 := chain_any X3 B2 q oc3 os3 (cf :: L.map (·.1)) (L.map (·.2)) w8 ht3 (by simp) (by simp; omega)
                rw [chainL_map] at CC2
                replace CC2 := Lib.hid CC2
                clear hne heq hn3 hx3 ht3 hk3 CT HV
                go_wp2_with fail
                refine CC2.out.mono ?_
                rintro r w9 ⟨b9, a9, c9, xs9, rfl, ho9, hr9⟩
                have HIS := Lib.hid (rsl_chain (Y := fun _ => False) (by omega) ho9 hr9 (fun k hk => hk.elim)).sl
                have HR9 := Lib.hid (HR8.out.step (Keep.of_below (X := fun _ => False) b9) (fun _ _ h => h.elim) (fun k _ (hk : trX q oc3 os3 k) => hk))
                have B9 := Lib.hid (bthen B8.out b9)
                have hz9 := b9.size
                have T9 := Lib.hid (T3.out.old b9)
                clear ho9 hr9 b9 CC2 HR8
                go_wp2_with fail
                have CS := samelinks_any a9 L.length c9 L a8 L.length c8 L w9 HIS.out HR9.out.sl
                rw [decide_eq_true rfl] at CS
                refine CS.mono ?_
                rintro r w10 ⟨rfl, b10⟩
                clear CS
                have CT2 := take_any X3 B2 q oc3 os3 cf (L.map (·.1)) (L.map (·.2)) a8 L.length c8 L w10 (T9.out.old b10) (by have := b10.size; omega) (by simp; omega) (by simp; omega) (HR9.out.step (Keep.of_below (X := fun _ => False) b10) (fun _ _ h => h.elim) (fun k _ (hk : trX q oc3 os3 k) => hk))
                rw [HVS.out] at CT2
                replace CT2 := Lib.hid CT2
                have B10 := Lib.hid (bthen B9.out b10)
                clear b10
                go_wp2_with fail
                refine CT2.out.mono ?_
                rintro r w11 ⟨rfl, h11, -⟩
                have B11 := Lib.hid (bthen B10.out (h11 (by decide)))
                clear h11 CT2
                go_wp2_with fail
                go_ret
                exact ⟨rfl, B11.out⟩
              · subst hx
                have B8 := Lib.hid (bthen B7.out (hne (by decide)))
                clear hne heq CT HV
                go_wp2_with fail
                go_ret
                exact ⟨rfl, B8.out⟩
              · subst hx
                have b8 := hne (by decide)
                have B8 := Lib.hid (bthen B7.out b8)
                have CE1 := epoch_any X2 B2 q oc2 os2 _ _ w8 (T27.out.old b8) (by simp; omega) (by simp; omega)
                have CE2 := epoch_any X B p oc os _ _ w8 (T17.out.old b8) (by simp; omega) (by simp; omega)
                rw [List.length_map] at CE1 CE2
                replace CE1 := Lib.hid CE1
                replace CE2 := Lib.hid CE2
                have hle2 : decide (L.length ≤ L2.length) = true := by simpa using hle
                clear hne heq CT HV b8
                go_wp2_with fail
                refine CE1.out.mono ?_
                rintro r w9 ⟨rfl, rfl⟩
                go_wp2_with fail
                refine CE2.out.mono ?_
                rintro r w9 ⟨rfl, rfl⟩
                go_wp2_with fail
                go_ret
                exact ⟨rfl, B8.out⟩
    · exact (hno HRE.out).elim
  · have HNO := Lib.hid hno
    clear hno
    go_wp2_with fail
    refine (new_any e0 a0 n0 c0 l0 w2 (ints_of_sl (HI.out.old B2.out)) HN.out hby h0).mono ?_
    rintro r w3 ⟨b3, h3⟩
    rcases h3 with ⟨hr, he, _⟩ | ⟨_, rfl⟩
    · exact (HNO.out ⟨hr, he⟩).elim
    · have B3 := Lib.hid (bthen B2.out b3)
      clear b3 b2 x0 x1
      go_wp2_with fail
      go_ret
      exact ⟨rfl, B3.out⟩

set_option maxRecDepth 100000 in
theorem lifted (os : Os) (started : os.Started) (H : Type) (enc : TypeId × Value → H) :
    ReturnsInHanded {} Try.checked os 5 .any (Rows.lineageTeachesSpec.pre6 enc Try.prog Try.f5 Rows.lineageTeachesRow.domain false) (Rows.lineageTeachesSpec.post enc Try.prog Try.f5 false true false false) := by
  refine returnsInHanded_of_change_sized (C := Try.checked) own started (by kernel_rfl) Try.func5
    (ChangeSpec.witness6 (enc := enc) (C := Try.checked) false ⟨#[], #[.agg #[.int .i64 0, .slice none 0 0], .slice none 0 0, .slice none 0 0], []⟩ 8 (by kernel_rfl) (by kernel_rfl) (by kernel_rfl) (by kernel_rfl)) ?_
  intro W base args ds gs before hval0 hW hcnd hsz _
  have hval : ∀ (j : Nat) t v, Try.f5.params[j]? = some t → args[j]? = some v → Value.okWide Try.prog W .any base t v := hval0
  have hW' := hW
  obtain ⟨p, q, hA0, hV, rfl, hfz, hnd⟩ := hW
  have hA : DataW.TrodAll enc Try.prog W 0 (fun _ => true) true Try.f5.params.toList args.toList ds p := hA0
  rw [Try.params5] at hA hval hsz
  have hA2 := hA
  obtain ⟨v0, vs0, d0, ds0, p0, q0, hargs, rfl, rfl, h0, r0⟩ := trodAll_cons hA
  obtain ⟨v1, vs1, d1, ds1, p1, q1, rfl, rfl, rfl, h1, r1⟩ := trodAll_cons r0
  obtain ⟨v2, vs2, d2, ds2, p2, q2, rfl, rfl, rfl, h2, r2⟩ := trodAll_cons r1
  obtain ⟨rfl, rfl, rfl⟩ := trodAll_nil r2
  obtain rfl : args = #[v0, v1, v2] := by cases args; simp_all
  obtain ⟨rfl, rfl⟩ := trodVars_none hV
  clear hargs
  have k0 := hval 0 24 v0 rfl rfl
  obtain ⟨fu0, m0⟩ := h0
  have w0 := weights_of hsz (j := 0) (t := 24) rfl rfl
  have F0 : Fit Try.prog 24 d0 := .inl w0
  have s0 := cells_agg Try.underlying24 k0
  obtain ⟨y0, E0, g0⟩ := vwConf.2.2 m0 F0
  obtain ⟨p0, l0, a0, n0, c0, rfl, e0, f0, j0⟩ := conf_open E0
  obtain ⟨z0, s01, s02⟩ := s0
  have e0' := agg_of ⟨s01, s02⟩ e0
  subst e0'
  have k1 := hval 1 32 v1 rfl rfl
  obtain ⟨fu1, m1⟩ := h1
  have w1 := weights_of hsz (j := 1) (t := 32) rfl rfl
  have F1 : Fit Try.prog 32 d1 := .inl w1
  obtain ⟨l1, ⟨a1, n1, c1, e1, f1⟩, g1⟩ := vwOps.2.2 m1 F1
  have e1' := slice_of Try.underlying32 k1 e1
  subst e1'
  have k2 := hval 2 32 v2 rfl rfl
  obtain ⟨fu2, m2⟩ := h2
  have w2 := weights_of hsz (j := 2) (t := 32) rfl rfl
  have F2 : Fit Try.prog 32 d2 := .inl w2
  obtain ⟨l2, ⟨a2, n2, c2, e2, f2⟩, g2⟩ := vwOps.2.2 m2 F2
  have e2' := slice_of Try.underlying32 k2 e2
  subst e2'
  refine (walk W p0 a0 n0 c0 l0 f0 j0 a1 n1 c1 l1 f1 a2 n2 c2 l2 f2).mono fun e W' ⟨he, bel⟩ => ?_
  subst he
  exact ⟨_, rfl, _, _, _, [], _, [], hW', trodAll_mk1 (shut_bool Try.underlying4 _), trodAll_again laidOut bel (by kernel_rfl) hA2, rfl, bel.frame _, fun h => by cases h⟩

theorem over : Rows.lineageTeachesRow.holds Try.pinned (OpenSpec.ofChange Rows.lineageTeachesSpec) :=
  OpenClaim.holds_of_wide 5 Try.f5 rfl rfl rfl rfl rfl rfl rfl ⟨rfl, rfl, rfl, rfl, rfl⟩ rfl rfl rfl rfl rfl (by kernel_rfl) Try.func5 (by kernel_rfl)
    (of_decide_eq_true (by kernel_rfl)) (by unfold Func.isWrapper; first | (rw [if_pos (by decide +kernel)]; kernel_rfl) | (rw [if_neg (by decide +kernel)]; exact ⟨rfl, rfl⟩))
    (fun os started H enc _ => lifted os started H enc)

theorem proved : Rows.LineageTeachesSaid := over
#print axioms proved
end Go.Proofs.Ytdeomokhjmnfhaa.lineageTeaches
