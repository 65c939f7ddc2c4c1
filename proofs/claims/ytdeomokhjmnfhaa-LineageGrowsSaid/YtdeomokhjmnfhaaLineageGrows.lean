
/- LineageGrows: what is known only grows, and a refused call changes nothing: for every input the law returns true, and its arguments read as before. No condition. -/
import Derived.Test.YtdeomokhjmnfhaaTk
namespace Go.Proofs.Ytdeomokhjmnfhaa.lineageGrows
open Go.ChangeShapes Go.WideShapes Go.ChangeAt Go.RowKit
attribute [local irreducible] wpQuiet
set_option linter.unusedVariables false

def GSt (w : World) (B p : Nat) (c0 : Cf) (wr : World) : Prop :=
  ∃ X oc os L, Trk X wr B p oc os (c0 :: L.map (·.1)) (L.map (·.2)) ∧ chainC c0 L = 0 ∧ Below w.heap.size w wr ∧ B ≤ wr.heap.size

set_option maxRecDepth 100000 in
set_option maxHeartbeats 2000000 in
theorem walk (w : World) (e0 : Int) (a0 : Option Addr) (n0 c0 : Nat) (l0 : List Int) (h0 : i64 e0) (s0 : SlAt Sh.int w a0 n0 c0 l0) (a : Option Addr) (n c : Nat) (script : List Op) (hs : SlAt shOp w a n c script) :
    Calls Try.prog 4 #[.agg #[.int .i64 e0, .slice a0 n0 c0], .slice a n c] w fun e w' => e = .returned (.bool true) ∧ Below w.heap.size w w' := by
  have hlen := hs.len
  have hmax := Nat.le_trans hs.cap hs.max
  have HS := Lib.hid hs
  have HI := Lib.hid s0
  have hn := s0.nil; have hcap0 := s0.cap; have hby := s0.bytes
  have HN := Lib.hid (show a0 = none → c0 = 0 ∧ n0 = 0 from fun h => ⟨hn h, by have := hn h; omega⟩)
  clear hs s0 hn hcap0
  go_enter Try.func4, Try.ntmps4
  go_wp2_with fail
  refine (lives10_any _).mono ?_
  rintro r w1 ⟨rfl, b1⟩
  have x0 := below_cell b1 (b := w.heap.size) (o := 0) (v := .int .i64 e0) (by simp)
  have x1 := below_cell b1 (b := w.heap.size) (o := 1) (v := .slice a0 n0 c0) (by simp)
  have B1 := Lib.hid (bthen (below_alloc w _) b1)
  clear b1
  go_wp2_with fail
  refine (new_any e0 a0 n0 c0 l0 w1 (ints_of_sl (HI.out.old B1.out)) HN.out hby h0).mono ?_
  rintro r w2 ⟨b2, h2⟩
  have B2 := Lib.hid (bthen B1.out b2)
  clear x0 x1
  rcases h2 with ⟨hr, he, X, p, oc, rfl, hp, hX, ht⟩ | ⟨_, rfl⟩
  · have HG := Lib.hid (show GSt w w1.heap.size p (e0, l0) w2 from ⟨X, oc, none, [], ht, rfl, B2.out, b2.size⟩)
    have hBw := B1.out.size
    have hBp := ht.hB
    have HE := Lib.hid (show 0 ≤ ((e0, l0) : Cf).1 by rw [he]; exact Int.le_refl _)
    clear b2 ht hX hp he hr
    generalize w1.heap.size = B at *
    generalize ((e0, l0) : Cf) = cf at *
    go_wp2_with fail
    go_loopw [7] (fun i wr => ∃ j : Nat, j ≤ n ∧ i = .int .i64 j ∧ Hid (GSt w B p cf wr)) (fun i _ => n - (intOf i).toNat)
    case atStart => exact ⟨0, by omega, rfl, HG⟩
    case round =>
      clear HG B2
      obtain ⟨j, hj, rfl, HG⟩ := hrel
      obtain ⟨wo, rfl⟩ : ∃ wo : World, wo = wr := ⟨_, rfl⟩
      by_cases hlt : j < n
      · obtain ⟨⟨one, chain⟩, hy⟩ : ∃ y, script[j]? = some y := ⟨_, List.getElem?_eq_getElem (by omega)⟩
        obtain ⟨b, o, a1, n1, c1, rfl, m0, m1, hsc⟩ := op_cells HS.out hy
        obtain ⟨X, oc, os, L, ht, hg, hb, hBz⟩ := HG.out
        have hL := chain_len HE.out hg
        have CC := chain_any X B p oc os (cf :: L.map (·.1)) (L.map (·.2)) wo ht (by simp) (by simp; omega)
        rw [chainL_map] at CC
        have CC := Lib.hid CC
        have HT := Lib.hid ht; have Hg := Lib.hid hg; have Hb := Lib.hid hb; have HSC := Lib.hid hsc; have HBz := Lib.hid hBz
        have M0 := Lib.hid m0; have M1 := Lib.hid m1
        have hj0 : (0 : Int) ≤ (j : Int) := by omega
        have hj1 : (j : Int) < (n : Int) := by omega
        clear ht hg hb hsc hBz HG hy m0 m1
        go_wp2_with fail
        refine CC.out.mono ?_
        rintro r w4 ⟨b4, a8, c8, xs8, rfl, ho8, hr8⟩
        have B4 := Lib.hid b4
        have HO8 := Lib.hid ho8; have HR8 := Lib.hid hr8
        clear b4 ho8 hr8 CC
        go_wp2_with fail
        have CE := epoch_any X B p oc os _ _ _ (HT.out.old B4.out) (by simp; omega) (by simp; omega)
        rw [List.length_map] at CE
        refine CE.mono ?_
        rintro r w5 ⟨rfl, rfl⟩
        clear CE
        have m0 := below_cell (bthen Hb.out B4.out) M0.out
        have m1 := below_cell (bthen Hb.out B4.out) M1.out
        have CL := Lib.hid (call_any X B p oc os cf L one a1 n1 c1 chain w4 (HT.out.old B4.out) (Nat.le_trans HBz.out B4.out.size) HE.out Hg.out
          (rsl_old HSC.out (bthen Hb.out B4.out) (fun k hk => Nat.le_trans hBw (trX_ge HT.out k hk))))
        have HWAS := Lib.hid (rsl_chain (Y := trX p oc os) (by omega) HO8.out HR8.out (fun k hk => by
          obtain ⟨h1, h2, h3⟩ := HT.out.lt
          rcases hk with rfl | hk | hk
          · exact h1
          · exact (h2 k hk).2
          · exact (h3 k hk).2))
        have HGL := Lib.hid (call_good Hg.out one chain)
        have HGR := Lib.hid (call_grows Hg.out one chain)
        have HNO := Lib.hid (fun h => callL_no (c0 := cf) (L := L) (one := one) (chain := chain) h)
        generalize callE cf L one chain = x at *
        generalize callL cf L one chain = L' at *
        have hL' := chain_len HE.out HGL.out
        clear HO8 HR8
        go_wp2_with fail
        refine CL.out.mono ?_
        rintro r w6 ⟨rfl, X', oc', os', hnew, hxs, ht6, hk6⟩
        have HT6 := Lib.hid ht6
        have HNEW := Lib.hid hnew
        have B6 := Lib.hid (hk6.below (bthen Hb.out B4.out) (fun k hk => Nat.le_trans hBw (trX_ge HT.out k hk)))
        have hz6 := hk6.size
        have HWAS6 := Lib.hid (HWAS.out.rob w6 hk6)
        have HBz6 := Lib.hid (show B ≤ w6.heap.size from Nat.le_trans HBz.out (Nat.le_trans B4.out.size hz6))
        have CC2 := chain_any X' B p oc' os' (cf :: L'.map (·.1)) (L'.map (·.2)) w6 ht6 (by simp) (by simp; omega)
        rw [chainL_map] at CC2
        replace CC2 := Lib.hid CC2
        clear ht6 hnew hxs hk6 CL HWAS m0 m1
        go_wp2_with fail
        refine CC2.out.mono ?_
        rintro r w7 ⟨b7, a9, c9, xs9, rfl, ho9, hr9⟩
        have HIS := Lib.hid (rsl_chain (Y := fun _ => False) (by omega) ho9 hr9 (fun k hk => hk.elim)).sl
        have HWA := Lib.hid (HWAS6.out.old b7)
        have CE2 := epoch_any X' B p oc' os' _ _ _ (HT6.out.old b7) (by simp; omega) (by simp; omega)
        rw [List.length_map] at CE2
        replace CE2 := Lib.hid CE2
        have B7 := Lib.hid (bthen B6.out b7)
        have HGS := Lib.hid (show ∀ w', Below w7.heap.size w7 w' → GSt w B p cf w' from fun w' hb => ⟨X', oc', os', L', HT6.out.old (bthen b7 hb), HGL.out, bthen B7.out hb, Nat.le_trans HBz6.out (Nat.le_trans b7.size hb.size)⟩)
        have HSM := Lib.hid (show ∀ (i : Nat) (y : Lk), L[i]? = some y → ∃ z, L'[i]? = some z ∧ z.1 = y.1 from fun i y hy => by
          by_cases hx : x = 0
          · exact (HGR.out hx).2 i y hy
          · rw [HNO.out hx]; exact ⟨y, hy, rfl⟩)
        have CS := (samelinks_any a8 L.length c8 L a9 L'.length c9 L' w7 HWA.out HIS.out)
        clear ho9 hr9 b7 CC2 HWAS6
        have t1 : ((L.length : Int) != L.length) = false := by simp
        have t2 : ((L'.length : Int) != L'.length) = false := by simp
        by_cases hx0 : x = 0
        · subst hx0
          replace CS := Lib.hid CS
          have t3 : decide (L'.length ≤ L.length) = false := by have := (HGR.out rfl).1; simp; omega
          clear HGR HNO
          go_wp2_with fail
          refine CE2.out.mono ?_
          rintro r w8 ⟨rfl, rfl⟩
          go_wp2_with fail
          go_loopw [12] (fun i wr => ∃ k : Nat, k ≤ L.length ∧ i = .int .i64 k ∧ Hid (Below w7.heap.size w7 wr)) (fun i _ => L.length - (intOf i).toNat)
          case atStart => exact ⟨0, by omega, rfl, Lib.hid (Below.refl _ _)⟩
          case round =>
            obtain ⟨k, hk, rfl, Hb7⟩ := hrel
            by_cases hlk : k < L.length
            · obtain ⟨⟨⟨e, l⟩, sg⟩, hy⟩ : ∃ y, L[k]? = some y := ⟨_, List.getElem?_eq_getElem hlk⟩
              obtain ⟨⟨⟨e', l'⟩, sg'⟩, hz, hzy⟩ := HSM.out k _ hy
              injection hzy with h1 h2
              subst h1 h2
              have hlk' : k < L'.length := (List.getElem?_eq_some_iff.1 hz).1
              obtain ⟨b8, o8, a2, n2, c2, sa, sn, sc, rfl, p0, p1, p2, he2, hs2, hg2⟩ := link_cells (HWA.out.old Hb7.out) hy
              obtain ⟨b9, o9, a3, n3, c3, sa', sn', sc', rfl, q0, q1, q2, he3, hs3, hg3⟩ := link_cells (HIS.out.old Hb7.out) hz
              have lb := World.block_lt p0
              have lb' := World.block_lt q0
              have hk0 : (0 : Int) ≤ (k : Int) := by omega
              have hk1 : (k : Int) < (L.length : Int) := by omega
              have hk2 : (k : Int) < (L'.length : Int) := by omega
              have CC3 := fun (w' : World) (hb : Below wr.heap.size wr w') => samec_any e' a2 n2 c2 l' e' a3 n3 c3 l' w' (ints_of_sl (hs2.old hb)) (ints_of_sl (hs3.old hb))
              rw [decide_eq_true rfl] at CC3
              replace CC3 := Lib.hid CC3
              clear hy hz hs2 hs3 hg2 hg3 he2 he3
              go_wp2_with fail
              refine wp_region_below (by kernel_rfl) (by kernel_rfl) ?_
              repeat (refine wpQuiet_step (fun K hK => ?_); go_simp; first | (refine hK _ ?_; clear hK K) | (apply Exists.intro; refine ⟨fun w' hw' => ?_, hK _ ?_⟩; (first | (go_at_call 17; exact Calls.quiet_below hw' (CC3.out _ hw')) | (with_reducible rfl) | (obtain ⟨cc, dd⟩ := bcell hw'; go_simp; rfl)); clear hK K))
              refine wpQuiet_nil ?_
              intro w9 h9
              have B9 := Lib.hid (bthen Hb7.out h9)
              clear h9 p0 p1 p2 q0 q1 q2
              go_wp2_with fail
              go_roundw
              case rel => exact ⟨k + 1, by omega, by go_num, B9⟩
              case measure => simp [intOf]; omega
            · have HG9 := Lib.hid (HGS.out _ Hb7.out)
              go_wp2_with fail
              go_roundw
              case rel => exact ⟨j + 1, by omega, by go_num, HG9⟩
              case measure => simp [intOf]; omega
        · have hLL := (HNO.out hx0).symm
          subst hLL
          have t3 : (x != 0) = true := by simpa using hx0
          have t4 : (x == 0) = false := by simpa using hx0
          rw [decide_eq_true rfl] at CS
          replace CS := Lib.hid CS
          clear HGR HNO hx0
          go_wp2_with fail
          refine CE2.out.mono ?_
          rintro r w8 ⟨rfl, rfl⟩
          go_wp2_with fail
          refine CS.out.mono ?_
          rintro r w8 ⟨rfl, b8⟩
          have B8 := Lib.hid b8
          clear b8
          go_wp2_with fail
          go_loopw [12] (fun i wr => ∃ k : Nat, k ≤ L.length ∧ i = .int .i64 k ∧ Hid (Below w7.heap.size w7 wr)) (fun i _ => L.length - (intOf i).toNat)
          case atStart => exact ⟨0, by omega, rfl, B8⟩
          case round =>
            obtain ⟨k, hk, rfl, Hb7⟩ := hrel
            by_cases hlk : k < L.length
            · obtain ⟨⟨⟨e, l⟩, sg⟩, hy⟩ : ∃ y, L[k]? = some y := ⟨_, List.getElem?_eq_getElem hlk⟩
              obtain ⟨⟨⟨e', l'⟩, sg'⟩, hz, hzy⟩ := HSM.out k _ hy
              injection hzy with h1 h2
              subst h1 h2
              have hlk' : k < L.length := (List.getElem?_eq_some_iff.1 hz).1
              obtain ⟨b8, o8, a2, n2, c2, sa, sn, sc, rfl, p0, p1, p2, he2, hs2, hg2⟩ := link_cells (HWA.out.old Hb7.out) hy
              obtain ⟨b9, o9, a3, n3, c3, sa', sn', sc', rfl, q0, q1, q2, he3, hs3, hg3⟩ := link_cells (HIS.out.old Hb7.out) hz
              have lb := World.block_lt p0
              have lb' := World.block_lt q0
              have hk0 : (0 : Int) ≤ (k : Int) := by omega
              have hk1 : (k : Int) < (L.length : Int) := by omega
              have hk2 : (k : Int) < (L.length : Int) := by omega
              have CC3 := fun (w' : World) (hb : Below wr.heap.size wr w') => samec_any e' a2 n2 c2 l' e' a3 n3 c3 l' w' (ints_of_sl (hs2.old hb)) (ints_of_sl (hs3.old hb))
              rw [decide_eq_true rfl] at CC3
              replace CC3 := Lib.hid CC3
              clear hy hz hs2 hs3 hg2 hg3 he2 he3
              go_wp2_with fail
              refine wp_region_below (by kernel_rfl) (by kernel_rfl) ?_
              repeat (refine wpQuiet_step (fun K hK => ?_); go_simp; first | (refine hK _ ?_; clear hK K) | (apply Exists.intro; refine ⟨fun w' hw' => ?_, hK _ ?_⟩; (first | (go_at_call 17; exact Calls.quiet_below hw' (CC3.out _ hw')) | (with_reducible rfl) | (obtain ⟨cc, dd⟩ := bcell hw'; go_simp; rfl)); clear hK K))
              refine wpQuiet_nil ?_
              intro w9 h9
              have B9 := Lib.hid (bthen Hb7.out h9)
              clear h9 p0 p1 p2 q0 q1 q2
              go_wp2_with fail
              go_roundw
              case rel => exact ⟨k + 1, by omega, by go_num, B9⟩
              case measure => simp [intOf]; omega
            · have HG9 := Lib.hid (HGS.out _ Hb7.out)
              go_wp2_with fail
              go_roundw
              case rel => exact ⟨j + 1, by omega, by go_num, HG9⟩
              case measure => simp [intOf]; omega
      · go_wp2_with fail
        go_ret
        obtain ⟨X, oc, os, L, _, _, hb, _⟩ := HG.out
        exact ⟨rfl, hb⟩
  · go_wp2_with fail
    go_ret
    exact ⟨rfl, B2.out⟩

set_option maxRecDepth 100000 in
theorem lifted (os : Os) (started : os.Started) (H : Type) (enc : TypeId × Value → H) :
    ReturnsInHanded {} Try.checked os 4 .any (Rows.lineageGrowsSpec.pre6 enc Try.prog Try.f4 Rows.lineageGrowsRow.domain false) (Rows.lineageGrowsSpec.post enc Try.prog Try.f4 false true false false) := by
  refine returnsInHanded_of_change_sized (C := Try.checked) own started (by kernel_rfl) Try.func4
    (ChangeSpec.witness6 (enc := enc) (C := Try.checked) false ⟨#[], #[.agg #[.int .i64 0, .slice none 0 0], .slice none 0 0], []⟩ 8 (by kernel_rfl) (by kernel_rfl) (by kernel_rfl) (by kernel_rfl)) ?_
  intro W base args ds gs before hval0 hW hcnd hsz _
  have hval : ∀ (j : Nat) t v, Try.f4.params[j]? = some t → args[j]? = some v → Value.okWide Try.prog W .any base t v := hval0
  have hW' := hW
  obtain ⟨p, q, hA0, hV, rfl, hfz, hnd⟩ := hW
  have hA : DataW.TrodAll enc Try.prog W 0 (fun _ => true) true Try.f4.params.toList args.toList ds p := hA0
  rw [Try.params4] at hA hval hsz
  have hA2 := hA
  obtain ⟨v0, vs0, d0, ds0, p0, q0, hargs, rfl, rfl, h0, r0⟩ := trodAll_cons hA
  obtain ⟨v1, vs1, d1, ds1, p1, q1, rfl, rfl, rfl, h1, r1⟩ := trodAll_cons r0
  obtain ⟨rfl, rfl, rfl⟩ := trodAll_nil r1
  obtain rfl : args = #[v0, v1] := by cases args; simp_all
  obtain ⟨rfl, rfl⟩ := trodVars_none hV
  clear hargs
  have k0 := hval 0 24 v0 rfl rfl
  obtain ⟨fu0, m0⟩ := h0
  have w0 := weights_of hsz (j := 0) (t := 24) rfl rfl
  have F0 : Fit Try.prog 24 d0 := .inl w0
  have s0 := cells_agg Try.underlying24 k0
  obtain ⟨y0, E0, g0⟩ := vwConf.2.2 m0 F0
  obtain ⟨p0, l0, a0, n0, c0, rfl, e0, f0, j0⟩ := conf_open E0
  obtain ⟨z0, s01, s02⟩ := s0
  have e0' := agg_of ⟨s01, s02⟩ e0
  subst e0'
  have k1 := hval 1 32 v1 rfl rfl
  obtain ⟨fu1, m1⟩ := h1
  have w1 := weights_of hsz (j := 1) (t := 32) rfl rfl
  have F1 : Fit Try.prog 32 d1 := .inl w1
  obtain ⟨l1, ⟨a1, n1, c1, e1, f1⟩, g1⟩ := vwOps.2.2 m1 F1
  have e1' := slice_of Try.underlying32 k1 e1
  subst e1'
  refine (walk W p0 a0 n0 c0 l0 f0 j0 a1 n1 c1 l1 f1).mono fun e W' ⟨he, bel⟩ => ?_
  subst he
  exact ⟨_, rfl, _, _, _, [], _, [], hW', trodAll_mk1 (shut_bool Try.underlying4 _), trodAll_again laidOut bel (by kernel_rfl) hA2, rfl, bel.frame _, fun h => by cases h⟩

theorem over : Rows.lineageGrowsRow.holds Try.pinned (OpenSpec.ofChange Rows.lineageGrowsSpec) :=
  OpenClaim.holds_of_wide 4 Try.f4 rfl rfl rfl rfl rfl rfl rfl ⟨rfl, rfl, rfl, rfl, rfl⟩ rfl rfl rfl rfl rfl (by kernel_rfl) Try.func4 (by kernel_rfl)
    (of_decide_eq_true (by kernel_rfl)) (by unfold Func.isWrapper; first | (rw [if_pos (by decide +kernel)]; kernel_rfl) | (rw [if_neg (by decide +kernel)]; exact ⟨rfl, rfl⟩))
    (fun os started H enc _ => lifted os started H enc)

theorem proved : Rows.LineageGrowsSaid := over
#print axioms proved
end Go.Proofs.Ytdeomokhjmnfhaa.lineageGrows
