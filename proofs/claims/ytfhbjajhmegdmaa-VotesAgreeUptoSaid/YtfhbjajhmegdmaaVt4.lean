
/- slices.Equal at signatures; the program's Add. -/
import Derived.Test.YtfhbjajhmegdmaaVt3
import Derived.Test.YtfhbjajhmegdmaaNews1
import Derived.Test.YtfhbjajhmegdmaaSm
namespace Go.Proofs.Ytfhbjajhmegdmaa
set_option maxRecDepth 100000
open Go.RowKit Go.Maps
set_option linter.unusedVariables false
set_option linter.unusedSimpArgs false

set_option maxHeartbeats 400000 in
theorem eqsigs_any (a : Option Addr) (n c : Nat) (l : List Sg) (a' : Option Addr) (n' c' : Nat) (l' : List Sg) (w : World) (h : SlAt shSig w a n c l) (h' : SlAt shSig w a' n' c' l') :
    Calls Try.prog 37 #[.slice a n c, .slice a' n' c'] w fun e w' => e = .returned (.bool (decide (l = l'))) ∧ ∃ q, w' = w.drewN q := by
  have hmax := h.max
  have hcap := h.cap
  have hmax' := h'.max
  have hcap' := h'.cap
  have hlen := h.len
  have hlen' := h'.len
  have H := Lib.hid h; clear h
  have H' := Lib.hid h'; clear h'
  by_cases hnn : n = n'
  · subst hnn
    have hn0 : ((n : Int) != n) = false := by simp
    have hfin : ∀ k, k = n → l.take k = l'.take k → decide (l = l') = true := fun k hk ht => by
      rw [List.take_of_length_le (by omega), List.take_of_length_le (by omega)] at ht
      simp [ht]
    have Hfin := Lib.hid hfin; have Hlen := Lib.hid hlen; have Hlen' := Lib.hid hlen'
    clear hfin hlen hlen'
    go_enter Try.func37, Try.ntmps37
    go_wp2_with fail
    go_loopw [13] (fun i wr => ∃ k q : Nat, k ≤ n ∧ i = .int .i64 k ∧ wr = w.drewN q ∧ Hid (l.take k = l'.take k)) (fun i _ => n - (intOf i).toNat)
    case atStart => exact ⟨0, 0, by omega, rfl, rfl, Lib.hid (by simp)⟩
    case round =>
      obtain ⟨k, q, hk, rfl, rfl, ht⟩ := hrel
      by_cases hlt : k < n
      · have hd : decide ((k : Int) < (n : Int)) = true := by simp; omega
        obtain ⟨b, o, x, t, rfl, hy, x0, x1, -, -⟩ := sig_cells H.out hlt
        obtain ⟨b', o', x', t', rfl, hy', y0, y1, -, -⟩ := sig_cells H'.out hlt
        have hneq := fun w => run_neq_sig w x t x' t'
        by_cases hne : ((x, t) : Sg) = (x', t')
        · rw [decide_eq_true hne] at hneq
          have ht' := Lib.hid (show l.take (k + 1) = l'.take (k + 1) by
            rw [List.take_add_one, List.take_add_one, ht.out, hy, hy', hne])
          clear hy hy' ht
          go_wp2_with fail
          go_quiet (fail)
          go_wp2_with fail
          go_roundw
          case rel => exact ⟨k + 1, q + nq, by omega, by go_num, by simp, ht'⟩
          case measure => simp [intOf]; omega
        · rw [decide_eq_false hne] at hneq
          have hno := Lib.hid (show decide (l = l') = false by
            rw [decide_eq_false_iff_not]
            rintro rfl
            rw [hy] at hy'
            injection hy' with hy'
            exact hne hy')
          clear hy hy' ht
          go_wp2_with fail
          go_quiet (fail)
          go_wp2_with fail
          go_ret
          exact ⟨by rw [hno.out]; rfl, q + nq, by simp⟩
      · have hd : decide ((k : Int) < (n : Int)) = false := by simp; omega
        have hy := Lib.hid (Hfin.out k (by omega) ht.out)
        clear ht
        go_wp2_with fail
        go_ret
        exact ⟨by rw [hy.out]; rfl, q, rfl⟩
  · have hne : ((n : Int) != n') = true := by simp; omega
    have hno := Lib.hid (show decide (l = l') = false by
      rw [decide_eq_false_iff_not]; rintro rfl; omega)
    clear hlen hlen'
    go_enter Try.func37, Try.ntmps37
    go_wp2_with fail
    go_ret
    exact ⟨by rw [hno.out]; rfl, 0, rfl⟩
theorem look_vote {w : World} {mv n : Nat} {D : DataW Value} {X : Nat → Prop} {e : Int} {V : List Vt} (ho : w.ownsMap Try.prog 3 rawE mv n D) (hv : VMap X w e V D) {x : Int} (hx : i64 x) :
    ∃ s c t a n d, (Instr.lookup 74 (.map (some mv)) (.int .i64 x) true).run Try.prog w = .ok (.tuple #[.agg #[.string s, .string c, .string t, .slice a n d], .bool (V.any fun v => v.1 == x)]) w := by
  obtain ⟨v, ps, hrun, hR⟩ := ho.look_ok intK Try.underlying74 (zeroVote w) (zd := .held (voteV ⟨#[]⟩ ⟨#[]⟩ ⟨#[]⟩ none 0 0)) (zp := []) rfl (intKey15 x hx)
  rw [hv.has x hx] at hrun
  simp only [rawE, Option.some.injEq, Prod.mk.injEq] at hR
  cases hh : V.any (fun v => v.1 == x) with
  | false =>
    rw [hh] at hrun
    have h0 := hv.has x hx
    rw [hh] at h0
    rw [atKey_of_not_has h0] at hR
    injection hR.1 with h1
    rw [h1] at hrun
    exact ⟨_, _, _, _, _, _, hrun⟩
  | true =>
    rw [hh] at hrun
    rw [List.any_eq_true] at hh
    obtain ⟨u, hu, hux⟩ := hh
    have hux : u.1 = x := by simpa using hux
    obtain ⟨a, n, d, g1, g2⟩ := hv.get u hu
    rw [hux] at g1
    rw [g1] at hR
    injection hR.1 with h1
    rw [h1] at hrun
    exact ⟨_, _, _, _, _, _, hrun⟩

def addR (W p mv : Nat) (x : Int) (s c t : ByteArray) (b : Option Addr) (m d : Nat) (nx : List Int) : Nat → World → Value → Prop
  | 0 => fun _ v => v = .pointer (some ⟨p, 0, none⟩)
  | 1 => fun _ v => v = .pointer (some ⟨p, 0, none⟩)
  | 2 => fun _ v => v = .pointer (some ⟨p, 2, none⟩)
  | 3 => fun _ v => v = .map (some mv)
  | 4 => fun _ v => v = .int .i64 x
  | 5 => fun _ v => v = .agg #[.string s, .string c]
  | 6 => fun _ v => v = .string t
  | 7 => fun _ v => v = .slice b m d
  | 8 => fun w v => ∃ a' c', v = .slice a' m c' ∧ w.ownsRow W 3 1 (.slice a' m c') m (intsV nx)
  | 9 => fun w v => ∃ a' c', v = .agg #[.string s, .string c, .string t, .slice a' m c'] ∧ w.ownsRow W 3 1 (.slice a' m c') m (intsV nx)
  | _ => fun _ _ => False
theorem addR_stab {W p mv : Nat} {x : Int} {s c t : ByteArray} {b : Option Addr} {m d : Nat} {nx : List Int} : ∀ i w w' v, addR W p mv x s c t b m d nx i w v → Below w.heap.size w w' → addR W p mv x s c t b m d nx i w' v
  | 0, w, w', v, h, hb => h
  | 1, w, w', v, h, hb => h
  | 2, w, w', v, h, hb => h
  | 3, w, w', v, h, hb => h
  | 4, w, w', v, h, hb => h
  | 5, w, w', v, h, hb => h
  | 6, w, w', v, h, hb => h
  | 7, w, w', v, h, hb => h
  | 8, w, w', v, ⟨a', c', h1, h2⟩, hb => ⟨a', c', h1, owns_old h2 hb⟩
  | 9, w, w', v, ⟨a', c', h1, h2⟩, hb => ⟨a', c', h1, owns_old h2 hb⟩
  | _ + 10, w, w', v, h, hb => h

def VAddPost (M : Nat → Prop) (p mv mc : Nat) (e : Int) (l : List Int) (V : List Vt) (x : Int) (t : ByteArray) (nx : List Int) (sigs : List Sg) (w : World) (r : Ending) (w' : World) : Prop :=
  r = .returned (.int .i64 (addE e l V x t nx sigs)) ∧ Keep (fun k => k = mv ∨ k = mc) w w' ∧ ∃ M' : Nat → Prop, (∀ k, M' k → M k ∨ w.heap.size ≤ k) ∧ TalAt M' w' p mv mc e l (addV e l V x t nx sigs)
theorem vadd_no {M : Nat → Prop} {w w' : World} {p mv mc : Nat} {e : Int} {l : List Int} {V : List Vt} {x : Int} {t : ByteArray} {nx : List Int} {sigs : List Sg} {z : Int} (h : TalAt M w p mv mc e l V) (hb : Below w.heap.size w w') (hz : addE e l V x t nx sigs = z) (hz0 : z ≠ 0) :
    VAddPost M p mv mc e l V x t nx sigs w (.returned (.int .i64 z)) w' :=
  ⟨by rw [hz], Keep.of_below hb, M, fun k hk => .inl hk, by rw [addV, if_neg (by rw [hz]; exact hz0)]; exact h.old hb⟩

theorem tal_add {M : Nat → Prop} {w w9 : World} {p mv mc : Nat} {e : Int} {l : List Int} {V : List Vt} {x : Int} {t : ByteArray} {nx : List Int} {a6 : Option Addr} {m c6 n1 n2 : Nat} {D1 : DataW Value} {D2 : DataW Unit} (h : TalAt M w p mv mc e l V) (hxx : i64 x) (hk : Keep (fun k => k = mv ∨ k = mc) w w9)
    (hn1 : n1 ≤ V.length) (v1 : VMap (Free M p mv mc) w e V D1) (hn2 : n2 ≤ V.length) (v2 : CMap e V D2) (T1 : Tidy D1) (T2 : IsMap D2) (hno : V.any (fun v => v.1 == x) = false) (hS : whOk (whatOf e (x, t, nx)).1 (whatOf e (x, t, nx)).2)
    (o1 : w9.ownsMap Try.prog 3 rawE mv (n1 + 1) (D1.put (.int .i64 x) (.held (voteV (whatOf e (x, t, nx)).1 (whatOf e (x, t, nx)).2 t a6 m c6))))
    (o2 : w9.ownsMap Try.prog 79 intE mc (n2 + 1) (D2.put (whL (whatOf e (x, t, nx)).1 (whatOf e (x, t, nx)).2) (li ((cntW e V (whatOf e (x, t, nx)).1 (whatOf e (x, t, nx)).2 : Nat) + 1))))
    (ho : w9.ownsRow w.heap.size 3 1 (.slice a6 m c6) m (intsV nx)) (hl : nx.length = m) (hf : ∀ y ∈ nx, i64 y) (hb : m * 8 ≤ 140737488355328) :
    ∃ M' : Nat → Prop, (∀ k, M' k → M k ∨ w.heap.size ≤ k) ∧ TalAt M' w9 p mv mc e l (V ++ [(x, t, nx)]) := by
  have hkx : WideAt.IsKeyLit (.int .i64 x) := intK.key (intKey15 x hxx)
  have hh := v1.has x hxx
  rw [hno] at hh
  obtain ⟨a, n, c, hbx, hr⟩ := h.box
  have hF : ∀ k, k < w.heap.size → Free (fun k => M k ∨ (Value.slice a6 m c6).ownBlock = some k) p mv mc k → Free M p mv mc k := fun k hk h => by
    rcases h with h | h
    · exact .inl (fun hm => h (.inl hm))
    · exact .inr h
  have hFk : ∀ k, k < w.heap.size → (k = mv ∨ k = mc) → Free M p mv mc k := fun k _ h => .inr (.inr h)
  have hpl := h.lt p h.mine.1
  have hvl := h.lt mv h.mine.2.1
  have hcl := h.lt mc h.mine.2.2
  refine ⟨fun k => M k ∨ (Value.slice a6 m c6).ownBlock = some k, fun k hk => ?_, ⟨fun k hk' => ?_, ⟨.inl h.mine.1, .inl h.mine.2.1, .inl h.mine.2.2⟩, h.ne, h.ep, ⟨a, n, c, ?_, hr.step hk hFk hF⟩, ⟨n1 + 1, _, o1, by simp; omega, ⟨?_, fun y hy => ?_, fun v hv => ?_⟩⟩, ⟨n2 + 1, _, o2, by simp; omega, fun s c hsc => ?_⟩⟩⟩
  · rcases hk with hk | hk
    · exact .inl hk
    · exact .inr (ho.lt k hk).1
  · rcases hk' with hk' | hk'
    · exact Nat.lt_of_lt_of_le (h.lt k hk') hk.size
    · exact (ho.lt k hk').2
  · rw [hk.block p hpl (fun hc => by rcases hc with hc | hc; exact h.ne.1 hc; exact h.ne.2.1 hc)]; exact hbx
  · rw [size_put T1, hh, v1.size]; simp
  · rw [List.any_append, ← v1.has y hy]
    by_cases he : y = x
    · subst he
      rw [has_put_same T1.isMap hkx]; simp
    · rw [has_put_other (by intro h; injection h with _ h; exact he h)]
      have : (x == y) = false := by simp; exact fun h => he h.symm
      simp [this]
  · rw [List.mem_append, List.mem_singleton] at hv
    rcases hv with hv | rfl
    · obtain ⟨a', n', d', g1, g2⟩ := v1.get v hv
      refine ⟨a', n', d', fun z => ?_, g2.step hk hFk hF⟩
      rw [atKey_put_other (by
        intro h
        injection h with _ h
        have : V.any (fun v => v.1 == x) = true := any_iff.2 (List.mem_map.2 ⟨v, hv, h⟩)
        rw [hno] at this; cases this)]
      exact g1 z
    · refine ⟨a6, m, c6, fun z => by rw [atKey_put_same T1.isMap hkx], fun w' hk' => ints_row (owns_keep ho hk' (fun k hk1 hx => ?_)) hl hf hb⟩
      have := (ho.lt k hk1).1
      rcases hx with hx | hx | hx | hx
      · exact hx (.inr hk1)
      · omega
      · omega
      · omega
  · rw [cntW_snoc]
    by_cases he : whatOf e (x, t, nx) = (s, c)
    · rw [he]
      rw [atKey_put_same T2 (whK.key (whKey hsc)), if_pos rfl]; rfl
    · have hne : whL s c ≠ whL (whatOf e (x, t, nx)).1 (whatOf e (x, t, nx)).2 := fun h => he (whL_inj hS hsc h.symm)
      rw [atKey_put_other hne, if_neg he]
      exact v2 s c hsc

set_option maxHeartbeats 4000000 in
theorem vadd_any (M : Nat → Prop) (p mv mc : Nat) (e : Int) (l : List Int) (V : List Vt) (x : Int) (t : ByteArray) (b : Option Addr) (m d : Nat) (nx : List Int) (sa : Option Addr) (sn sc : Nat) (sigs : List Sg) (w : World)
    (h : TalAt M w p mv mc e l V) (hV : VOk e l V) (hxx : i64 x) (ht : t.size ≤ 140737488355328) (hx : IntsAt w b m nx) (hxn : b = none → d = 0 ∧ m = 0) (hxb : m * 8 ≤ 140737488355328) (hs : SlAt shSig w sa sn sc sigs) :
    Calls Try.prog 15 #[.pointer (some ⟨p, 0, none⟩), .int .i64 x, .string t, .slice b m d, .slice sa sn sc] w (VAddPost M p mv mc e l V x t nx sigs w) := by
  obtain ⟨a, n, c, hb, hr⟩ := h.box
  have he := h.ep
  have HT := Lib.hid h; have HVok := Lib.hid hV; have HX := Lib.hid hx; have HS := Lib.hid hs
  have KP := Lib.hid hb
  have HL := Lib.hid (ints_of_sl hr.self)
  have p0 : w.cell? ⟨p, 0, none⟩ = some (.int .i64 e) := by rw [blk_cell hb]; rfl
  have p1 : w.cell? ⟨p, 1, none⟩ = some (.slice a n c) := by rw [blk_cell hb]; rfl
  have CT := Lib.hid (vtexts_any e a n c l t b m d nx w he HL.out ht hx)
  have HA := Lib.hid (show addE e l V x t nx sigs = if vGood e l t nx = false then 1 else if hasB l x = false then 8 else if sigs = [(x, stS e t), (x, textS (e + 1) nx)] then (if V.any (fun v => v.1 == x) = true then 7 else 0) else 16 from rfl)
  clear h hV hx hs hb hr
  cases hG : vGood e l t nx with
  | false =>
    rw [hG, if_pos rfl] at HA
    have hE : vE e l t nx = 1 := by rw [vE, hG]; rfl
    rw [hE] at CT
    generalize vS e l t nx = S at *
    generalize vC e l t nx = C at *
    go_enter Try.func15, Try.ntmps15
    go_wp2_with fail
    refine CT.out.mono ?_
    rintro r w1 ⟨rfl, b1⟩
    have B1 := Lib.hid b1
    clear b1 p0 p1
    go_wp2_with fail
    go_ret
    exact vadd_no HT.out B1.out HA.out (by decide)
  | true =>
    rw [hG, if_neg (by decide)] at HA
    have hE : vE e l t nx = 0 := by rw [vE, hG]; rfl
    have hSd : vS e l t nx = stS e t := by rw [vS, hG]; rfl
    have hCd : vC e l t nx = textS (e + 1) nx := by rw [vC, hG]; rfl
    have HSz := Lib.hid (show (stS e t).size ≤ 1125899906842624 ∧ (textS (e + 1) nx).size ≤ 1125899906842624 from ⟨by have := hdText_size 83 (4 * (e + 1)) t; unfold stS; omega, by have := textS_size (e + 1) nx; omega⟩)
    have HWh := Lib.hid (show whatOf e (x, t, nx) = (stS e t, textS (e + 1) nx) from rfl)
    rw [hE, hSd, hCd] at CT
    have HAV := Lib.hid (show addE e l V x t nx sigs = 0 → addV e l V x t nx sigs = V ++ [(x, t, nx)] from fun h => by rw [addV, if_pos h])
    generalize stS e t = S at *
    generalize textS (e + 1) nx = C at *
    clear hE hSd hCd
    go_enter Try.func15, Try.ntmps15
    go_wp2_with fail
    refine CT.out.mono ?_
    rintro r w1 ⟨rfl, b1⟩
    have B1 := Lib.hid b1
    have HT1 := Lib.hid (HT.out.old b1)
    have K1 := Lib.hid (blk_below KP.out b1)
    obtain ⟨n1, D1, o1, hn1, v1⟩ := HT1.out.vm
    obtain ⟨s', c', t', a', n', d', hlk⟩ := look_vote o1 v1 hxx
    have p2 : w1.cell? ⟨p, 2, none⟩ = some (.map (some mv)) := by rw [blk_cell K1.out]; rfl
    have q0 : w1.cell? ⟨p, 0, none⟩ = some (.int .i64 e) := by rw [blk_cell K1.out]; rfl
    have q1 : w1.cell? ⟨p, 1, none⟩ = some (.slice a n c) := by rw [blk_cell K1.out]; rfl
    clear b1 p0 p1 CT o1 hn1 v1
    generalize hany : V.any (fun v => v.1 == x) = there at *
    go_upto_region 7 with (fail)
    clear p2 q0 q1 hlk
    obtain ⟨w2, hw2⟩ : ∃ w2, w2 = w1.alloc (.cells #[.string s', .string c', .string t', .slice a' n' d'] 81 (0, 0)) := ⟨_, rfl⟩
    rw [← hw2]
    have hb2 : Below w1.heap.size w1 w2 := by rw [hw2]; exact below_alloc _ _
    have B2 := Lib.hid (bthen B1.out hb2)
    have K2 := Lib.hid (blk_below K1.out hb2)
    have q0 : w2.cell? ⟨p, 0, none⟩ = some (.int .i64 e) := by rw [blk_cell K2.out]; rfl
    have q1 : w2.cell? ⟨p, 1, none⟩ = some (.slice a n c) := by rw [blk_cell K2.out]; rfl
    have CH := Lib.hid (has_any e a n c l x w2 (HL.out.below B2.out))
    clear hw2 hb2 K1 B1 HT1
    cases hh : hasB l x with
    | false =>
      rw [hh, if_pos rfl] at HA
      rw [hh] at CH
      go_wp2_with fail
      refine CH.out.mono ?_
      rintro r w3 ⟨rfl, b3⟩
      have B3 := Lib.hid (bthen B2.out b3)
      clear b3 q0 q1 CH
      go_wp2_with fail
      go_ret
      exact vadd_no HT.out B3.out HA.out (by decide)
    | true =>
      rw [hh, if_neg (by decide)] at HA
      rw [hh] at CH
      go_wp2_with fail
      refine CH.out.mono ?_
      rintro r w3 ⟨rfl, b3⟩
      have B3 := Lib.hid (bthen B2.out b3)
      have K3 := Lib.hid (blk_below K2.out b3)
      clear b3 q0 q1 CH B2 K2
      have hm := made_sigs w3 [(x, S), (x, C)] (fun s hs => by
        have := HSz.out
        simp at hs
        rcases hs with rfl | rfl
        · exact ⟨hxx, this.1⟩
        · exact ⟨hxx, this.2⟩) (by simp)
      simp only [sigV, List.flatMap_cons, List.flatMap_nil, List.append_nil, List.cons_append, List.nil_append, List.length_cons, List.length_nil, Nat.zero_add, Nat.reduceAdd] at hm
      have B4 := Lib.hid (bthen B3.out (below_alloc w3 (.cells #[.int .i64 x, .string S, .int .i64 x, .string C] 47 (0, 0))))
      have K4 := Lib.hid (blk_below K3.out (below_alloc w3 (.cells #[.int .i64 x, .string S, .int .i64 x, .string C] 47 (0, 0))))
      have CQ := Lib.hid (eqsigs_any sa sn sc sigs _ _ _ _ _ (HS.out.old B4.out) hm)
      clear hm B3 K3
      by_cases hq : sigs = [(x, S), (x, C)]
      · rw [if_pos hq] at HA
        rw [decide_eq_true hq] at CQ
        go_wp2_with fail
        refine CQ.out.mono ?_
        rintro r w5 ⟨rfl, q5, hw5⟩
        have B5 := Lib.hid (show Below w.heap.size w w5 by rw [hw5]; exact below_drewN B4.out q5)
        clear CQ hw5 B4 K4
        cases there with
        | true =>
          rw [if_pos rfl] at HA
          go_wp2_with fail
          go_ret
          exact vadd_no HT.out B5.out HA.out (by decide)
        | false =>
          rw [if_neg (by decide)] at HA
          go_upto_region 14 with (fail)
          obtain ⟨w6, hw6⟩ : ∃ w6, w6 = w5.alloc (.cells #[.string S, .string C] 79 (0, 0)) := ⟨_, rfl⟩
          rw [← hw6]
          have hb6 : Below w5.heap.size w5 w6 := by rw [hw6]; exact below_alloc _ _
          have B6 := Lib.hid (bthen B5.out hb6)
          have KQ := Lib.hid (show w6.heap[w5.heap.size]? = some (.cells #[.string S, .string C] 79 (0, 0)) by rw [hw6]; exact blk_alloc _ _)
          have K6 := Lib.hid (blk_below KP.out B6.out)
          have hz5 := B5.out.size
          have CO := Lib.hid (fun (w' : World) (hb' : Below w.heap.size w w') => clone_ints b m d nx w' (HX.out.below hb') hxn hxb)
          clear hw6 hb6 B5
          refine wp_region_made 10 (addR w.heap.size p mv x S C t b m d nx) (fun _ _ => none) rfl (by kernel_rfl) (by kernel_rfl) addR_stab (fun _ _ _ _ _ h => by cases h) (fun i o hi ho => ?_) (fun vs w7 hb7 hs hne => ?_)
          · intro ac wa hba hE hF K hK
            have b7 := below_undrew hba
            have KPa := blk_below K6.out b7
            have KQa := blk_below KQ.out b7
            have z1 : wa.cell? ⟨p, 2, none⟩ = some (.map (some mv)) := by rw [blk_cell KPa]; rfl
            have z2 : wa.cell? ⟨w5.heap.size, 0, none⟩ = some (.string S) := by rw [blk_cell KQa]; rfl
            have z3 : wa.cell? ⟨w5.heap.size, 1, none⟩ = some (.string C) := by rw [blk_cell KQa]; rfl
            have hW := (bthen B6.out b7).size
            have hno : ∀ k, (none : Option Nat) = some k → wa.heap.size ≤ k := fun _ h => by cases h
            have hi' : i = 0 ∨ i = 1 ∨ i = 2 ∨ i = 3 ∨ i = 4 ∨ i = 5 ∨ i = 6 ∨ i = 7 ∨ i = 8 ∨ i = 9 := by omega
            rcases hi' with rfl | rfl | rfl | rfl | rfl | rfl | rfl | rfl | rfl | rfl
            · obtain rfl := Option.some.inj ho
              have h1 : ac.eval (.tmp 0) = .pointer (some ⟨p, 0, none⟩) := hE 0 (by decide)
              exact news_val rfl rfl (by generalize ac.eval = ρ at h1; simp only [execOp]; go_simp) (hK _ _ (Below.refl _ _) rfl hno)
            · obtain rfl := Option.some.inj ho
              have h1 : ac.eval (.tmp 66) = .pointer (some ⟨p, 0, none⟩) := hF ⟨0, .data⟩ (by simp) rfl 66 rfl
              exact news_val rfl rfl (by generalize ac.eval = ρ at h1; simp only [execOp]; go_simp) (hK _ _ (Below.refl _ _) rfl hno)
            · obtain rfl := Option.some.inj ho
              have h1 : ac.eval (.tmp 67) = .pointer (some ⟨p, 0, none⟩) := hF ⟨1, .data⟩ (by simp) rfl 67 rfl
              exact news_val rfl rfl (by generalize ac.eval = ρ at h1; simp only [execOp]; go_simp) (hK _ _ (Below.refl _ _) rfl hno)
            · obtain rfl := Option.some.inj ho
              have h1 : ac.eval (.tmp 68) = .pointer (some ⟨p, 2, none⟩) := hF ⟨2, .data⟩ (by simp) rfl 68 rfl
              exact news_val rfl rfl (by generalize ac.eval = ρ at h1; simp only [execOp]; go_simp) (hK _ _ (Below.refl _ _) rfl hno)
            · obtain rfl := Option.some.inj ho
              have h1 : ac.eval (.tmp 1) = .int .i64 x := hE 1 (by decide)
              exact news_val rfl rfl (by generalize ac.eval = ρ at h1; simp only [execOp]; go_simp) (hK _ _ (Below.refl _ _) rfl hno)
            · obtain rfl := Option.some.inj ho
              have h1 : ac.eval (.tmp 16) = .pointer (some ⟨w5.heap.size, 0, none⟩) := hE 16 (by decide)
              exact news_val rfl rfl (by generalize ac.eval = ρ at h1; simp only [execOp]; go_simp) (hK _ _ (Below.refl _ _) rfl hno)
            · obtain rfl := Option.some.inj ho
              have h1 : ac.eval (.tmp 2) = .string t := hE 2 (by decide)
              exact news_val rfl rfl (by generalize ac.eval = ρ at h1; simp only [execOp]; go_simp) (hK _ _ (Below.refl _ _) rfl hno)
            · obtain rfl := Option.some.inj ho
              have h1 : ac.eval (.tmp 3) = .slice b m d := hE 3 (by decide)
              exact news_val rfl rfl (by generalize ac.eval = ρ at h1; simp only [execOp]; go_simp) (hK _ _ (Below.refl _ _) rfl hno)
            · obtain rfl := Option.some.inj ho
              have h1 : ac.eval (.tmp 73) = .slice b m d := hF ⟨7, .data⟩ (by simp) rfl 73 rfl
              have h2 : ac.eval (.func 35) = .func (.func 35) #[] #[] := rfl
              refine made_call rfl rfl 35 #[.slice b m d] (by generalize ac.eval = ρ at h1 h2; simp only [execOp]; go_simp) (CO.out _ (bthen B6.out b7)) ?_
              rintro r w6 ⟨v6, rfl, ho6, b6⟩
              obtain ⟨a6, c6, rfl⟩ := owns_form ho6
              exact ⟨_, rfl, hK _ _ b6 ⟨a6, c6, rfl, owns_lower ho6 hW⟩ (fun _ h => by cases h)⟩
            · obtain rfl := Option.some.inj ho
              have h1 : ac.eval (.tmp 71) = .agg #[.string S, .string C] := hF ⟨5, .data⟩ (by simp) rfl 71 rfl
              have h2 : ac.eval (.tmp 72) = .string t := hF ⟨6, .data⟩ (by simp) rfl 72 rfl
              obtain ⟨a6, c6, h3, h4⟩ : ∃ a' c', ac.eval (.tmp 74) = .slice a' m c' ∧ wa.ownsRow w.heap.size 3 1 (.slice a' m c') m (intsV nx) := hF ⟨8, .data⟩ (by simp) rfl 74 rfl
              exact news_val rfl rfl (by generalize ac.eval = ρ at h1 h2 h3; simp only [execOp]; go_simp) (hK _ _ (Below.refl _ _) ⟨a6, c6, rfl, h4⟩ hno)
          · have e0 : vs 0 = _ := hs 0 (by omega)
            have e1 : vs 1 = _ := hs 1 (by omega)
            have e2 : vs 2 = _ := hs 2 (by omega)
            have e3 : vs 3 = _ := hs 3 (by omega)
            have e4 : vs 4 = _ := hs 4 (by omega)
            have e5 : vs 5 = _ := hs 5 (by omega)
            have e6 : vs 6 = _ := hs 6 (by omega)
            have e7 : vs 7 = _ := hs 7 (by omega)
            obtain ⟨a8, c8, e8, -⟩ : ∃ a' c', vs 8 = .slice a' m c' ∧ w7.ownsRow w.heap.size 3 1 (.slice a' m c') m (intsV nx) := hs 8 (by omega)
            obtain ⟨a6, c6, e9, ho6⟩ : ∃ a' c', vs 9 = .agg #[.string S, .string C, .string t, .slice a' m c'] ∧ w7.ownsRow w.heap.size 3 1 (.slice a' m c') m (intsV nx) := hs 9 (by omega)
            show wpList _ _ _ _ ((((((((((Act.put _ (some 66) (vs 0)).put (some 67) (vs 1)).put (some 68) (vs 2)).put (some 69) (vs 3)).put (some 70) (vs 4)).put (some 71) (vs 5)).put (some 72) (vs 6)).put (some 73) (vs 7)).put (some 74) (vs 8)).put (some 75) (vs 9)) _
            rw [e0, e1, e2, e3, e4, e5, e6, e7, e8, e9]
            clear e0 e1 e2 e3 e4 e5 e6 e7 e8 e9 hs hne vs
            have B7 := Lib.hid (bthen B6.out hb7)
            have HO6 := Lib.hid ho6
            have KQ7 := Lib.hid (blk_below KQ.out hb7)
            obtain ⟨n1, D1, o1, hn1, v1⟩ := HT.out.vm
            have T1 := Lib.hid (o1.tidy intK)
            have O1 := Lib.hid (raw_block o1 (B7.out.block _ o1.lt))
            have V1 := Lib.hid v1
            have hten := HVok.out.ten
            clear hb7 ho6 o1 v1 B6 K6 KQ CO
            simp only [List.drop_succ_cons, List.drop_zero, Act.put, List.setIfInBounds_toArray, List.set_cons_succ, List.set_cons_zero]
            go_wp2_with (first | (at_mapUpdate; refine wpList_mapUpdate_own _ rfl (.tmp 69) (.tmp 70) (.tmp 75) 74 rfl 3 81 intK Try.underlying74 rawE mv n1 D1 rfl O1.out (by unfold maxLen; omega) (.int .i64 x) (.agg #[.string S, .string C, .string t, .slice a6 m c6]) (.int .i64 x) rfl rfl (intKey15 x hxx) (.held (.agg #[.string S, .string C, .string t, .slice a6 m c6])) [] rfl ?_) | fail)
            intro w8 ho8 hg8
            have B78 : Keep (fun k => k = mv ∨ k = mc) w w8 := (Keep.of_below B7.out).grown hg8 (fun k hk => .inr (by injection hk with hk; exact .inl hk.symm))
            obtain ⟨n2, D2, o2, hn2, v2⟩ := HT.out.cm
            have hne := HT.out.ne
            have hlt := HT.out.lt
            have hmine := HT.out.mine
            have o2' : w8.ownsMap Try.prog 79 intE mc n2 D2 := owns_block o2 (by rw [hg8.block _ (Nat.lt_of_lt_of_le o2.lt B7.out.size) (fun e => by injection e with e; exact hne.2.2 e.symm), B7.out.block _ o2.lt])
            have kp : w8.heap[p]? = some (.cells #[.int .i64 e, .slice a n c, .map (some mv), .map (some mc)] 77 (0, 0)) := by
              have h1 := blk_below KP.out B7.out
              rw [hg8.block _ (blk_lt h1) (fun e => by injection e with e; exact hne.1 e)]
              exact h1
            have hq5 : w5.heap.size ≠ mv := fun h => by have := hlt mv hmine.2.1; omega
            have kq : w8.heap[w5.heap.size]? = some (.cells #[.string S, .string C] 79 (0, 0)) := by
              rw [hg8.block _ (blk_lt KQ7.out) (fun e => by injection e with e; exact hq5 e)]
              exact KQ7.out
            have HO8 := Lib.hid (owns_keep (X := fun k => k = mv) HO6.out ((Keep.refl (fun k => k = mv) w7).grown hg8 (fun k hk => .inr (by injection hk with hk; exact hk.symm))) (fun k hk hm => by
              have := (HO6.out.lt k hk).1
              have := hlt mv hmine.2.1
              omega))
            have OM8 := Lib.hid ho8
            have hsz := HSz.out
            have T2 := Lib.hid o2.isMap
            obtain ⟨c0, v, st, w9, hl0, hat, hwc, hme, hg9, hl9, hst⟩ := entry_int (w := w8.drew) o2' whLaw Try.underlying75 Try.underlying3 zeroInt (by unfold maxLen; omega) (whKey hsz)
            have hc0 : c0 = (cntW e V S C : Int) := by rw [v2 S C hsz] at hat; simpa using hat.symm
            subst hc0
            have hcn : cntW e V S C ≤ 10 := Nat.le_trans (List.length_filter_le _ _) hten
            have hwr : IntKind.i64.wrap ((cntW e V S C : Int) + 1) = (cntW e V S C : Int) + 1 := IntWalk.i64_in _ (by omega)
            obtain ⟨w10, hes, ho10, hg10⟩ := hst ((cntW e V S C : Int) + 1) (Go.WalkArith.wf_i64 (by omega))
            replace hes : (Instr.entryStore 75 (.map (some mc)) (.int .i64 st) (.int .i64 ((cntW e V S C : Int) + 1))).run Try.prog w9 = .ok () w10 := hes
            have hpm : p ≠ mc := hne.2.1
            have hqm : w5.heap.size ≠ mc := fun h => by have := hlt mc hmine.2.2; omega
            have kq9 := hg9.block _ (blk_lt kq) (fun e => by injection e with e; exact hqm e)
            have kp9 := hg9.block _ (blk_lt kp) (fun e => by injection e with e; exact hpm e)
            have kq' : w8.drew.heap[w5.heap.size]? = some (.cells #[.string S, .string C] 79 (0, 0)) := kq
            have kp' : w8.drew.heap[p]? = some (.cells #[.int .i64 e, .slice a n c, .map (some mv), .map (some mc)] 77 (0, 0)) := kp
            rw [kq'] at kq9
            rw [kp'] at kp9
            have p0 : w8.drew.cell? ⟨p, 3, none⟩ = some (.map (some mc)) := by rw [blk_cell kp']; rfl
            have q0 : w8.drew.cell? ⟨w5.heap.size, 0, none⟩ = some (.string S) := by rw [blk_cell kq']; rfl
            have q1 : w8.drew.cell? ⟨w5.heap.size, 1, none⟩ = some (.string C) := by rw [blk_cell kq']; rfl
            have p09 : w9.cell? ⟨p, 3, none⟩ = some (.map (some mc)) := by rw [blk_cell kp9]; rfl
            have q09 : w9.cell? ⟨w5.heap.size, 0, none⟩ = some (.string S) := by rw [blk_cell kq9]; rfl
            have q19 : w9.cell? ⟨w5.heap.size, 1, none⟩ = some (.string C) := by rw [blk_cell kq9]; rfl
            have K810 : Keep (fun k => k = mc) w8 w10 := (show Keep (fun k => k = mc) w8 w8.drew from ⟨rfl, rfl, rfl, Nat.le_refl _, fun _ _ _ => rfl⟩).grown hg10 (fun k hk => .inr (by injection hk with hk; exact hk.symm))
            have hA0 : addE e l V x t nx sigs = 0 := HA.out
            have HF := Lib.hid (show VAddPost M p mv mc e l V x t nx sigs w (.returned (.int .i64 0)) w10 from by
              refine ⟨by rw [hA0], B78.trans K810 (fun k _ hk => .inr hk), ?_⟩
              rw [HAV.out hA0]
              have hO10 := owns_keep HO8.out K810 (fun k hk hm => by
                have := (HO6.out.lt k hk).1
                have := hlt mc hmine.2.2
                omega)
              have om10 := raw_block OM8.out (K810.block _ OM8.out.lt hne.2.2)
              exact tal_add HT.out hxx (B78.trans K810 (fun k _ hk => .inr hk)) hn1 V1.out hn2 v2 T1.out T2.out hany (by rw [HWh.out]; exact hsz) (by rw [HWh.out]; exact om10) (by rw [HWh.out]; exact ho10) hO10 HX.out.len HX.out.fit hxb)
            clear hg8 ho8 B78 o2 o2' v2 hne hlt hmine kp kq hq5 hat hwc kq9 kp9 kq' kp' hst ho10 hg10 hg9 K810 hcn hn2 hA0 HO8 OM8 HO6 KQ7 B7 O1 V1 T1 T2
            generalize ((cntW e V S C : Nat) : Int) = cN at *
            go_upto_region 15 with (fail)
            refine wp_region_one 9 7 (fun i => match i with
              | 0 => .pointer (some ⟨p, 0, none⟩)
              | 1 => .pointer (some ⟨p, 0, none⟩)
              | 2 => .pointer (some ⟨p, 3, none⟩)
              | 3 => .map (some mc)
              | 4 => .agg #[.string S, .string C]
              | 5 => .int .i64 cN
              | 6 => .int .i64 (cN + 1)
              | 7 => .tuple #[v, .int .i64 st]
              | _ => .int .i64 st) w9 rfl (by omega) (by kernel_rfl) (by kernel_rfl) (fun i o hi hik ho => ?_) (fun o ho => ?_) ?_
            · have hi' : i = 0 ∨ i = 1 ∨ i = 2 ∨ i = 3 ∨ i = 4 ∨ i = 5 ∨ i = 6 ∨ i = 8 := by omega
              rcases hi' with rfl | rfl | rfl | rfl | rfl | rfl | rfl | rfl
              · obtain rfl := Option.some.inj ho
                refine ⟨fun a hE hF K hK => ?_, fun a hE hF K hK => ?_⟩
                all_goals (have g0 : a.eval (.tmp 0) = .pointer (some ⟨p, 0, none⟩) := hE 0 (by decide); exact news_val rfl rfl (by generalize a.eval = ρ at g0; simp only [execOp]; go_simp) hK)
              · obtain rfl := Option.some.inj ho
                refine ⟨fun a hE hF K hK => ?_, fun a hE hF K hK => ?_⟩
                all_goals (have g0 : a.eval (.tmp 76) = .pointer (some ⟨p, 0, none⟩) := hF ⟨0, .data⟩ (by simp) rfl 76 rfl; exact news_val rfl rfl (by generalize a.eval = ρ at g0; simp only [execOp]; go_simp) hK)
              · obtain rfl := Option.some.inj ho
                refine ⟨fun a hE hF K hK => ?_, fun a hE hF K hK => ?_⟩
                all_goals (have g0 : a.eval (.tmp 77) = .pointer (some ⟨p, 0, none⟩) := hF ⟨1, .data⟩ (by simp) rfl 77 rfl; exact news_val rfl rfl (by generalize a.eval = ρ at g0; simp only [execOp]; go_simp) hK)
              · obtain rfl := Option.some.inj ho
                refine ⟨fun a hE hF K hK => ?_, fun a hE hF K hK => ?_⟩
                all_goals (have g0 : a.eval (.tmp 78) = .pointer (some ⟨p, 3, none⟩) := hF ⟨2, .data⟩ (by simp) rfl 78 rfl; exact news_val rfl rfl (by generalize a.eval = ρ at g0; simp only [execOp]; go_simp) hK)
              · obtain rfl := Option.some.inj ho
                refine ⟨fun a hE hF K hK => ?_, fun a hE hF K hK => ?_⟩
                all_goals (have g0 : a.eval (.tmp 16) = .pointer (some ⟨w5.heap.size, 0, none⟩) := hE 16 (by decide); exact news_val rfl rfl (by generalize a.eval = ρ at g0; simp only [execOp]; go_simp) hK)
              · obtain rfl := Option.some.inj ho
                refine ⟨fun a hE hF K hK => ?_, fun a hE hF K hK => ?_⟩
                all_goals (have g0 : a.eval (.tmp 79) = .map (some mc) := hF ⟨3, .data⟩ (by simp) rfl 79 rfl; have g1 : a.eval (.tmp 80) = .agg #[.string S, .string C] := hF ⟨4, .data⟩ (by simp) rfl 80 rfl; exact news_val rfl rfl (by generalize a.eval = ρ at g0 g1; simp only [execOp]; unfold whV at *; go_simp) hK)
              · obtain rfl := Option.some.inj ho
                refine ⟨fun a hE hF K hK => ?_, fun a hE hF K hK => ?_⟩
                all_goals (have g0 : a.eval (.tmp 81) = .int .i64 cN := hF ⟨5, .data⟩ (by simp) rfl 81 rfl; have g1 : a.eval (.const (.int .i64 1)) = .int .i64 1 := rfl; exact news_val rfl rfl (by generalize a.eval = ρ at g0 g1; simp only [execOp]; go_simp) hK)
              · obtain rfl := Option.some.inj ho
                refine ⟨fun a hE hF K hK => ?_, fun a hE hF K hK => ?_⟩
                all_goals (have g0 : a.eval (.tmp 83) = .tuple #[v, .int .i64 st] := hF ⟨7, .data⟩ (by simp) rfl 83 rfl; exact news_val rfl rfl (by generalize a.eval = ρ at g0; simp only [execOp]; go_simp) hK)
            · obtain rfl := Option.some.inj ho
              intro a hE hF K hK
              have g0 : a.eval (.tmp 79) = .map (some mc) := hF ⟨3, .data⟩ (by simp) rfl 79 rfl
              have g1 : a.eval (.tmp 80) = .agg #[.string S, .string C] := hF ⟨4, .data⟩ (by simp) rfl 80 rfl
              exact news_val rfl rfl (by generalize a.eval = ρ at g0 g1; simp only [execOp]; unfold whV at *; go_simp) hK
            · show wpList _ _ _ _ (((((((((Act.put _ (some 76) (.pointer (some ⟨p, 0, none⟩))).put (some 77) (.pointer (some ⟨p, 0, none⟩))).put (some 78) (.pointer (some ⟨p, 3, none⟩))).put (some 79) (.map (some mc))).put (some 80) (.agg #[.string S, .string C])).put (some 81) (.int .i64 cN)).put (some 82) (.int .i64 (cN + 1))).put (some 83) (.tuple #[v, .int .i64 st])).put (some 84) (.int .i64 st)) _
              simp only [List.drop_succ_cons, List.drop_zero, Act.put, List.setIfInBounds_toArray, List.set_cons_succ, List.set_cons_zero]
              go_wp2_with fail
              go_ret
              exact HF.out
      · rw [if_neg hq] at HA
        rw [decide_eq_false hq] at CQ
        go_wp2_with fail
        refine CQ.out.mono ?_
        rintro r w5 ⟨rfl, q5, rfl⟩
        have B5 := Lib.hid (below_drewN B4.out q5)
        clear CQ
        go_wp2_with fail
        go_ret
        exact vadd_no HT.out B5.out HA.out (by decide)
end Go.Proofs.Ytfhbjajhmegdmaa
