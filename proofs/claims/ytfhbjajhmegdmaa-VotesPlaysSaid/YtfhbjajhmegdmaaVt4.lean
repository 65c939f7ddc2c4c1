
/- slices.Equal at signatures; the program's Add. -/
import Derived.Test.YtfhbjajhmegdmaaVt3
import Derived.Test.YtfhbjajhmegdmaaNews
import Derived.Test.YtfhbjajhmegdmaaSm
import Derived.Deep.AppendLies
import Derived.Laws.ResultCell
namespace Go.Proofs.Ytfhbjajhmegdmaa
set_option maxRecDepth 100000
open Go.RowKit Go.Maps
set_option linter.unusedVariables false
set_option linter.unusedSimpArgs false

set_option maxHeartbeats 400000 in
theorem eqsigs_any (a : Option Addr) (n c : Nat) (l : List Sg) (a' : Option Addr) (n' c' : Nat) (l' : List Sg) (w : World) (h : SlAt shSig w a n c l) (h' : SlAt shSig w a' n' c' l') :
    Calls Try.prog 37 #[.slice a n c, .slice a' n' c'] w fun e w' => e = .returned (.bool (decide (l = l'))) ∧ ∃ q, w' = w.drewN q := by
  have hmax := h.max
  have hcap := h.cap
  have hmax' := h'.max
  have hcap' := h'.cap
  have hlen := h.len
  have hlen' := h'.len
  have H := Lib.hid h; clear h
  have H' := Lib.hid h'; clear h'
  by_cases hnn : n = n'
  · subst hnn
    have hn0 : ((n : Int) != n) = false := by simp
    have hfin : ∀ k, k = n → l.take k = l'.take k → decide (l = l') = true := fun k hk ht => by
      rw [List.take_of_length_le (by omega), List.take_of_length_le (by omega)] at ht
      simp [ht]
    have Hfin := Lib.hid hfin; have Hlen := Lib.hid hlen; have Hlen' := Lib.hid hlen'
    clear hfin hlen hlen'
    go_enter Try.func37, Try.ntmps37
    go_wp2_with fail
    go_loopw [13] (fun i wr => ∃ k q : Nat, k ≤ n ∧ i = .int .i64 k ∧ wr = w.drewN q ∧ Hid (l.take k = l'.take k)) (fun i _ => n - (intOf i).toNat)
    case atStart => exact ⟨0, 0, by omega, rfl, rfl, Lib.hid (by simp)⟩
    case round =>
      obtain ⟨k, q, hk, rfl, rfl, ht⟩ := hrel
      by_cases hlt : k < n
      · have hd : decide ((k : Int) < (n : Int)) = true := by simp; omega
        obtain ⟨b, o, x, t, rfl, hy, x0, x1, -, -⟩ := sig_cells H.out hlt
        obtain ⟨b', o', x', t', rfl, hy', y0, y1, -, -⟩ := sig_cells H'.out hlt
        have hneq := fun w => run_neq_sig w x t x' t'
        by_cases hne : ((x, t) : Sg) = (x', t')
        · rw [decide_eq_true hne] at hneq
          have ht' := Lib.hid (show l.take (k + 1) = l'.take (k + 1) by
            rw [List.take_add_one, List.take_add_one, ht.out, hy, hy', hne])
          clear hy hy' ht
          go_wp2_with fail
          go_quiet (fail)
          go_wp2_with fail
          go_roundw
          case rel => exact ⟨k + 1, q + nq, by omega, by go_num, by simp, ht'⟩
          case measure => simp [intOf]; omega
        · rw [decide_eq_false hne] at hneq
          have hno := Lib.hid (show decide (l = l') = false by
            rw [decide_eq_false_iff_not]
            rintro rfl
            rw [hy] at hy'
            injection hy' with hy'
            exact hne hy')
          clear hy hy' ht
          go_wp2_with fail
          go_quiet (fail)
          go_wp2_with fail
          go_ret
          exact ⟨by rw [hno.out]; rfl, q + nq, by simp⟩
      · have hd : decide ((k : Int) < (n : Int)) = false := by simp; omega
        have hy := Lib.hid (Hfin.out k (by omega) ht.out)
        clear ht
        go_wp2_with fail
        go_ret
        exact ⟨by rw [hy.out]; rfl, q, rfl⟩
  · have hne : ((n : Int) != n') = true := by simp; omega
    have hno := Lib.hid (show decide (l = l') = false by
      rw [decide_eq_false_iff_not]; rintro rfl; omega)
    clear hlen hlen'
    go_enter Try.func37, Try.ntmps37
    go_wp2_with fail
    go_ret
    exact ⟨by rw [hno.out]; rfl, 0, rfl⟩
theorem look_vote {w : World} {mv n : Nat} {D : DataW Value} {X : Nat → Prop} {e : Int} {V : List Vt} (ho : w.ownsMap Try.prog 3 rawE mv n D) (hv : VMap X w e V D) {x : Int} (hx : i64 x) :
    ∃ s c t a n d, (Instr.lookup 74 (.map (some mv)) (.int .i64 x) true).run Try.prog w = .ok (.tuple #[.agg #[.string s, .string c, .string t, .slice a n d], .bool (V.any fun v => v.1 == x)]) w := by
  obtain ⟨v, ps, hrun, hR⟩ := ho.look_ok intK Try.underlying74 (zeroVote w) (zd := .held (voteV ⟨#[]⟩ ⟨#[]⟩ ⟨#[]⟩ none 0 0)) (zp := []) rfl (intKey15 x hx)
  rw [hv.has x hx] at hrun
  simp only [rawE, Option.some.injEq, Prod.mk.injEq] at hR
  cases hh : V.any (fun v => v.1 == x) with
  | false =>
    rw [hh] at hrun
    have h0 := hv.has x hx
    rw [hh] at h0
    rw [atKey_of_not_has h0] at hR
    injection hR.1 with h1
    rw [h1] at hrun
    exact ⟨_, _, _, _, _, _, hrun⟩
  | true =>
    rw [hh] at hrun
    rw [List.any_eq_true] at hh
    obtain ⟨u, hu, hux⟩ := hh
    have hux : u.1 = x := by simpa using hux
    obtain ⟨a, n, d, g1, g2⟩ := hv.get u hu
    rw [hux] at g1
    rw [g1] at hR
    injection hR.1 with h1
    rw [h1] at hrun
    exact ⟨_, _, _, _, _, _, hrun⟩

def addR (W p mv : Nat) (x : Int) (s c t : ByteArray) (b : Option Addr) (m d : Nat) (nx : List Int) : Nat → World → Value → Prop
  | 0 => fun _ v => v = .pointer (some ⟨p, 0, none⟩)
  | 1 => fun _ v => v = .pointer (some ⟨p, 0, none⟩)
  | 2 => fun _ v => v = .pointer (some ⟨p, 2, none⟩)
  | 3 => fun _ v => v = .map (some mv)
  | 4 => fun _ v => v = .int .i64 x
  | 5 => fun _ v => v = .agg #[.string s, .string c]
  | 6 => fun _ v => v = .string t
  | 7 => fun _ v => v = .slice b m d
  | 8 => fun w v => ∃ a' c', v = .slice a' m c' ∧ w.ownsRow W 3 1 (.slice a' m c') m (intsV nx)
  | 9 => fun w v => ∃ a' c', v = .agg #[.string s, .string c, .string t, .slice a' m c'] ∧ w.ownsRow W 3 1 (.slice a' m c') m (intsV nx)
  | _ => fun _ _ => False
theorem addR_stab {W p mv : Nat} {x : Int} {s c t : ByteArray} {b : Option Addr} {m d : Nat} {nx : List Int} : ∀ i w w' v, addR W p mv x s c t b m d nx i w v → Below w.heap.size w w' → addR W p mv x s c t b m d nx i w' v
  | 0, w, w', v, h, hb => h
  | 1, w, w', v, h, hb => h
  | 2, w, w', v, h, hb => h
  | 3, w, w', v, h, hb => h
  | 4, w, w', v, h, hb => h
  | 5, w, w', v, h, hb => h
  | 6, w, w', v, h, hb => h
  | 7, w, w', v, h, hb => h
  | 8, w, w', v, ⟨a', c', h1, h2⟩, hb => ⟨a', c', h1, owns_old h2 hb⟩
  | 9, w, w', v, ⟨a', c', h1, h2⟩, hb => ⟨a', c', h1, owns_old h2 hb⟩
  | _ + 10, w, w', v, h, hb => h

def VAddPost (M : Nat → Prop) (p mv mc : Nat) (e : Int) (l : List Int) (V : List Vt) (x : Int) (t : ByteArray) (nx : List Int) (sigs : List Sg) (w : World) (r : Ending) (w' : World) : Prop :=
  r = .returned (.int .i64 (addE e l V x t nx sigs)) ∧ Keep (fun k => k = mv ∨ k = mc) w w' ∧ ∃ M' : Nat → Prop, (∀ k, M' k → M k ∨ w.heap.size ≤ k) ∧ TalAt M' w' p mv mc e l (addV e l V x t nx sigs)
theorem vadd_no {M : Nat → Prop} {w w' : World} {p mv mc : Nat} {e : Int} {l : List Int} {V : List Vt} {x : Int} {t : ByteArray} {nx : List Int} {sigs : List Sg} {z : Int} (h : TalAt M w p mv mc e l V) (hb : Below w.heap.size w w') (hz : addE e l V x t nx sigs = z) (hz0 : z ≠ 0) :
    VAddPost M p mv mc e l V x t nx sigs w (.returned (.int .i64 z)) w' :=
  ⟨by rw [hz], Keep.of_below hb, M, fun k hk => .inl hk, by rw [addV, if_neg (by rw [hz]; exact hz0)]; exact h.old hb⟩

theorem tal_add {M : Nat → Prop} {w w9 : World} {p mv mc : Nat} {e : Int} {l : List Int} {V : List Vt} {x : Int} {t : ByteArray} {nx : List Int} {a6 : Option Addr} {m c6 n1 n2 : Nat} {D1 : DataW Value} {D2 : DataW Unit} (h : TalAt M w p mv mc e l V) (hxx : i64 x) (hk : Keep (fun k => k = mv ∨ k = mc) w w9)
    (hn1 : n1 ≤ V.length) (v1 : VMap (Free M p mv mc) w e V D1) (hn2 : n2 ≤ V.length) (v2 : CMap e V D2) (T1 : Tidy D1) (T2 : IsMap D2) (hno : V.any (fun v => v.1 == x) = false) (hS : whOk (whatOf e (x, t, nx)).1 (whatOf e (x, t, nx)).2)
    (o1 : w9.ownsMap Try.prog 3 rawE mv (n1 + 1) (D1.put (.int .i64 x) (.held (voteV (whatOf e (x, t, nx)).1 (whatOf e (x, t, nx)).2 t a6 m c6))))
    (o2 : w9.ownsMap Try.prog 79 intE mc (n2 + 1) (D2.put (whL (whatOf e (x, t, nx)).1 (whatOf e (x, t, nx)).2) (li ((cntW e V (whatOf e (x, t, nx)).1 (whatOf e (x, t, nx)).2 : Nat) + 1))))
    (ho : w9.ownsRow w.heap.size 3 1 (.slice a6 m c6) m (intsV nx)) (hl : nx.length = m) (hf : ∀ y ∈ nx, i64 y) (hb : m * 8 ≤ 140737488355328) :
    ∃ M' : Nat → Prop, (∀ k, M' k → M k ∨ w.heap.size ≤ k) ∧ TalAt M' w9 p mv mc e l (V ++ [(x, t, nx)]) := by
  have hkx : WideAt.IsKeyLit (.int .i64 x) := intK.key (intKey15 x hxx)
  have hh := v1.has x hxx
  rw [hno] at hh
  obtain ⟨a, n, c, hbx, hr⟩ := h.box
  have hF : ∀ k, k < w.heap.size → Free (fun k => M k ∨ (Value.slice a6 m c6).ownBlock = some k) p mv mc k → Free M p mv mc k := fun k hk h => by
    rcases h with h | h
    · exact .inl (fun hm => h (.inl hm))
    · exact .inr h
  have hFk : ∀ k, k < w.heap.size → (k = mv ∨ k = mc) → Free M p mv mc k := fun k _ h => .inr (.inr h)
  have hpl := h.lt p h.mine.1
  have hvl := h.lt mv h.mine.2.1
  have hcl := h.lt mc h.mine.2.2
  refine ⟨fun k => M k ∨ (Value.slice a6 m c6).ownBlock = some k, fun k hk => ?_, ⟨fun k hk' => ?_, ⟨.inl h.mine.1, .inl h.mine.2.1, .inl h.mine.2.2⟩, h.ne, h.ep, ⟨a, n, c, ?_, hr.step hk hFk hF⟩, ⟨n1 + 1, _, o1, by simp; omega, ⟨?_, fun y hy => ?_, fun v hv => ?_⟩⟩, ⟨n2 + 1, _, o2, by simp; omega, fun s c hsc => ?_⟩⟩⟩
  · rcases hk with hk | hk
    · exact .inl hk
    · exact .inr (ho.lt k hk).1
  · rcases hk' with hk' | hk'
    · exact Nat.lt_of_lt_of_le (h.lt k hk') hk.size
    · exact (ho.lt k hk').2
  · rw [hk.block p hpl (fun hc => by rcases hc with hc | hc; exact h.ne.1 hc; exact h.ne.2.1 hc)]; exact hbx
  · rw [size_put T1, hh, v1.size]; simp
  · rw [List.any_append, ← v1.has y hy]
    by_cases he : y = x
    · subst he
      rw [has_put_same T1.isMap hkx]; simp
    · rw [has_put_other (by intro h; injection h with _ h; exact he h)]
      have : (x == y) = false := by simp; exact fun h => he h.symm
      simp [this]
  · rw [List.mem_append, List.mem_singleton] at hv
    rcases hv with hv | rfl
    · obtain ⟨a', n', d', g1, g2⟩ := v1.get v hv
      refine ⟨a', n', d', fun z => ?_, g2.step hk hFk hF⟩
      rw [atKey_put_other (by
        intro h
        injection h with _ h
        have : V.any (fun v => v.1 == x) = true := any_iff.2 (List.mem_map.2 ⟨v, hv, h⟩)
        rw [hno] at this; cases this)]
      exact g1 z
    · refine ⟨a6, m, c6, fun z => by rw [atKey_put_same T1.isMap hkx], fun w' hk' => ints_row (owns_keep ho hk' (fun k hk1 hx => ?_)) hl hf hb⟩
      have := (ho.lt k hk1).1
      rcases hx with hx | hx | hx | hx
      · exact hx (.inr hk1)
      · omega
      · omega
      · omega
  · rw [cntW_snoc]
    by_cases he : whatOf e (x, t, nx) = (s, c)
    · rw [he]
      rw [atKey_put_same T2 (whK.key (whKey hsc)), if_pos rfl]; rfl
    · have hne : whL s c ≠ whL (whatOf e (x, t, nx)).1 (whatOf e (x, t, nx)).2 := fun h => he (whL_inj hS hsc h.symm)
      rw [atKey_put_other hne, if_neg he]
      exact v2 s c hsc

set_option maxHeartbeats 4000000 in
theorem vadd_any (M : Nat → Prop) (p mv mc : Nat) (e : Int) (l : List Int) (V : List Vt) (x : Int) (t : ByteArray) (b : Option Addr) (m d : Nat) (nx : List Int) (sa : Option Addr) (sn sc : Nat) (sigs : List Sg) (w : World)
    (h : TalAt M w p mv mc e l V) (hV : VOk e l V) (hxx : i64 x) (ht : t.size ≤ 140737488355328) (hx : IntsAt w b m nx) (hxn : b = none → d = 0 ∧ m = 0) (hxb : m * 8 ≤ 140737488355328) (hs : SlAt shSig w sa sn sc sigs) :
    Calls Try.prog 15 #[.pointer (some ⟨p, 0, none⟩), .int .i64 x, .string t, .slice b m d, .slice sa sn sc] w (VAddPost M p mv mc e l V x t nx sigs w) := by
  obtain ⟨a, n, c, hb, hr⟩ := h.box
  have he := h.ep
  have HT := Lib.hid h; have HVok := Lib.hid hV; have HX := Lib.hid hx; have HS := Lib.hid hs
  have KP := Lib.hid hb
  have HL := Lib.hid (ints_of_sl hr.self)
  have p0 : w.cell? ⟨p, 0, none⟩ = some (.int .i64 e) := by rw [blk_cell hb]; rfl
  have p1 : w.cell? ⟨p, 1, none⟩ = some (.slice a n c) := by rw [blk_cell hb]; rfl
  have CT := Lib.hid (vtexts_any e a n c l t b m d nx w he HL.out ht hx)
  have HA := Lib.hid (show addE e l V x t nx sigs = if vGood e l t nx = false then 1 else if hasB l x = false then 8 else if sigs = [(x, stS e t), (x, textS (e + 1) nx)] then (if V.any (fun v => v.1 == x) = true then 7 else 0) else 16 from rfl)
  clear h hV hx hs hb hr
  cases hG : vGood e l t nx with
  | false =>
    rw [hG, if_pos rfl] at HA
    have hE : vE e l t nx = 1 := by rw [vE, hG]; rfl
    rw [hE] at CT
    generalize vS e l t nx = S at *
    generalize vC e l t nx = C at *
    go_enter Try.func15, Try.ntmps15
    go_wp2_with fail
    refine CT.out.mono ?_
    rintro r w1 ⟨rfl, b1⟩
    have B1 := Lib.hid b1
    clear b1 p0 p1
    go_wp2_with fail
    go_ret
    exact vadd_no HT.out B1.out HA.out (by decide)
  | true =>
    rw [hG, if_neg (by decide)] at HA
    have hE : vE e l t nx = 0 := by rw [vE, hG]; rfl
    have hSd : vS e l t nx = stS e t := by rw [vS, hG]; rfl
    have hCd : vC e l t nx = textS (e + 1) nx := by rw [vC, hG]; rfl
    have HSz := Lib.hid (show (stS e t).size ≤ 1125899906842624 ∧ (textS (e + 1) nx).size ≤ 1125899906842624 from ⟨by have := hdText_size 83 (4 * (e + 1)) t; unfold stS; omega, by have := textS_size (e + 1) nx; omega⟩)
    have HWh := Lib.hid (show whatOf e (x, t, nx) = (stS e t, textS (e + 1) nx) from rfl)
    rw [hE, hSd, hCd] at CT
    have HAV := Lib.hid (show addE e l V x t nx sigs = 0 → addV e l V x t nx sigs = V ++ [(x, t, nx)] from fun h => by rw [addV, if_pos h])
    generalize stS e t = S at *
    generalize textS (e + 1) nx = C at *
    clear hE hSd hCd
    go_enter Try.func15, Try.ntmps15
    go_wp2_with fail
    refine CT.out.mono ?_
    rintro r w1 ⟨rfl, b1⟩
    have B1 := Lib.hid b1
    have HT1 := Lib.hid (HT.out.old b1)
    have K1 := Lib.hid (blk_below KP.out b1)
    obtain ⟨n1, D1, o1, hn1, v1⟩ := HT1.out.vm
    obtain ⟨s', c', t', a', n', d', hlk⟩ := look_vote o1 v1 hxx
    have p2 : w1.cell? ⟨p, 2, none⟩ = some (.map (some mv)) := by rw [blk_cell K1.out]; rfl
    have q0 : w1.cell? ⟨p, 0, none⟩ = some (.int .i64 e) := by rw [blk_cell K1.out]; rfl
    have q1 : w1.cell? ⟨p, 1, none⟩ = some (.slice a n c) := by rw [blk_cell K1.out]; rfl
    clear b1 p0 p1 CT o1 hn1 v1
    generalize hany : V.any (fun v => v.1 == x) = there at *
    go_upto_region 7 with (fail)
    clear p2 q0 q1 hlk
    obtain ⟨w2, hw2⟩ : ∃ w2, w2 = w1.alloc (.cells #[.string s', .string c', .string t', .slice a' n' d'] 81 (0, 0)) := ⟨_, rfl⟩
    rw [← hw2]
    have hb2 : Below w1.heap.size w1 w2 := by rw [hw2]; exact below_alloc _ _
    have B2 := Lib.hid (bthen B1.out hb2)
    have K2 := Lib.hid (blk_below K1.out hb2)
    have q0 : w2.cell? ⟨p, 0, none⟩ = some (.int .i64 e) := by rw [blk_cell K2.out]; rfl
    have q1 : w2.cell? ⟨p, 1, none⟩ = some (.slice a n c) := by rw [blk_cell K2.out]; rfl
    have CH := Lib.hid (has_any e a n c l x w2 (HL.out.below B2.out))
    clear hw2 hb2 K1 B1 HT1
    cases hh : hasB l x with
    | false =>
      rw [hh, if_pos rfl] at HA
      rw [hh] at CH
      go_wp2_with fail
      refine CH.out.mono ?_
      rintro r w3 ⟨rfl, b3⟩
      have B3 := Lib.hid (bthen B2.out b3)
      clear b3 q0 q1 CH
      go_wp2_with fail
      go_ret
      exact vadd_no HT.out B3.out HA.out (by decide)
    | true =>
      rw [hh, if_neg (by decide)] at HA
      rw [hh] at CH
      go_wp2_with fail
      refine CH.out.mono ?_
      rintro r w3 ⟨rfl, b3⟩
      have B3 := Lib.hid (bthen B2.out b3)
      have K3 := Lib.hid (blk_below K2.out b3)
      clear b3 q0 q1 CH B2 K2
      have hm := made_sigs w3 [(x, S), (x, C)] (fun s hs => by
        have := HSz.out
        simp at hs
        rcases hs with rfl | rfl
        · exact ⟨hxx, this.1⟩
        · exact ⟨hxx, this.2⟩) (by simp)
      simp only [sigV, List.flatMap_cons, List.flatMap_nil, List.append_nil, List.cons_append, List.nil_append, List.length_cons, List.length_nil, Nat.zero_add, Nat.reduceAdd] at hm
      have B4 := Lib.hid (bthen B3.out (below_alloc w3 (.cells #[.int .i64 x, .string S, .int .i64 x, .string C] 47 (0, 0))))
      have K4 := Lib.hid (blk_below K3.out (below_alloc w3 (.cells #[.int .i64 x, .string S, .int .i64 x, .string C] 47 (0, 0))))
      have CQ := Lib.hid (eqsigs_any sa sn sc sigs _ _ _ _ _ (HS.out.old B4.out) hm)
      clear hm B3 K3
      by_cases hq : sigs = [(x, S), (x, C)]
      · rw [if_pos hq] at HA
        rw [decide_eq_true hq] at CQ
        go_wp2_with fail
        refine CQ.out.mono ?_
        rintro r w5 ⟨rfl, q5, hw5⟩
        have B5 := Lib.hid (show Below w.heap.size w w5 by rw [hw5]; exact below_drewN B4.out q5)
        clear CQ hw5 B4 K4
        cases there with
        | true =>
          rw [if_pos rfl] at HA
          go_wp2_with fail
          go_ret
          exact vadd_no HT.out B5.out HA.out (by decide)
        | false =>
          rw [if_neg (by decide)] at HA
          go_upto_region 14 with (fail)
          obtain ⟨w6, hw6⟩ : ∃ w6, w6 = w5.alloc (.cells #[.string S, .string C] 79 (0, 0)) := ⟨_, rfl⟩
          rw [← hw6]
          have hb6 : Below w5.heap.size w5 w6 := by rw [hw6]; exact below_alloc _ _
          have B6 := Lib.hid (bthen B5.out hb6)
          have KQ := Lib.hid (show w6.heap[w5.heap.size]? = some (.cells #[.string S, .string C] 79 (0, 0)) by rw [hw6]; exact blk_alloc _ _)
          have K6 := Lib.hid (blk_below KP.out B6.out)
          have hz5 := B5.out.size
          have CO := Lib.hid (fun (w' : World) (hb' : Below w.heap.size w w') => clone_ints b m d nx w' (HX.out.below hb') hxn hxb)
          clear hw6 hb6 B5
          refine wp_region_made 10 (addR w.heap.size p mv x S C t b m d nx) (fun _ _ => none) rfl (by kernel_rfl) (by kernel_rfl) addR_stab (fun _ _ _ _ _ h => by cases h) (fun i o hi ho => ?_) (fun vs w7 hb7 hs hne => ?_)
          · intro ac wa hba hE hF K hK
            have b7 := below_undrew hba
            have KPa := blk_below K6.out b7
            have KQa := blk_below KQ.out b7
            have z1 : wa.cell? ⟨p, 2, none⟩ = some (.map (some mv)) := by rw [blk_cell KPa]; rfl
            have z2 : wa.cell? ⟨w5.heap.size, 0, none⟩ = some (.string S) := by rw [blk_cell KQa]; rfl
            have z3 : wa.cell? ⟨w5.heap.size, 1, none⟩ = some (.string C) := by rw [blk_cell KQa]; rfl
            have hW := (bthen B6.out b7).size
            have hno : ∀ k, (none : Option Nat) = some k → wa.heap.size ≤ k := fun _ h => by cases h
            have hi' : i = 0 ∨ i = 1 ∨ i = 2 ∨ i = 3 ∨ i = 4 ∨ i = 5 ∨ i = 6 ∨ i = 7 ∨ i = 8 ∨ i = 9 := by omega
            rcases hi' with rfl | rfl | rfl | rfl | rfl | rfl | rfl | rfl | rfl | rfl
            · obtain rfl := Option.some.inj ho
              have h1 : ac.eval (.tmp 0) = .pointer (some ⟨p, 0, none⟩) := hE 0 (by decide)
              exact news_val rfl rfl (by generalize ac.eval = ρ at h1; simp only [execOp]; go_simp) (hK _ _ (Below.refl _ _) rfl hno)
            · obtain rfl := Option.some.inj ho
              have h1 : ac.eval (.tmp 66) = .pointer (some ⟨p, 0, none⟩) := hF ⟨0, .data⟩ (by simp) rfl 66 rfl
              exact news_val rfl rfl (by generalize ac.eval = ρ at h1; simp only [execOp]; go_simp) (hK _ _ (Below.refl _ _) rfl hno)
            · obtain rfl := Option.some.inj ho
              have h1 : ac.eval (.tmp 67) = .pointer (some ⟨p, 0, none⟩) := hF ⟨1, .data⟩ (by simp) rfl 67 rfl
              exact news_val rfl rfl (by generalize ac.eval = ρ at h1; simp only [execOp]; go_simp) (hK _ _ (Below.refl _ _) rfl hno)
            · obtain rfl := Option.some.inj ho
              have h1 : ac.eval (.tmp 68) = .pointer (some ⟨p, 2, none⟩) := hF ⟨2, .data⟩ (by simp) rfl 68 rfl
              exact news_val rfl rfl (by generalize ac.eval = ρ at h1; simp only [execOp]; go_simp) (hK _ _ (Below.refl _ _) rfl hno)
            · obtain rfl := Option.some.inj ho
              have h1 : ac.eval (.tmp 1) = .int .i64 x := hE 1 (by decide)
              exact news_val rfl rfl (by generalize ac.eval = ρ at h1; simp only [execOp]; go_simp) (hK _ _ (Below.refl _ _) rfl hno)
            · obtain rfl := Option.some.inj ho
              have h1 : ac.eval (.tmp 16) = .pointer (some ⟨w5.heap.size, 0, none⟩) := hE 16 (by decide)
              exact news_val rfl rfl (by generalize ac.eval = ρ at h1; simp only [execOp]; go_simp) (hK _ _ (Below.refl _ _) rfl hno)
            · obtain rfl := Option.some.inj ho
              have h1 : ac.eval (.tmp 2) = .string t := hE 2 (by decide)
              exact news_val rfl rfl (by generalize ac.eval = ρ at h1; simp only [execOp]; go_simp) (hK _ _ (Below.refl _ _) rfl hno)
            · obtain rfl := Option.some.inj ho
              have h1 : ac.eval (.tmp 3) = .slice b m d := hE 3 (by decide)
              exact news_val rfl rfl (by generalize ac.eval = ρ at h1; simp only [execOp]; go_simp) (hK _ _ (Below.refl _ _) rfl hno)
            · obtain rfl := Option.some.inj ho
              have h1 : ac.eval (.tmp 73) = .slice b m d := hF ⟨7, .data⟩ (by simp) rfl 73 rfl
              have h2 : ac.eval (.func 35) = .func (.func 35) #[] #[] := rfl
              refine made_call rfl rfl 35 #[.slice b m d] (by generalize ac.eval = ρ at h1 h2; simp only [execOp]; go_simp) (CO.out _ (bthen B6.out b7)) ?_
              rintro r w6 ⟨v6, rfl, ho6, b6⟩
              obtain ⟨a6, c6, rfl⟩ := owns_form ho6
              exact ⟨_, rfl, hK _ _ b6 ⟨a6, c6, rfl, owns_lower ho6 hW⟩ (fun _ h => by cases h)⟩
            · obtain rfl := Option.some.inj ho
              have h1 : ac.eval (.tmp 71) = .agg #[.string S, .string C] := hF ⟨5, .data⟩ (by simp) rfl 71 rfl
              have h2 : ac.eval (.tmp 72) = .string t := hF ⟨6, .data⟩ (by simp) rfl 72 rfl
              obtain ⟨a6, c6, h3, h4⟩ : ∃ a' c', ac.eval (.tmp 74) = .slice a' m c' ∧ wa.ownsRow w.heap.size 3 1 (.slice a' m c') m (intsV nx) := hF ⟨8, .data⟩ (by simp) rfl 74 rfl
              exact news_val rfl rfl (by generalize ac.eval = ρ at h1 h2 h3; simp only [execOp]; go_simp) (hK _ _ (Below.refl _ _) ⟨a6, c6, rfl, h4⟩ hno)
          · have e0 : vs 0 = _ := hs 0 (by omega)
            have e1 : vs 1 = _ := hs 1 (by omega)
            have e2 : vs 2 = _ := hs 2 (by omega)
            have e3 : vs 3 = _ := hs 3 (by omega)
            have e4 : vs 4 = _ := hs 4 (by omega)
            have e5 : vs 5 = _ := hs 5 (by omega)
            have e6 : vs 6 = _ := hs 6 (by omega)
            have e7 : vs 7 = _ := hs 7 (by omega)
            obtain ⟨a8, c8, e8, -⟩ : ∃ a' c', vs 8 = .slice a' m c' ∧ w7.ownsRow w.heap.size 3 1 (.slice a' m c') m (intsV nx) := hs 8 (by omega)
            obtain ⟨a6, c6, e9, ho6⟩ : ∃ a' c', vs 9 = .agg #[.string S, .string C, .string t, .slice a' m c'] ∧ w7.ownsRow w.heap.size 3 1 (.slice a' m c') m (intsV nx) := hs 9 (by omega)
            show wpList _ _ _ _ ((((((((((Act.put _ (some 66) (vs 0)).put (some 67) (vs 1)).put (some 68) (vs 2)).put (some 69) (vs 3)).put (some 70) (vs 4)).put (some 71) (vs 5)).put (some 72) (vs 6)).put (some 73) (vs 7)).put (some 74) (vs 8)).put (some 75) (vs 9)) _
            rw [e0, e1, e2, e3, e4, e5, e6, e7, e8, e9]
            clear e0 e1 e2 e3 e4 e5 e6 e7 e8 e9 hs hne vs
            have B7 := Lib.hid (bthen B6.out hb7)
            have HO6 := Lib.hid ho6
            have KQ7 := Lib.hid (blk_below KQ.out hb7)
            obtain ⟨n1, D1, o1, hn1, v1⟩ := HT.out.vm
            have T1 := Lib.hid (o1.tidy intK)
            have O1 := Lib.hid (raw_block o1 (B7.out.block _ o1.lt))
            have V1 := Lib.hid v1
            have hten := HVok.out.ten
            clear hb7 ho6 o1 v1 B6 K6 KQ CO
            simp only [List.drop_succ_cons, List.drop_zero, Act.put, List.setIfInBounds_toArray, List.set_cons_succ, List.set_cons_zero]
            go_wp2_with (first | (at_mapUpdate; refine wpList_mapUpdate_own _ rfl (.tmp 69) (.tmp 70) (.tmp 75) 74 rfl 3 81 intK Try.underlying74 rawE mv n1 D1 rfl O1.out (by unfold maxLen; omega) (.int .i64 x) (.agg #[.string S, .string C, .string t, .slice a6 m c6]) (.int .i64 x) rfl rfl (intKey15 x hxx) (.held (.agg #[.string S, .string C, .string t, .slice a6 m c6])) [] rfl ?_) | fail)
            intro w8 ho8 hg8
            have B78 : Keep (fun k => k = mv ∨ k = mc) w w8 := (Keep.of_below B7.out).grown hg8 (fun k hk => .inr (by injection hk with hk; exact .inl hk.symm))
            obtain ⟨n2, D2, o2, hn2, v2⟩ := HT.out.cm
            have hne := HT.out.ne
            have hlt := HT.out.lt
            have hmine := HT.out.mine
            have o2' : w8.ownsMap Try.prog 79 intE mc n2 D2 := owns_block o2 (by rw [hg8.block _ (Nat.lt_of_lt_of_le o2.lt B7.out.size) (fun e => by injection e with e; exact hne.2.2 e.symm), B7.out.block _ o2.lt])
            have kp : w8.heap[p]? = some (.cells #[.int .i64 e, .slice a n c, .map (some mv), .map (some mc)] 77 (0, 0)) := by
              have h1 := blk_below KP.out B7.out
              rw [hg8.block _ (blk_lt h1) (fun e => by injection e with e; exact hne.1 e)]
              exact h1
            have hq5 : w5.heap.size ≠ mv := fun h => by have := hlt mv hmine.2.1; omega
            have kq : w8.heap[w5.heap.size]? = some (.cells #[.string S, .string C] 79 (0, 0)) := by
              rw [hg8.block _ (blk_lt KQ7.out) (fun e => by injection e with e; exact hq5 e)]
              exact KQ7.out
            have HO8 := Lib.hid (owns_keep (X := fun k => k = mv) HO6.out ((Keep.refl (fun k => k = mv) w7).grown hg8 (fun k hk => .inr (by injection hk with hk; exact hk.symm))) (fun k hk hm => by
              have := (HO6.out.lt k hk).1
              have := hlt mv hmine.2.1
              omega))
            have OM8 := Lib.hid ho8
            have hsz := HSz.out
            have T2 := Lib.hid o2.isMap
            obtain ⟨c0, v, st, w9, hl0, hat, hwc, hme, hg9, hl9, hst⟩ := entry_int (w := w8.drew) o2' whLaw Try.underlying75 Try.underlying3 zeroInt (by unfold maxLen; omega) (whKey hsz)
            have hc0 : c0 = (cntW e V S C : Int) := by rw [v2 S C hsz] at hat; simpa using hat.symm
            subst hc0
            have hcn : cntW e V S C ≤ 10 := Nat.le_trans (List.length_filter_le _ _) hten
            have hwr : IntKind.i64.wrap ((cntW e V S C : Int) + 1) = (cntW e V S C : Int) + 1 := IntWalk.i64_in _ (by omega)
            obtain ⟨w10, hes, ho10, hg10⟩ := hst ((cntW e V S C : Int) + 1) (Go.WalkArith.wf_i64 (by omega))
            replace hes : (Instr.entryStore 75 (.map (some mc)) (.int .i64 st) (.int .i64 ((cntW e V S C : Int) + 1))).run Try.prog w9 = .ok () w10 := hes
            have hpm : p ≠ mc := hne.2.1
            have hqm : w5.heap.size ≠ mc := fun h => by have := hlt mc hmine.2.2; omega
            have kq9 := hg9.block _ (blk_lt kq) (fun e => by injection e with e; exact hqm e)
            have kp9 := hg9.block _ (blk_lt kp) (fun e => by injection e with e; exact hpm e)
            have kq' : w8.drew.heap[w5.heap.size]? = some (.cells #[.string S, .string C] 79 (0, 0)) := kq
            have kp' : w8.drew.heap[p]? = some (.cells #[.int .i64 e, .slice a n c, .map (some mv), .map (some mc)] 77 (0, 0)) := kp
            rw [kq'] at kq9
            rw [kp'] at kp9
            have p0 : w8.drew.cell? ⟨p, 3, none⟩ = some (.map (some mc)) := by rw [blk_cell kp']; rfl
            have q0 : w8.drew.cell? ⟨w5.heap.size, 0, none⟩ = some (.string S) := by rw [blk_cell kq']; rfl
            have q1 : w8.drew.cell? ⟨w5.heap.size, 1, none⟩ = some (.string C) := by rw [blk_cell kq']; rfl
            have p09 : w9.cell? ⟨p, 3, none⟩ = some (.map (some mc)) := by rw [blk_cell kp9]; rfl
            have q09 : w9.cell? ⟨w5.heap.size, 0, none⟩ = some (.string S) := by rw [blk_cell kq9]; rfl
            have q19 : w9.cell? ⟨w5.heap.size, 1, none⟩ = some (.string C) := by rw [blk_cell kq9]; rfl
            have K810 : Keep (fun k => k = mc) w8 w10 := (show Keep (fun k => k = mc) w8 w8.drew from ⟨rfl, rfl, rfl, Nat.le_refl _, fun _ _ _ => rfl⟩).grown hg10 (fun k hk => .inr (by injection hk with hk; exact hk.symm))
            have hA0 : addE e l V x t nx sigs = 0 := HA.out
            have HF := Lib.hid (show VAddPost M p mv mc e l V x t nx sigs w (.returned (.int .i64 0)) w10 from by
              refine ⟨by rw [hA0], B78.trans K810 (fun k _ hk => .inr hk), ?_⟩
              rw [HAV.out hA0]
              have hO10 := owns_keep HO8.out K810 (fun k hk hm => by
                have := (HO6.out.lt k hk).1
                have := hlt mc hmine.2.2
                omega)
              have om10 := raw_block OM8.out (K810.block _ OM8.out.lt hne.2.2)
              exact tal_add HT.out hxx (B78.trans K810 (fun k _ hk => .inr hk)) hn1 V1.out hn2 v2 T1.out T2.out hany (by rw [HWh.out]; exact hsz) (by rw [HWh.out]; exact om10) (by rw [HWh.out]; exact ho10) hO10 HX.out.len HX.out.fit hxb)
            clear hg8 ho8 B78 o2 o2' v2 hne hlt hmine kp kq hq5 hat hwc kq9 kp9 kq' kp' hst ho10 hg10 hg9 K810 hcn hn2 hA0 HO8 OM8 HO6 KQ7 B7 O1 V1 T1 T2
            generalize ((cntW e V S C : Nat) : Int) = cN at *
            go_upto_region 15 with (fail)
            refine wp_region_one 9 7 (fun i => match i with
              | 0 => .pointer (some ⟨p, 0, none⟩)
              | 1 => .pointer (some ⟨p, 0, none⟩)
              | 2 => .pointer (some ⟨p, 3, none⟩)
              | 3 => .map (some mc)
              | 4 => .agg #[.string S, .string C]
              | 5 => .int .i64 cN
              | 6 => .int .i64 (cN + 1)
              | 7 => .tuple #[v, .int .i64 st]
              | _ => .int .i64 st) w9 rfl (by omega) (by kernel_rfl) (by kernel_rfl) (fun i o hi hik ho => ?_) (fun o ho => ?_) ?_
            · have hi' : i = 0 ∨ i = 1 ∨ i = 2 ∨ i = 3 ∨ i = 4 ∨ i = 5 ∨ i = 6 ∨ i = 8 := by omega
              rcases hi' with rfl | rfl | rfl | rfl | rfl | rfl | rfl | rfl
              · obtain rfl := Option.some.inj ho
                refine ⟨fun a hE hF K hK => ?_, fun a hE hF K hK => ?_⟩
                all_goals (have g0 : a.eval (.tmp 0) = .pointer (some ⟨p, 0, none⟩) := hE 0 (by decide); exact news_val rfl rfl (by generalize a.eval = ρ at g0; simp only [execOp]; go_simp) hK)
              · obtain rfl := Option.some.inj ho
                refine ⟨fun a hE hF K hK => ?_, fun a hE hF K hK => ?_⟩
                all_goals (have g0 : a.eval (.tmp 76) = .pointer (some ⟨p, 0, none⟩) := hF ⟨0, .data⟩ (by simp) rfl 76 rfl; exact news_val rfl rfl (by generalize a.eval = ρ at g0; simp only [execOp]; go_simp) hK)
              · obtain rfl := Option.some.inj ho
                refine ⟨fun a hE hF K hK => ?_, fun a hE hF K hK => ?_⟩
                all_goals (have g0 : a.eval (.tmp 77) = .pointer (some ⟨p, 0, none⟩) := hF ⟨1, .data⟩ (by simp) rfl 77 rfl; exact news_val rfl rfl (by generalize a.eval = ρ at g0; simp only [execOp]; go_simp) hK)
              · obtain rfl := Option.some.inj ho
                refine ⟨fun a hE hF K hK => ?_, fun a hE hF K hK => ?_⟩
                all_goals (have g0 : a.eval (.tmp 78) = .pointer (some ⟨p, 3, none⟩) := hF ⟨2, .data⟩ (by simp) rfl 78 rfl; exact news_val rfl rfl (by generalize a.eval = ρ at g0; simp only [execOp]; go_simp) hK)
              · obtain rfl := Option.some.inj ho
                refine ⟨fun a hE hF K hK => ?_, fun a hE hF K hK => ?_⟩
                all_goals (have g0 : a.eval (.tmp 16) = .pointer (some ⟨w5.heap.size, 0, none⟩) := hE 16 (by decide); exact news_val rfl rfl (by generalize a.eval = ρ at g0; simp only [execOp]; go_simp) hK)
              · obtain rfl := Option.some.inj ho
                refine ⟨fun a hE hF K hK => ?_, fun a hE hF K hK => ?_⟩
                all_goals (have g0 : a.eval (.tmp 79) = .map (some mc) := hF ⟨3, .data⟩ (by simp) rfl 79 rfl; have g1 : a.eval (.tmp 80) = .agg #[.string S, .string C] := hF ⟨4, .data⟩ (by simp) rfl 80 rfl; exact news_val rfl rfl (by generalize a.eval = ρ at g0 g1; simp only [execOp]; unfold whV at *; go_simp) hK)
              · obtain rfl := Option.some.inj ho
                refine ⟨fun a hE hF K hK => ?_, fun a hE hF K hK => ?_⟩
                all_goals (have g0 : a.eval (.tmp 81) = .int .i64 cN := hF ⟨5, .data⟩ (by simp) rfl 81 rfl; have g1 : a.eval (.const (.int .i64 1)) = .int .i64 1 := rfl; exact news_val rfl rfl (by generalize a.eval = ρ at g0 g1; simp only [execOp]; go_simp) hK)
              · obtain rfl := Option.some.inj ho
                refine ⟨fun a hE hF K hK => ?_, fun a hE hF K hK => ?_⟩
                all_goals (have g0 : a.eval (.tmp 83) = .tuple #[v, .int .i64 st] := hF ⟨7, .data⟩ (by simp) rfl 83 rfl; exact news_val rfl rfl (by generalize a.eval = ρ at g0; simp only [execOp]; go_simp) hK)
            · obtain rfl := Option.some.inj ho
              intro a hE hF K hK
              have g0 : a.eval (.tmp 79) = .map (some mc) := hF ⟨3, .data⟩ (by simp) rfl 79 rfl
              have g1 : a.eval (.tmp 80) = .agg #[.string S, .string C] := hF ⟨4, .data⟩ (by simp) rfl 80 rfl
              exact news_val rfl rfl (by generalize a.eval = ρ at g0 g1; simp only [execOp]; unfold whV at *; go_simp) hK
            · show wpList _ _ _ _ (((((((((Act.put _ (some 76) (.pointer (some ⟨p, 0, none⟩))).put (some 77) (.pointer (some ⟨p, 0, none⟩))).put (some 78) (.pointer (some ⟨p, 3, none⟩))).put (some 79) (.map (some mc))).put (some 80) (.agg #[.string S, .string C])).put (some 81) (.int .i64 cN)).put (some 82) (.int .i64 (cN + 1))).put (some 83) (.tuple #[v, .int .i64 st])).put (some 84) (.int .i64 st)) _
              simp only [List.drop_succ_cons, List.drop_zero, Act.put, List.setIfInBounds_toArray, List.set_cons_succ, List.set_cons_zero]
              go_wp2_with fail
              go_ret
              exact HF.out
      · rw [if_neg hq] at HA
        rw [decide_eq_false hq] at CQ
        go_wp2_with fail
        refine CQ.out.mono ?_
        rintro r w5 ⟨rfl, q5, rfl⟩
        have B5 := Lib.hid (below_drewN B4.out q5)
        clear CQ
        go_wp2_with fail
        go_ret
        exact vadd_no HT.out B5.out HA.out (by decide)
end Go.Proofs.Ytfhbjajhmegdmaa

/- The program's Settled. -/
namespace Go.Proofs.Ytfhbjajhmegdmaa
set_option maxRecDepth 100000
open Go.RowKit Go.Maps
attribute [local irreducible] wpQuiet
set_option linter.unusedVariables false
set_option linter.unusedSimpArgs false

theorem look_none {w : World} {mv n : Nat} {D : DataW Value} {X : Nat → Prop} {e : Int} {V : List Vt} (ho : w.ownsMap Try.prog 3 rawE mv n D) (hv : VMap X w e V D) {x : Int} (hx : i64 x) (hno : V.any (fun v => v.1 == x) = false) :
    (Instr.lookup 74 (.map (some mv)) (.int .i64 x) true).run Try.prog w = .ok (.tuple #[.agg #[.string ⟨#[]⟩, .string ⟨#[]⟩, .string ⟨#[]⟩, .slice none 0 0], .bool false]) w := by
  obtain ⟨v, ps, hrun, hR⟩ := ho.look_ok intK Try.underlying74 (zeroVote w) (zd := .held (voteV ⟨#[]⟩ ⟨#[]⟩ ⟨#[]⟩ none 0 0)) (zp := []) rfl (intKey15 x hx)
  have h0 := hv.has x hx
  rw [h0, hno] at hrun
  rw [hno] at h0
  simp only [rawE, Option.some.injEq, Prod.mk.injEq] at hR
  rw [atKey_of_not_has h0] at hR
  injection hR.1 with h1
  rw [h1] at hrun
  exact hrun
theorem look_some {w : World} {mv n : Nat} {D : DataW Value} {X : Nat → Prop} {e : Int} {V : List Vt} (ho : w.ownsMap Try.prog 3 rawE mv n D) (hv : VMap X w e V D) {v : Vt} (hm : v ∈ V) (hx : i64 v.1) :
    ∃ a n d, (Instr.lookup 74 (.map (some mv)) (.int .i64 v.1) true).run Try.prog w = .ok (.tuple #[.agg #[.string (whatOf e v).1, .string (whatOf e v).2, .string v.2.1, .slice a n d], .bool true]) w ∧ Rob X (fun w' => SlAt Sh.int w' a n d v.2.2) w := by
  obtain ⟨u, ps, hrun, hR⟩ := ho.look_ok intK Try.underlying74 (zeroVote w) (zd := .held (voteV ⟨#[]⟩ ⟨#[]⟩ ⟨#[]⟩ none 0 0)) (zp := []) rfl (intKey15 v.1 hx)
  have h0 := hv.has v.1 hx
  rw [h0, any_iff.2 (List.mem_map.2 ⟨v, hm, rfl⟩)] at hrun
  simp only [rawE, Option.some.injEq, Prod.mk.injEq] at hR
  obtain ⟨a, n, d, g1, g2⟩ := hv.get v hm
  rw [g1] at hR
  injection hR.1 with h1
  rw [h1] at hrun
  exact ⟨a, n, d, hrun, g2⟩
theorem look_count {w : World} {mc n : Nat} {D : DataW Unit} {e : Int} {V : List Vt} (ho : w.ownsMap Try.prog 79 intE mc n D) (hv : CMap e V D) {s c : ByteArray} (h : whOk s c) :
    (Instr.lookup 75 (.map (some mc)) (.agg #[.string s, .string c]) false).run Try.prog w = .ok (.int .i64 (cntW e V s c)) w := by
  obtain ⟨k, hl, hat, -⟩ := ho.lookup_int whK Try.underlying75 Try.underlying3 (zeroInt w) (whKey h)
  rw [hv s c h] at hat
  have : k = (cntW e V s c : Int) := by simpa using hat.symm
  rw [this] at hl
  exact hl

def sOf (e : Int) (Y : Option (ByteArray × List Int)) : ByteArray := match Y with | none => ⟨#[]⟩ | some y => stS e y.1
def cOf (e : Int) (Y : Option (ByteArray × List Int)) : ByteArray := match Y with | none => ⟨#[]⟩ | some y => textS (e + 1) y.2
/-- What is settled so far. -/
def OutAt (w : World) (o : Nat) (e : Int) (Y : Option (ByteArray × List Int)) (acc : List Int) : Prop :=
  ∃ tx a1 c1 ep a2 n2 c2 a3 c3, w.heap[o]? = some (.cells #[.string tx, .slice a1 acc.length c1, .int .i64 ep, .slice a2 n2 c2, .slice a3 acc.length c3] 51 (0, 0)) ∧
    w.ownsRow (o + 1) 47 2 (.slice a1 acc.length c1) acc.length (sigV (acc.map fun x => (x, sOf e Y))) ∧ w.ownsRow (o + 1) 47 2 (.slice a3 acc.length c3) acc.length (sigV (acc.map fun x => (x, cOf e Y))) ∧
    (∀ k, (Value.slice a1 acc.length c1).ownBlock = some k → (Value.slice a3 acc.length c3).ownBlock ≠ some k) ∧
    ((acc = [] ∧ tx = ⟨#[]⟩ ∧ ep = 0 ∧ Value.slice a2 n2 c2 = .slice none 0 0 ∧ Value.slice a1 acc.length c1 = .slice none 0 0 ∧ Value.slice a3 acc.length c3 = .slice none 0 0) ∨ (∃ y, Y = some y ∧ tx = y.1 ∧ ep = e + 1 ∧ w.ownsRow (o + 1) 3 1 (.slice a2 n2 c2) n2 (intsV y.2) ∧ y.2.length = n2))
theorem OutAt.old {w w' : World} {o : Nat} {e : Int} {Y : Option (ByteArray × List Int)} {acc : List Int} (h : OutAt w o e Y acc) (hb : Below w.heap.size w w') : OutAt w' o e Y acc := by
  obtain ⟨tx, a1, c1, ep, a2, n2, c2, a3, c3, h1, h2, h3, h4, h5⟩ := h
  refine ⟨tx, a1, c1, ep, a2, n2, c2, a3, c3, blk_below h1 hb, owns_old h2 hb, owns_old h3 hb, h4, ?_⟩
  rcases h5 with h5 | ⟨y, g1, g2, g3, g4, g5⟩
  · exact .inl h5
  · exact .inr ⟨y, g1, g2, g3, owns_old g4 hb, g5⟩
theorem accP_snoc {V : List Vt} {Y : Option (ByteArray × List Int)} {l : List Int} {k : Nat} {x : Int} (h : l[k]? = some x) : accP V Y (l.take (k + 1)) = accP V Y (l.take k) ++ accP V Y [x] := by
  rw [List.take_add_one, h]; unfold accP; rw [List.filter_append]; rfl
theorem accP_out {V : List Vt} {Y : Option (ByteArray × List Int)} {x : Int} (h : V.any (fun v => v.1 == x) = false) : accP V Y [x] = [] := by
  unfold accP
  rw [List.filter_cons_of_neg, List.filter_nil]
  cases Y with
  | none => simp
  | some y =>
    simp only [decide_eq_true_eq]
    intro hc
    have : V.any (fun v => v.1 == x) = true := any_iff.2 (List.mem_map.2 ⟨_, hc, rfl⟩)
    rw [h] at this; cases this
theorem one_vote {V : List Vt} (hn : (V.map (·.1)).Nodup) {u v : Vt} (hu : u ∈ V) (hv : v ∈ V) (h : u.1 = v.1) : u = v := by
  induction V with
  | nil => cases hu
  | cons z r ih =>
    rw [List.map_cons, List.nodup_cons] at hn
    rw [List.mem_cons] at hu hv
    rcases hu with rfl | hu
    · rcases hv with rfl | hv
      · rfl
      · exact absurd (List.mem_map.2 ⟨v, hv, h.symm⟩) hn.1
    · rcases hv with rfl | hv
      · exact absurd (List.mem_map.2 ⟨u, hu, h⟩) hn.1
      · exact ih hn.2 hu hv
theorem accP_few {e : Int} {l : List Int} {V : List Vt} (h : VOk e l V) {v : Vt} (hv : v ∈ V) (hq : ¬ quorumP l.length ≤ (cntC V v.2 : Int)) : accP V (winner l V) [v.1] = [] := by
  unfold accP
  rw [List.filter_cons_of_neg, List.filter_nil]
  cases hw : winner l V with
  | none => simp
  | some y =>
    simp only [decide_eq_true_eq]
    intro hc
    have := one_vote h.nodup hc hv rfl
    rw [← this] at hq
    exact hq (winner_some hw).1
theorem accP_won {e : Int} {l : List Int} {V : List Vt} (h : VOk e l V) {v : Vt} (hv : v ∈ V) (hq : quorumP l.length ≤ (cntC V v.2 : Int)) : winner l V = some v.2 ∧ accP V (winner l V) [v.1] = [v.1] := by
  have hw := (winner_of h hv).1 hq
  refine ⟨hw, ?_⟩
  rw [hw]
  unfold accP
  rw [List.filter_cons_of_pos, List.filter_nil]
  simp only [decide_eq_true_eq]
  exact hv

def SetPost (e : Int) (l : List Int) (V : List Vt) (w : World) (r : Ending) (w' : World) : Prop :=
  Below w.heap.size w w' ∧ match winner l V with
    | none => r = .returned (.tuple #[.agg #[.string ⟨#[]⟩, .slice none 0 0, .int .i64 0, .slice none 0 0, .slice none 0 0], .bool false])
    | some y => ∃ a1 c1 a2 n2 c2 a3 c3, r = .returned (.tuple #[.agg #[.string y.1, .slice a1 (who l V y).length c1, .int .i64 (e + 1), .slice a2 n2 c2, .slice a3 (who l V y).length c3], .bool true]) ∧
        Rob (fun k => k < w.heap.size) (fun w' => SlAt shSig w' a1 (who l V y).length c1 ((who l V y).map fun x => (x, stS e y.1)) ∧ SlAt Sh.int w' a2 n2 c2 y.2 ∧ SlAt shSig w' a3 (who l V y).length c3 ((who l V y).map fun x => (x, textS (e + 1) y.2))) w'

def setR (W p vb : Nat) (e : Int) (a' : Option Addr) (n' d' : Nat) (nx : List Int) : Nat → World → Value → Prop
  | 0 => fun _ v => v = .pointer (some ⟨p, 0, none⟩)
  | 1 => fun _ v => v = .pointer (some ⟨p, 0, none⟩)
  | 2 => fun _ v => v = .pointer (some ⟨p, 0, none⟩)
  | 3 => fun _ v => v = .pointer (some ⟨p, 0, none⟩)
  | 4 => fun _ v => v = .int .i64 e
  | 5 => fun _ v => v = .int .i64 (e + 1)
  | 6 => fun _ v => v = .pointer (some ⟨vb, 3, none⟩)
  | 7 => fun _ v => v = .slice a' n' d'
  | 8 => fun w v => ∃ a6 c6, v = .slice a6 n' c6 ∧ w.ownsRow W 3 1 (.slice a6 n' c6) n' (intsV nx)
  | 9 => fun w v => ∃ a6 c6, v = .agg #[.int .i64 (e + 1), .slice a6 n' c6] ∧ w.ownsRow W 3 1 (.slice a6 n' c6) n' (intsV nx)
  | _ => fun _ _ => False
theorem setR_stab {W p vb : Nat} {e : Int} {a' : Option Addr} {n' d' : Nat} {nx : List Int} : ∀ i w w' v, setR W p vb e a' n' d' nx i w v → Below w.heap.size w w' → setR W p vb e a' n' d' nx i w' v
  | 0, w, w', v, h, hb => h
  | 1, w, w', v, h, hb => h
  | 2, w, w', v, h, hb => h
  | 3, w, w', v, h, hb => h
  | 4, w, w', v, h, hb => h
  | 5, w, w', v, h, hb => h
  | 6, w, w', v, h, hb => h
  | 7, w, w', v, h, hb => h
  | 8, w, w', v, ⟨a', c', h1, h2⟩, hb => ⟨a', c', h1, owns_old h2 hb⟩
  | 9, w, w', v, ⟨a', c', h1, h2⟩, hb => ⟨a', c', h1, owns_old h2 hb⟩
  | _ + 10, w, w', v, h, hb => h
theorem rows_ne {w : World} {B B' e e' s s' n n' : Nat} {v v' : Value} {xs xs' : List Value} (h : w.ownsRow B e s v n xs) (h' : w.ownsRow B' e' s' v' n' xs') (hne : e ≠ e') : ∀ k, v.ownBlock = some k → v'.ownBlock ≠ some k := fun k hk hk' => by
  rcases h.2 with ⟨h0, _⟩ | ⟨g, cap, cur, h0, _, hg, _⟩
  · rw [h0] at hk; cases hk
  · rcases h'.2 with ⟨h0', _⟩ | ⟨g', cap', cur', h0', _, hg', _⟩
    · rw [h0'] at hk'; cases hk'
    · rw [h0] at hk; rw [h0'] at hk'
      have h1 : g = k := by simpa [Value.ownBlock] using hk
      have h2 : g' = k := by simpa [Value.ownBlock] using hk'
      rw [h1] at hg; rw [h2, hg] at hg'
      injection hg' with hg'
      injection hg' with _ hg' _
      exact hne hg'

set_option maxHeartbeats 4000000 in
theorem vsettled_any (M : Nat → Prop) (p mv mc : Nat) (e : Int) (l : List Int) (V : List Vt) (w : World) (h : TalAt M w p mv mc e l V) (hV : VOk e l V) :
    Calls Try.prog 18 #[.pointer (some ⟨p, 0, none⟩)] w (SetPost e l V w) := by
  obtain ⟨ii, hi, hz0, hz1, hz2⟩ := info_parts info_sig'
  obtain ⟨a, n, c, hb, hr⟩ := h.box
  have he := h.ep
  have HT := Lib.hid h; have HVok := Lib.hid hV
  have KP := Lib.hid hb
  have hlen := hr.self.len
  have h10 := risingB_len (rightB_rising hV.right).2.2
  have hre := rightB_rising hV.right
  have HL := Lib.hid (ints_of_sl hr.self)
  have B1 := bthen (below_alloc w (.cells #[.string ⟨#[]⟩, .slice none 0 0, .int .i64 0, .slice none 0 0, .slice none 0 0] 51 (0, 0))) (below_alloc (w.alloc (.cells #[.string ⟨#[]⟩, .slice none 0 0, .int .i64 0, .slice none 0 0, .slice none 0 0] 51 (0, 0))) (.cells #[.string ⟨#[]⟩, .slice none 0 0, .int .i64 0, .slice none 0 0, .slice none 0 0] 51 (0, 0)))
  have kz := blk_below (blk_alloc w (.cells #[.string ⟨#[]⟩, .slice none 0 0, .int .i64 0, .slice none 0 0, .slice none 0 0] 51 (0, 0))) (below_alloc (w.alloc (.cells #[.string ⟨#[]⟩, .slice none 0 0, .int .i64 0, .slice none 0 0, .slice none 0 0] 51 (0, 0))) (.cells #[.string ⟨#[]⟩, .slice none 0 0, .int .i64 0, .slice none 0 0, .slice none 0 0] 51 (0, 0)))
  have ko := blk_alloc (w.alloc (.cells #[.string ⟨#[]⟩, .slice none 0 0, .int .i64 0, .slice none 0 0, .slice none 0 0] 51 (0, 0))) (.cells #[.string ⟨#[]⟩, .slice none 0 0, .int .i64 0, .slice none 0 0, .slice none 0 0] 51 (0, 0))
  have hz : (w.alloc (.cells #[.string ⟨#[]⟩, .slice none 0 0, .int .i64 0, .slice none 0 0, .slice none 0 0] 51 (0, 0))).heap.size = w.heap.size + 1 := by simp
  rw [hz] at ko
  have HB0 := Lib.hid B1; have KZ0 := Lib.hid kz
  have HO0 := Lib.hid (show OutAt _ (w.heap.size + 1) e (winner l V) [] from ⟨⟨#[]⟩, none, 0, 0, none, 0, 0, none, 0, ko, World.ownsRow_nil _ _ _ _, World.ownsRow_nil _ _ _ _, fun k hk => (by cases hk), .inl ⟨rfl, rfl, rfl, rfl, rfl, rfl⟩⟩)
  have hE0 : accP V (winner l V) (l.take 0) = [] := by simp [accP]
  clear B1 kz ko hz h hV hb hr
  go_enter Try.func18, Try.ntmps18
  go_upto_region 4 with (fail)
  generalize (w.alloc (.cells #[.string ⟨#[]⟩, .slice none 0 0, .int .i64 0, .slice none 0 0, .slice none 0 0] 51 (0, 0))).alloc (.cells #[.string ⟨#[]⟩, .slice none 0 0, .int .i64 0, .slice none 0 0, .slice none 0 0] 51 (0, 0)) = w1 at *
  have p1 : w1.cell? ⟨p, 1, none⟩ = some (.slice a n c) := by rw [blk_cell (blk_below KP.out HB0.out)]; rfl
  have hpz : p < w.heap.size := blk_lt KP.out
  go_wp2_with fail
  go_loopw [18] (fun i wr => ∃ k : Nat, k ≤ n ∧ i = .int .i64 k ∧ Hid (OutAt wr (w.heap.size + 1) e (winner l V) (accP V (winner l V) (l.take k))) ∧ Hid (wr.heap[w.heap.size]? = some (.cells #[.string ⟨#[]⟩, .slice none 0 0, .int .i64 0, .slice none 0 0, .slice none 0 0] 51 (0, 0))) ∧ Hid (Below w.heap.size w wr)) (fun i _ => n - (intOf i).toNat)
  case atStart => exact ⟨0, by omega, rfl, by rw [hE0]; exact HO0, KZ0, HB0⟩
  case round =>
    clear HO0 KZ0 HB0 p1 hE0
    obtain ⟨k, hk, rfl, HO, KZ, HW⟩ := hrel
    by_cases hlt : k < n
    · have hd : decide ((k : Int) < (n : Int)) = true := by simp; omega
      obtain ⟨bb, o, x, rfl, hc, hx0, hx1, hdr, hxk⟩ := (HL.out.below HW.out).elem k hlt
      have hxx : i64 x := HL.out.fit x (List.mem_of_getElem? hxk)
      have HTr := Lib.hid (HT.out.old HW.out)
      have HX := Lib.hid hxk
      have KPr := Lib.hid (blk_below KP.out HW.out)
      have p2 : wr.cell? ⟨p, 2, none⟩ = some (.map (some mv)) := by rw [blk_cell KPr.out]; rfl
      obtain ⟨n1, D1, o1, hn1, v1⟩ := HTr.out.vm
      clear hdr hxk
      cases hany : V.any (fun v => v.1 == x) with
      | false =>
        have hlk := look_none o1 v1 hxx hany
        have hacc := Lib.hid (show accP V (winner l V) (l.take (k + 1)) = accP V (winner l V) (l.take k) by rw [accP_snoc HX.out, accP_out hany, List.append_nil])
        clear o1 v1 hany
        go_upto_region 8 with (fail)
        have hba := below_alloc wr (.cells #[.string ⟨#[]⟩, .string ⟨#[]⟩, .string ⟨#[]⟩, .slice none 0 0] 81 (0, 0))
        have HO4 := Lib.hid (HO.out.old hba)
        have KZ4 := Lib.hid (blk_below KZ.out hba)
        have B4 := Lib.hid (bthen HW.out hba)
        clear p2 hlk hc hba
        generalize wr.alloc (.cells #[.string ⟨#[]⟩, .string ⟨#[]⟩, .string ⟨#[]⟩, .slice none 0 0] 81 (0, 0)) = w4 at *
        go_quiet (fail)
        go_wp2_with fail
        go_roundw
        case rel => exact ⟨k + 1, by omega, by go_num, by rw [hacc.out]; exact HO4.out.old (below_drewN (Below.refl _ _) _), Lib.hid (blk_below KZ4.out (below_drewN (Below.refl _ _) _)), Lib.hid (below_drewN B4.out _)⟩
        case measure => simp [intOf]; omega
      | true =>
        obtain ⟨v, hv, hvx⟩ := List.any_eq_true.1 hany
        obtain ⟨x', t', nx'⟩ := v
        obtain rfl : x' = x := by simpa using hvx
        obtain ⟨a', n', d', hlk, hrob⟩ := look_some o1 v1 hv hxx
        obtain ⟨n2, D2, o2, hn2, v2⟩ := HTr.out.cm
        have hwo : whatOf e (x', t', nx') = (stS e t', textS (e + 1) nx') := rfl
        have hgd := HVok.out.good _ hv
        have hwok : whOk (stS e t') (textS (e + 1) nx') := ⟨by have := hdText_size 83 (4 * (e + 1)) t'; have : t'.size ≤ _ := hgd.2.2; unfold stS; omega, by have := textS_size (e + 1) nx'; omega⟩
        have hcw : cntW e V (stS e t') (textS (e + 1) nx') = cntC V (t', nx') := cntW_eq HVok.out hv
        have HLK := Lib.hid (fun w' (hb' : Below wr.heap.size wr w') => look_count (owns_block o2 (hb'.block _ o2.lt)) v2 hwok)
        rw [hcw] at HLK
        have hcle : cntC V (t', nx') ≤ 10 := Nat.le_trans (List.length_filter_le _ _) HVok.out.ten
        have HROB := Lib.hid hrob
        dsimp only [whatOf] at hlk
        have hfew := Lib.hid (fun hq => accP_few HVok.out hv hq)
        have hwon := Lib.hid (fun hq => accP_won HVok.out hv hq)
        dsimp only at hfew hwon
        have HSN := Lib.hid (accP_snoc (V := V) (Y := winner l V) HX.out)
        have CQ := Lib.hid (fun w' : World => quorum_any (n : Int) w' (by omega) (by omega))
        rw [hlen] at hfew hwon
        generalize hS : stS e t' = S at *
        generalize hC : textS (e + 1) nx' = C at *
        generalize cntC V (t', nx') = cN at *
        clear o1 v1 hany hrob o2 v2 hwok hcw hgd hwo hvx hn1 hn2
        go_upto_region 8 with (fail)
        have hba := below_alloc wr (.cells #[.string S, .string C, .string t', .slice a' n' d'] 81 (0, 0))
        have KV := Lib.hid (blk_alloc wr (.cells #[.string S, .string C, .string t', .slice a' n' d'] 81 (0, 0)))
        have HO4 := Lib.hid (HO.out.old hba)
        have KZ4 := Lib.hid (blk_below KZ.out hba)
        have B4 := Lib.hid (bthen HW.out hba)
        have KP4 := Lib.hid (blk_below KPr.out hba)
        have HLK4 := Lib.hid (fun w' hb' => HLK.out w' (bthen hba hb'))
        have hzw := HW.out.size
        have hba4 := Lib.hid hba
        have HNX := Lib.hid (show ∀ w', Keep (fun k => w.heap.size ≤ k) wr w' → SlAt Sh.int w' a' n' d' nx' from fun w' hk => HROB.out w' ((Keep.refl (Free M p mv mc) wr).trans hk (fun j _ hj => .inl (fun hm => by have := HT.out.lt j hm; omega))))
        clear p2 hlk hc hba HTr HO KZ HLK KPr HROB
        generalize hw4 : wr.alloc (.cells #[.string S, .string C, .string t', .slice a' n' d'] 81 (0, 0)) = w4 at *
        have p3 : w4.cell? ⟨p, 3, none⟩ = some (.map (some mc)) := by rw [blk_cell KP4.out]; rfl
        have p1 : w4.cell? ⟨p, 1, none⟩ = some (.slice (some ⟨bb, o, none⟩) n c) := by rw [blk_cell KP4.out]; rfl
        have v0 : w4.cell? ⟨wr.heap.size, 0, none⟩ = some (.string S) := by rw [blk_cell KV.out]; rfl
        have v1 : w4.cell? ⟨wr.heap.size, 1, none⟩ = some (.string C) := by rw [blk_cell KV.out]; rfl
        have hy1 := World.block_lt p3
        have hy2 := World.block_lt v0
        cases hq : decide ((cN : Int) < quorumP (n : Int)) with
        | true =>
          have hacc := Lib.hid (show accP V (winner l V) (l.take (k + 1)) = accP V (winner l V) (l.take k) by rw [HSN.out, hfew.out (by have := of_decide_eq_true hq; omega), List.append_nil])
          refine wp_region_below (by kernel_rfl) (by kernel_rfl) ?_
          repeat (refine wpQuiet_step (fun K hK => ?_); go_simp; first | (refine hK _ ?_; clear hK K) | (apply Exists.intro; refine ⟨fun w' hw' => ?_, hK _ ?_⟩; (first | (go_at_call 26; exact Calls.quiet_below_same hw' (CQ.out _)) | (have hlq := HLK4.out _ hw'; obtain ⟨cc, dd⟩ := bcell hw'; go_simp; rfl) | (with_reducible rfl) | (obtain ⟨cc, dd⟩ := bcell hw'; go_simp; rfl)); clear hK K))
          refine wpQuiet_nil ?_
          intro w5 h5
          have HO5 := Lib.hid (HO4.out.old h5)
          have KZ5 := Lib.hid (blk_below KZ4.out h5)
          have B5 := Lib.hid (bthen B4.out h5)
          clear h5 p3 p1 v0 v1 HLK4 CQ
          go_wp2_with fail
          go_roundw
          case rel => exact ⟨k + 1, by omega, by go_num, by rw [hacc.out]; exact HO5, KZ5, B5⟩
          case measure => simp [intOf]; omega
        | false =>
          obtain ⟨hY, hacc1⟩ := hwon.out (by have := of_decide_eq_false hq; omega)
          have hacc := Lib.hid (show accP V (winner l V) (l.take (k + 1)) = accP V (winner l V) (l.take k) ++ [x'] by rw [HSN.out, hacc1])
          have HY := Lib.hid hY
          clear hacc1 hY
          refine wp_region_below (by kernel_rfl) (by kernel_rfl) ?_
          repeat (refine wpQuiet_step (fun K hK => ?_); go_simp; first | (refine hK _ ?_; clear hK K) | (apply Exists.intro; refine ⟨fun w' hw' => ?_, hK _ ?_⟩; (first | (go_at_call 26; exact Calls.quiet_below_same hw' (CQ.out _)) | (have hlq := HLK4.out _ hw'; obtain ⟨cc, dd⟩ := bcell hw'; go_simp; rfl) | (with_reducible rfl) | (obtain ⟨cc, dd⟩ := bcell hw'; go_simp; rfl)); clear hK K))
          refine wpQuiet_nil ?_
          intro w5 h5
          have HO5 := Lib.hid (HO4.out.old h5)
          have KZ5 := Lib.hid (blk_below KZ4.out h5)
          have KV5 := Lib.hid (blk_below KV.out h5)
          have KP5 := Lib.hid (blk_below KP4.out h5)
          have KW5 := Lib.hid (Keep.of_below (X := fun k => w.heap.size ≤ k) (bthen hba4.out h5))
          have B5 := Lib.hid (bthen B4.out h5)
          clear h5 p3 p1 v0 v1 HLK4 CQ HO4 KZ4 KV KP4 B4 hba4
          obtain ⟨tx, a1, c1, ep, a2, n2, c2, a3, c3, ko, r1, r3, hdis, hst⟩ := HO5.out
          have KO5 := Lib.hid ko
          have R1 := Lib.hid r1; have R3 := Lib.hid r3; have HDIS := Lib.hid hdis
          have hz5 := B5.out.size
          have hzo := blk_lt ko
          have hvo : wr.heap.size ≠ w.heap.size + 1 := fun h => by
            have h1 := KV5.out
            rw [h, ko] at h1
            injection h1 with h1
            injection h1 with _ h1 _
            revert h1; decide
          have hpo : p ≠ w.heap.size + 1 := by omega
          have v2 : w5.cell? ⟨wr.heap.size, 2, none⟩ = some (.string t') := by rw [blk_cell KV5.out]; rfl
          have o0 : w5.cell? ⟨w.heap.size + 1, 0, none⟩ = some (.string tx) := by rw [blk_cell ko]; rfl
          have f0 := blk_frozen ko 0
          clear r1 r3 hdis ko hst HO5
          generalize hac : accP V (winner l V) (l.take k) = acc at *
          go_upto_region 10 with (fail)
          have KO6 := Lib.hid (blk_set KO5.out 0 (.string t'))
          have KZ6 := Lib.hid (blk_set_other KZ5.out (w.heap.size + 1) 0 (.string t') (by omega))
          have KV6 := Lib.hid (blk_set_other KV5.out (w.heap.size + 1) 0 (.string t') hvo)
          have KP6 := Lib.hid (blk_set_other KP5.out (w.heap.size + 1) 0 (.string t') hpo)
          have R16 := Lib.hid (owns_setlow R1.out (g := w.heap.size + 1) (by omega) 0 (.string t'))
          have R36 := Lib.hid (owns_setlow R3.out (g := w.heap.size + 1) (by omega) 0 (.string t'))
          have B6 := Lib.hid (show Below w.heap.size w (w5.setCell ⟨w.heap.size + 1, 0, none⟩ (.string t')) from B5.out.setCell (by show w.heap.size ≤ w.heap.size + 1; omega) _)
          have KW6 := Lib.hid (KW5.out.set (p := w.heap.size + 1) (.inr (by omega)) 0 (.string t'))
          clear v2 o0 f0 KO5 KZ5 KV5 KP5 R1 R3 B5 KW5 hz5
          simp only [List.setIfInBounds_toArray, List.set_cons_zero] at KO6
          generalize w5.setCell ⟨w.heap.size + 1, 0, none⟩ (.string t') = w6 at *
          have hz6 := B6.out.size
          have hew : IntKind.i64.wrap (e + 1) = e + 1 := IntWalk.i64_in _ (by omega)
          refine wp_region_made 10 (setR w6.heap.size p wr.heap.size e a' n' d' nx') (fun _ _ => none) rfl (by kernel_rfl) (by kernel_rfl) setR_stab (fun _ _ _ _ _ h => by cases h) (fun i oo hi ho => ?_) (fun vs w7 hb7 hs hne => ?_)
          · intro ac wa hba hE hF K hK
            have b7 := below_undrew hba
            have KPa := blk_below KP6.out b7
            have KVa := blk_below KV6.out b7
            have z0 : wa.cell? ⟨p, 0, none⟩ = some (.int .i64 e) := by rw [blk_cell KPa]; rfl
            have z3 : wa.cell? ⟨wr.heap.size, 3, none⟩ = some (.slice a' n' d') := by rw [blk_cell KVa]; rfl
            have hno : ∀ k, (none : Option Nat) = some k → wa.heap.size ≤ k := fun _ h => by cases h
            have hi' : i = 0 ∨ i = 1 ∨ i = 2 ∨ i = 3 ∨ i = 4 ∨ i = 5 ∨ i = 6 ∨ i = 7 ∨ i = 8 ∨ i = 9 := by omega
            rcases hi' with rfl | rfl | rfl | rfl | rfl | rfl | rfl | rfl | rfl | rfl
            · obtain rfl := Option.some.inj ho
              have h1 : ac.eval (.tmp 0) = .pointer (some ⟨p, 0, none⟩) := hE 0 (by decide)
              exact news_val rfl rfl (by generalize ac.eval = ρ at h1; simp only [execOp]; go_simp) (hK _ _ (Below.refl _ _) rfl hno)
            · obtain rfl := Option.some.inj ho
              have h1 : ac.eval (.tmp 53) = .pointer (some ⟨p, 0, none⟩) := hF ⟨0, .data⟩ (by simp) rfl 53 rfl
              exact news_val rfl rfl (by generalize ac.eval = ρ at h1; simp only [execOp]; go_simp) (hK _ _ (Below.refl _ _) rfl hno)
            · obtain rfl := Option.some.inj ho
              have h1 : ac.eval (.tmp 54) = .pointer (some ⟨p, 0, none⟩) := hF ⟨1, .data⟩ (by simp) rfl 54 rfl
              exact news_val rfl rfl (by generalize ac.eval = ρ at h1; simp only [execOp]; go_simp) (hK _ _ (Below.refl _ _) rfl hno)
            · obtain rfl := Option.some.inj ho
              have h1 : ac.eval (.tmp 55) = .pointer (some ⟨p, 0, none⟩) := hF ⟨2, .data⟩ (by simp) rfl 55 rfl
              exact news_val rfl rfl (by generalize ac.eval = ρ at h1; simp only [execOp]; go_simp) (hK _ _ (Below.refl _ _) rfl hno)
            · obtain rfl := Option.some.inj ho
              have h1 : ac.eval (.tmp 56) = .pointer (some ⟨p, 0, none⟩) := hF ⟨3, .data⟩ (by simp) rfl 56 rfl
              exact news_val rfl rfl (by generalize ac.eval = ρ at h1; simp only [execOp]; go_simp) (hK _ _ (Below.refl _ _) rfl hno)
            · obtain rfl := Option.some.inj ho
              have h1 : ac.eval (.tmp 57) = .int .i64 e := hF ⟨4, .data⟩ (by simp) rfl 57 rfl
              have h2 : ac.eval (.const (.int .i64 1)) = .int .i64 1 := rfl
              exact news_val rfl rfl (by generalize ac.eval = ρ at h1 h2; simp only [execOp]; go_simp) (hK _ _ (Below.refl _ _) rfl hno)
            · obtain rfl := Option.some.inj ho
              have h1 : ac.eval (.tmp 7) = .pointer (some ⟨wr.heap.size, 0, none⟩) := hE 7 (by decide)
              exact news_val rfl rfl (by generalize ac.eval = ρ at h1; simp only [execOp]; go_simp) (hK _ _ (Below.refl _ _) rfl hno)
            · obtain rfl := Option.some.inj ho
              have h1 : ac.eval (.tmp 59) = .pointer (some ⟨wr.heap.size, 3, none⟩) := hF ⟨6, .data⟩ (by simp) rfl 59 rfl
              exact news_val rfl rfl (by generalize ac.eval = ρ at h1; simp only [execOp]; go_simp) (hK _ _ (Below.refl _ _) rfl hno)
            · obtain rfl := Option.some.inj ho
              have h1 : ac.eval (.tmp 60) = .slice a' n' d' := hF ⟨7, .data⟩ (by simp) rfl 60 rfl
              have h2 : ac.eval (.func 35) = .func (.func 35) #[] #[] := rfl
              have hN := HNX.out wa (KW6.out.trans (X' := fun _ => False) (Keep.of_below b7) (fun _ _ h => h.elim))
              have hNb : n' * 8 ≤ 140737488355328 := hN.bytes
              refine made_call rfl rfl 35 #[.slice a' n' d'] (by generalize ac.eval = ρ at h1 h2; simp only [execOp]; go_simp) (clone_ints a' n' d' nx' wa (ints_of_sl hN) (fun hn => ⟨hN.nil hn, by have := hN.nil hn; have := hN.cap; omega⟩) hNb) ?_
              rintro r w8 ⟨v6, rfl, ho6, b6⟩
              obtain ⟨a6, c6, rfl⟩ := owns_form ho6
              exact ⟨_, rfl, hK _ _ b6 ⟨a6, c6, rfl, owns_lower ho6 b7.size⟩ (fun _ h => by cases h)⟩
            · obtain rfl := Option.some.inj ho
              have h1 : ac.eval (.tmp 58) = .int .i64 (e + 1) := hF ⟨5, .data⟩ (by simp) rfl 58 rfl
              obtain ⟨a6, c6, h3, h4⟩ : ∃ a6 c6, ac.eval (.tmp 61) = .slice a6 n' c6 ∧ wa.ownsRow w6.heap.size 3 1 (.slice a6 n' c6) n' (intsV nx') := hF ⟨8, .data⟩ (by simp) rfl 61 rfl
              exact news_val rfl rfl (by generalize ac.eval = ρ at h1 h3; simp only [execOp]; go_simp) (hK _ _ (Below.refl _ _) ⟨a6, c6, rfl, h4⟩ hno)
          · have e0 : vs 0 = _ := hs 0 (by omega)
            have e1 : vs 1 = _ := hs 1 (by omega)
            have e2 : vs 2 = _ := hs 2 (by omega)
            have e3 : vs 3 = _ := hs 3 (by omega)
            have e4 : vs 4 = _ := hs 4 (by omega)
            have e5 : vs 5 = _ := hs 5 (by omega)
            have e6 : vs 6 = _ := hs 6 (by omega)
            have e7 : vs 7 = _ := hs 7 (by omega)
            obtain ⟨a8, c8, e8, -⟩ : ∃ a6 c6, vs 8 = .slice a6 n' c6 ∧ w7.ownsRow w6.heap.size 3 1 (.slice a6 n' c6) n' (intsV nx') := hs 8 (by omega)
            obtain ⟨a6, c6, e9, ho6⟩ : ∃ a6 c6, vs 9 = .agg #[.int .i64 (e + 1), .slice a6 n' c6] ∧ w7.ownsRow w6.heap.size 3 1 (.slice a6 n' c6) n' (intsV nx') := hs 9 (by omega)
            show wpList _ _ _ _ ((((((((((Act.put _ (some 53) (vs 0)).put (some 54) (vs 1)).put (some 55) (vs 2)).put (some 56) (vs 3)).put (some 57) (vs 4)).put (some 58) (vs 5)).put (some 59) (vs 6)).put (some 60) (vs 7)).put (some 61) (vs 8)).put (some 62) (vs 9)) _
            rw [e0, e1, e2, e3, e4, e5, e6, e7, e8, e9]
            clear e0 e1 e2 e3 e4 e5 e6 e7 e8 e9 hs hne vs
            have hzw6 : w.heap.size + 2 ≤ w6.heap.size := by have := blk_lt KO6.out; omega
            have KO7 := blk_below KO6.out hb7
            have o2 : w7.cell? ⟨w.heap.size + 1, 2, none⟩ = some (.int .i64 ep) := by rw [blk_cell KO7]; rfl
            have o3 : w7.cell? ⟨w.heap.size + 1, 3, none⟩ = some (.slice a2 n2 c2) := by rw [blk_cell KO7]; rfl
            have f2 := blk_frozen KO7 2
            have f3 := blk_frozen KO7 3
            have hnl : nx'.length = n' := by
              have := (HNX.out wr (Keep.refl _ _)).len
              exact this
            -- behind the two stores
            have k8 := blk_set KO7 2 (.int .i64 (e + 1))
            have k9 := blk_set k8 3 (.slice a6 n' c6)
            simp only [List.setIfInBounds_toArray, List.set_cons_zero, List.set_cons_succ] at k9
            have KO9 := Lib.hid k9
            have KZ9 := Lib.hid (blk_set_other (blk_set_other (blk_below KZ6.out hb7) (w.heap.size + 1) 2 (.int .i64 (e + 1)) (by omega)) (w.heap.size + 1) 3 (.slice a6 n' c6) (by omega))
            have KV9 := Lib.hid (blk_set_other (blk_set_other (blk_below KV6.out hb7) (w.heap.size + 1) 2 (.int .i64 (e + 1)) hvo) (w.heap.size + 1) 3 (.slice a6 n' c6) hvo)
            have R19 := Lib.hid (owns_setlow (owns_setlow (owns_old R16.out hb7) (g := w.heap.size + 1) (by omega) 2 (.int .i64 (e + 1))) (g := w.heap.size + 1) (by omega) 3 (.slice a6 n' c6))
            have R39 := Lib.hid (owns_setlow (owns_setlow (owns_old R36.out hb7) (g := w.heap.size + 1) (by omega) 2 (.int .i64 (e + 1))) (g := w.heap.size + 1) (by omega) 3 (.slice a6 n' c6))
            have RM9 := Lib.hid (owns_setlow (owns_setlow (owns_lower (B' := w.heap.size + 1 + 1) ho6 (by omega)) (g := w.heap.size + 1) (by omega) 2 (.int .i64 (e + 1))) (g := w.heap.size + 1) (by omega) 3 (.slice a6 n' c6))
            have B9 := Lib.hid (show Below w.heap.size w ((w7.setCell ⟨w.heap.size + 1, 2, none⟩ (.int .i64 (e + 1))).setCell ⟨w.heap.size + 1, 3, none⟩ (.slice a6 n' c6)) from ((bthen B6.out hb7).setCell (by show w.heap.size ≤ w.heap.size + 1; omega) _).setCell (by show w.heap.size ≤ w.heap.size + 1; omega) _)
            clear hb7 ho6 k8 k9 KO7 KO6 KZ6 KV6 KP6 R16 R36 B6 KW6
            simp only [List.drop_succ_cons, List.drop_zero, Act.put, List.setIfInBounds_toArray, List.set_cons_succ, List.set_cons_zero]
            go_upto_region 11 with (fail)
            have hsOf : sOf e (winner l V) = S := by rw [HY.out]; exact hS
            have hcOf : cOf e (winner l V) = C := by rw [HY.out]; exact hC
            rw [hsOf] at R19
            rw [hcOf] at R39
            generalize (w7.setCell ⟨w.heap.size + 1, 2, none⟩ (.int .i64 (e + 1))).setCell ⟨w.heap.size + 1, 3, none⟩ (.slice a6 n' c6) = w9 at *
            clear o2 o3 f2 f3
            have hlac : acc.length ≤ 10 := by
              rw [← hac]
              refine Nat.le_trans (List.length_filter_le _ _) ?_
              rw [List.length_take]; omega
            have o1 : w9.cell? ⟨w.heap.size + 1, 1, none⟩ = some (.slice a1 acc.length c1) := by rw [blk_cell KO9.out]; rfl
            have v0 : w9.cell? ⟨wr.heap.size, 0, none⟩ = some (.string S) := by rw [blk_cell KV9.out]; rfl
            have hz9 := blk_lt KO9.out
            have ba := below_alloc w9 (.cells #[.int .i64 x', .string S] 47 (0, 0))
            have hlt1 := R19.out.lt
            have hlt3 := R39.out.lt
            have hdm := rows_ne RM9.out R19.out (by decide)
            have hdm3 := rows_ne RM9.out R39.out (by decide)
            go_wp2_with (first | (at_builtin; refine wpList_append_lies _ rfl (.tmp 66) (.tmp 72) 39 rfl (w.heap.size + 1 + 1) 47 ii (.agg #[.int .i64 0, .string ⟨#[]⟩]) 2 24 Try.underlying39 hi hz0 hz1 hz2 rfl (by decide) (.slice a1 acc.length c1) acc.length _ rfl (owns_old R19.out ba) ⟨w9.heap.size, 0, none⟩ 1 1 [.int .i64 x', .string S] rfl rfl (one_new w9 x' S) (by simp [Value.oneCell']) (by decide) (by unfold maxLen; omega) (by omega) (by simp; omega) _ rfl ?_) | fail)
            intro g8 cap8 w11 hown8 hg8 hor8 hlt8
            have K11 : Keep (fun j => (Value.slice a1 acc.length c1).ownBlock = some j) w9 w11 := (Keep.of_below ba).grown hg8 (fun j hj => .inr hj)
            have ko11 : w11.heap[w.heap.size + 1]? = _ := (K11.block _ hz9 (fun h => by have := (hlt1 _ h).1; omega)).trans KO9.out
            have kz11 : w11.heap[w.heap.size]? = _ := (K11.block _ (by omega) (fun h => by have := (hlt1 _ h).1; omega)).trans KZ9.out
            have kv11 : w11.heap[wr.heap.size]? = _ := (K11.block _ (blk_lt KV9.out) (fun h => by
              rcases R19.out.2 with ⟨h0, _⟩ | ⟨g, cap, cur, h0, _, hg, _⟩
              · rw [h0] at h; cases h
              · rw [h0] at h
                have h1 : g = wr.heap.size := by simpa [Value.ownBlock] using h
                rw [h1, KV9.out] at hg
                injection hg with hg
                injection hg with _ hg _
                revert hg; decide)).trans KV9.out
            have r3_11 := owns_keep R39.out K11 (fun j hj hj' => HDIS.out j hj' hj)
            have rm_11 := owns_keep RM9.out K11 (fun j hj hj' => hdm j hj hj')
            have b11 : Below w.heap.size w w11 := K11.below B9.out (fun j hj => by have := (hlt1 j hj).1; omega)
            have f1 := blk_frozen ko11 1
            have o1 : w11.cell? ⟨w.heap.size + 1, 1, none⟩ = some (.slice a1 acc.length c1) := by rw [blk_cell ko11]; rfl
            have hz11 := blk_lt ko11
            have hdis3 : ∀ j, (Value.slice (some ⟨g8, 0, none⟩) (acc.length + 1) cap8).ownBlock = some j → (Value.slice a3 acc.length c3).ownBlock ≠ some j := fun j hj hj3 => by
              have hgj : g8 = j := by simpa [Value.ownBlock] using hj
              rcases hor8 with h | h
              · exact HDIS.out g8 h (by rw [hgj]; exact hj3)
              · have := (hlt3 j hj3).2
                have hh : g8 = w9.heap.size + 1 := by simpa using h
                omega
            -- the store
            have k12 := blk_set ko11 1 (.slice (some ⟨g8, 0, none⟩) (acc.length + 1) cap8)
            simp only [List.setIfInBounds_toArray, List.set_cons_zero, List.set_cons_succ] at k12
            have KO12 := Lib.hid k12
            have KZ12 := Lib.hid (blk_set_other kz11 (w.heap.size + 1) 1 (.slice (some ⟨g8, 0, none⟩) (acc.length + 1) cap8) (by omega))
            have KV12 := Lib.hid (blk_set_other kv11 (w.heap.size + 1) 1 (.slice (some ⟨g8, 0, none⟩) (acc.length + 1) cap8) hvo)
            have R112 := Lib.hid (owns_setlow hown8 (g := w.heap.size + 1) (by omega) 1 (.slice (some ⟨g8, 0, none⟩) (acc.length + 1) cap8))
            have R312 := Lib.hid (owns_setlow r3_11 (g := w.heap.size + 1) (by omega) 1 (.slice (some ⟨g8, 0, none⟩) (acc.length + 1) cap8))
            have RM12 := Lib.hid (owns_setlow rm_11 (g := w.heap.size + 1) (by omega) 1 (.slice (some ⟨g8, 0, none⟩) (acc.length + 1) cap8))
            have B12 := Lib.hid (show Below w.heap.size w (w11.setCell ⟨w.heap.size + 1, 1, none⟩ (.slice (some ⟨g8, 0, none⟩) (acc.length + 1) cap8)) from b11.setCell (by show w.heap.size ≤ w.heap.size + 1; omega) _)
            have HD12 := Lib.hid hdis3
            clear hown8 hg8 hor8 hlt8 K11 kz11 kv11 r3_11 rm_11 b11 k12 hdis3 hlt1 hdm R19 R39 RM9 KO9 KZ9 KV9 B9 ba v0 hz9 HDIS
            go_upto_region 12 with (fail)
            generalize w11.setCell ⟨w.heap.size + 1, 1, none⟩ (.slice (some ⟨g8, 0, none⟩) (acc.length + 1) cap8) = w12 at *
            clear o1 f1 ko11 hz11 hlt3 hdm3
            have o4 : w12.cell? ⟨w.heap.size + 1, 4, none⟩ = some (.slice a3 acc.length c3) := by rw [blk_cell KO12.out]; rfl
            have v1 : w12.cell? ⟨wr.heap.size, 1, none⟩ = some (.string C) := by rw [blk_cell KV12.out]; rfl
            have hz12 := blk_lt KO12.out
            have ba := below_alloc w12 (.cells #[.int .i64 x', .string C] 47 (0, 0))
            have hlt1 := R112.out.lt
            have hlt3 := R312.out.lt
            have hdm3 := rows_ne RM12.out R312.out (by decide)
            go_wp2_with (first | (at_builtin; refine wpList_append_lies _ rfl (.tmp 77) (.tmp 83) 39 rfl (w.heap.size + 1 + 1) 47 ii (.agg #[.int .i64 0, .string ⟨#[]⟩]) 2 24 Try.underlying39 hi hz0 hz1 hz2 rfl (by decide) (.slice a3 acc.length c3) acc.length _ rfl (owns_old R312.out ba) ⟨w12.heap.size, 0, none⟩ 1 1 [.int .i64 x', .string C] rfl rfl (one_new w12 x' C) (by simp [Value.oneCell']) (by decide) (by unfold maxLen; omega) (by omega) (by simp; omega) _ rfl ?_) | fail)
            intro g9 cap9 w13 hown9 hg9 hor9 hlt9
            have K13 : Keep (fun j => (Value.slice a3 acc.length c3).ownBlock = some j) w12 w13 := (Keep.of_below ba).grown hg9 (fun j hj => .inr hj)
            have ko13 : w13.heap[w.heap.size + 1]? = _ := (K13.block _ hz12 (fun h => by have := (hlt3 _ h).1; omega)).trans KO12.out
            have kz13 : w13.heap[w.heap.size]? = _ := (K13.block _ (by omega) (fun h => by have := (hlt3 _ h).1; omega)).trans KZ12.out
            have r1_13 := owns_keep R112.out K13 (fun j hj hj' => HD12.out j hj hj')
            have rm_13 := owns_keep RM12.out K13 (fun j hj hj' => hdm3 j hj hj')
            have b13 : Below w.heap.size w w13 := K13.below B12.out (fun j hj => by have := (hlt3 j hj).1; omega)
            have f4 := blk_frozen ko13 4
            have o4 : w13.cell? ⟨w.heap.size + 1, 4, none⟩ = some (.slice a3 acc.length c3) := by rw [blk_cell ko13]; rfl
            have hdis3 : ∀ j, (Value.slice (some ⟨g8, 0, none⟩) (acc.length + 1) cap8).ownBlock = some j → (Value.slice (some ⟨g9, 0, none⟩) (acc.length + 1) cap9).ownBlock ≠ some j := fun j hj hj3 => by
              have hgj : g9 = j := by simpa [Value.ownBlock] using hj3
              rcases hor9 with h | h
              · exact HD12.out j hj (by rw [← hgj]; exact h)
              · have := (hlt1 j hj).2
                have hh : g9 = w12.heap.size + 1 := by simpa using h
                omega
            have k14 := blk_set ko13 4 (.slice (some ⟨g9, 0, none⟩) (acc.length + 1) cap9)
            simp only [List.setIfInBounds_toArray, List.set_cons_zero, List.set_cons_succ] at k14
            have KZ14 := Lib.hid (blk_set_other kz13 (w.heap.size + 1) 4 (.slice (some ⟨g9, 0, none⟩) (acc.length + 1) cap9) (by omega))
            have hsv : ∀ Z : ByteArray, sigV (acc.map fun x => (x, Z)) ++ [.int .i64 x', .string Z] = sigV ((acc ++ [x']).map fun x => (x, Z)) := fun Z => by simp [sigV]
            have hal : (acc ++ [x']).length = acc.length + 1 := by simp
            have HO14 := Lib.hid (show OutAt (w13.setCell ⟨w.heap.size + 1, 4, none⟩ (.slice (some ⟨g9, 0, none⟩) (acc.length + 1) cap9)) (w.heap.size + 1) e (winner l V) (acc ++ [x']) from by
              unfold OutAt
              rw [hal, hsOf, hcOf, ← hsv, ← hsv]
              exact ⟨t', some ⟨g8, 0, none⟩, cap8, e + 1, a6, n', c6, some ⟨g9, 0, none⟩, cap9, k14, owns_setlow r1_13 (g := w.heap.size + 1) (by omega) 4 _, owns_setlow hown9 (g := w.heap.size + 1) (by omega) 4 _, hdis3, .inr ⟨(t', nx'), HY.out, rfl, rfl, owns_setlow rm_13 (g := w.heap.size + 1) (by omega) 4 _, hnl⟩⟩)
            have B14 := Lib.hid (show Below w.heap.size w (w13.setCell ⟨w.heap.size + 1, 4, none⟩ (.slice (some ⟨g9, 0, none⟩) (acc.length + 1) cap9)) from b13.setCell (by show w.heap.size ≤ w.heap.size + 1; omega) _)
            clear hown9 hg9 hor9 hlt9 K13 kz13 r1_13 rm_13 b13 hdis3 hlt1 hlt3 hdm3 R112 R312 RM12 KO12 KZ12 KV12 B12 ba hz12 HD12 k14
            go_wp2_with fail
            go_roundw
            case rel => exact ⟨k + 1, by omega, by go_num, by rw [hacc.out]; exact HO14, KZ14, B14⟩
            case measure => simp [intOf]; omega
    · have hkn : k = n := by omega
      subst hkn
      have hd : decide ((k : Int) < (k : Int)) = false := by simp
      have hT : l.take k = l := List.take_of_length_le (by omega)
      rw [hT] at HO
      have HV := HVok.out
      have hfin := HO.out
      have B9 := HW.out
      generalize hacc : accP V (winner l V) l = acc at *
      obtain ⟨tx, a1, c1, ep, a2, n2, c2, a3, c3, ko, r1, r3, hdis, hst⟩ := hfin
      have hlac : acc.length ≤ 10 := by rw [← hacc]; exact Nat.le_trans (List.length_filter_le _ _) (by omega)
      have HSP := Lib.hid (show ∀ w', Keep (fun j => j = w.heap.size) wr w' → SetPost e l V w (.returned (.tuple #[.agg #[.string tx, .slice a1 acc.length c1, .int .i64 ep, .slice a2 n2 c2, .slice a3 acc.length c3], .bool (decide ((0 : Int) < (acc.length : Int)))])) w' from fun w' hk => by
        refine ⟨hk.below B9 (fun j hj => by omega), ?_⟩
        have hk1 := fun j hj => (r1.lt j hj).1
        have hk3 := fun j hj => (r3.lt j hj).1
        cases hw : winner l V with
        | none =>
          have ha0 : acc = [] := by rw [← hacc, hw]; unfold accP; simp
          subst ha0
          rcases hst with ⟨-, g1, g2, g3, g4, g5⟩ | ⟨y, g1, _⟩
          · show Ending.returned _ = _
            rw [g1, g2, g3, g4, g5]; rfl
          · rw [hw] at g1; cases g1
        | some y =>
          have ha0 : acc = who l V y := by rw [← hacc, hw]; rfl
          have hwl := who_len HV (right_nodup HV.right) y
          have hq := (winner_some hw).1
          have hqp := quorum_pos (n := l.length) (by omega)
          have hpos : 0 < acc.length := by rw [ha0, hwl]; omega
          rcases hst with ⟨g0, _⟩ | ⟨y', g1, g2, g3, g4, g5⟩
          · rw [g0] at hpos; cases hpos
          · rw [hw] at g1
            injection g1 with g1
            subst g1
            have hd0 : decide ((0 : Int) < (acc.length : Int)) = true := by simp; omega
            have hok := HV.good
            have hsOf : sOf e (winner l V) = stS e y.1 := by rw [hw]; rfl
            have hcOf : cOf e (winner l V) = textS (e + 1) y.2 := by rw [hw]; rfl
            rw [hsOf] at r1
            rw [hcOf] at r3
            rw [hd0, g2, g3]
            clear hacc
            subst ha0
            refine ⟨a1, c1, a2, n2, c2, a3, c3, rfl, fun w'' hk2 => ?_⟩
            obtain ⟨xv, hxv⟩ := (winner_some hw).2
            obtain ⟨hgv, hmv, hsv⟩ := HV.good _ hxv
            have hsv : y.1.size ≤ 140737488355328 := hsv
            have hrn := rightB_rising (vGood_parts hgv).2.2
            have hzz := B9.size
            have hk3' : Keep (fun j => j ≤ w.heap.size) wr w'' := ((Keep.refl (fun j => j ≤ w.heap.size) wr).trans hk (fun j _ hj => by omega)).trans hk2 (fun j _ hj => by omega)
            have q1 := owns_keep r1 hk3' (fun j hj => by have := hk1 j hj; omega)
            have q3 := owns_keep r3 hk3' (fun j hj => by have := hk3 j hj; omega)
            have q2 := owns_keep g4 hk3' (fun j hj => by have := (g4.lt j hj).1; omega)
            have hmem : ∀ j ∈ who l V y, i64 j := fun j hj => by
              have := risingB_range hre.2.2 j (List.mem_filter.1 hj).1
              unfold i64; omega
            refine ⟨sigs_row q1 (by simp) (fun s hs => ?_) (by omega), ints_row q2 g5 (fun j hj => by have := risingB_range hrn.2.2 j hj; unfold i64; omega) (by have h4 : 4 ≤ y.2.length ∧ y.2.length ≤ 10 := risingB_len hrn.2.2; omega), sigs_row q3 (by simp) (fun s hs => ?_) (by omega)⟩
            · obtain ⟨j, hj, rfl⟩ := List.mem_map.1 hs
              exact ⟨hmem j hj, by have := hdText_size 83 (4 * (e + 1)) y.1; show (stS e y.1).size ≤ _; unfold stS; omega⟩
            · obtain ⟨j, hj, rfl⟩ := List.mem_map.1 hs
              exact ⟨hmem j hj, by have := textS_size (e + 1) y.2; show (textS (e + 1) y.2).size ≤ _; omega⟩)
      have KO := Lib.hid ko
      have hzz := B9.size
      clear hst r1 r3 hdis hacc B9 HV HO HL HT HVok KP
      go_upto_region 14 with (fail)
      have kz := KZ.out
      have z0 : wr.cell? ⟨w.heap.size + 1, 0, none⟩ = some (.string tx) := by rw [blk_cell ko]; rfl
      have z1 : wr.cell? ⟨w.heap.size + 1, 1, none⟩ = some (.slice a1 acc.length c1) := by rw [blk_cell ko]; rfl
      have z2 : wr.cell? ⟨w.heap.size + 1, 2, none⟩ = some (.int .i64 ep) := by rw [blk_cell ko]; rfl
      have z3 : wr.cell? ⟨w.heap.size + 1, 3, none⟩ = some (.slice a2 n2 c2) := by rw [blk_cell ko]; rfl
      have z4 : wr.cell? ⟨w.heap.size + 1, 4, none⟩ = some (.slice a3 acc.length c3) := by rw [blk_cell ko]; rfl
      have d0 : wr.cell? ⟨w.heap.size, 0, none⟩ = some (.string ⟨#[]⟩) := by rw [blk_cell kz]; rfl
      have d1 : wr.cell? ⟨w.heap.size, 1, none⟩ = some (.slice none 0 0) := by rw [blk_cell kz]; rfl
      have d2 : wr.cell? ⟨w.heap.size, 2, none⟩ = some (.int .i64 0) := by rw [blk_cell kz]; rfl
      have d3 : wr.cell? ⟨w.heap.size, 3, none⟩ = some (.slice none 0 0) := by rw [blk_cell kz]; rfl
      have d4 : wr.cell? ⟨w.heap.size, 4, none⟩ = some (.slice none 0 0) := by rw [blk_cell kz]; rfl
      have f0 := blk_frozen kz 0; have f1 := blk_frozen kz 1; have f2 := blk_frozen kz 2; have f3 := blk_frozen kz 3; have f4 := blk_frozen kz 4
      have KW := (((((Keep.refl (fun j => j = w.heap.size) wr).set (p := w.heap.size) (.inr rfl) 0 (.string tx)).set (p := w.heap.size) (.inr rfl) 1 (.slice a1 acc.length c1)).set (p := w.heap.size) (.inr rfl) 2 (.int .i64 ep)).set (p := w.heap.size) (.inr rfl) 3 (.slice a2 n2 c2)).set (p := w.heap.size) (.inr rfl) 4 (.slice a3 acc.length c3)
      have k5 := blk_set (blk_set (blk_set (blk_set (blk_set kz 0 (.string tx)) 1 (.slice a1 acc.length c1)) 2 (.int .i64 ep)) 3 (.slice a2 n2 c2)) 4 (.slice a3 acc.length c3)
      simp only [List.setIfInBounds_toArray, List.set_cons_zero, List.set_cons_succ] at k5
      have K5 := Lib.hid k5
      have HF := Lib.hid (HSP.out _ (KW.trans (X' := fun _ => False) (Keep.of_below (below_drewN (Below.refl _ _) 1)) (fun _ _ h => h.elim)))
      clear KW kz k5 HSP KO KZ
      go_region
      generalize (((((wr.setCell ⟨w.heap.size, 0, none⟩ (.string tx)).setCell ⟨w.heap.size, 1, none⟩ (.slice a1 acc.length c1)).setCell ⟨w.heap.size, 2, none⟩ (.int .i64 ep)).setCell ⟨w.heap.size, 3, none⟩ (.slice a2 n2 c2)).setCell ⟨w.heap.size, 4, none⟩ (.slice a3 acc.length c3)) = w9 at *
      clear z0 z1 z2 z3 z4 d0 d1 d2 d3 d4 f0 f1 f2 f3 f4 ko
      have e0 : w9.cell? ⟨w.heap.size, 0, none⟩ = some (.string tx) := by rw [blk_cell K5.out]; rfl
      have e1 : w9.cell? ⟨w.heap.size, 1, none⟩ = some (.slice a1 acc.length c1) := by rw [blk_cell K5.out]; rfl
      have e2 : w9.cell? ⟨w.heap.size, 2, none⟩ = some (.int .i64 ep) := by rw [blk_cell K5.out]; rfl
      have e3 : w9.cell? ⟨w.heap.size, 3, none⟩ = some (.slice a2 n2 c2) := by rw [blk_cell K5.out]; rfl
      have e4 : w9.cell? ⟨w.heap.size, 4, none⟩ = some (.slice a3 acc.length c3) := by rw [blk_cell K5.out]; rfl
      go_wp2_with fail
      exact bodyPost_ret (v := .tuple #[.agg #[.string tx, .slice a1 acc.length c1, .int .i64 ep, .slice a2 n2 c2, .slice a3 acc.length c3], .bool (decide ((0 : Int) < (acc.length : Int)))]) (by simp [results, Try.results18, go_sem, e0, e1, e2, e3, e4]) rfl HF.out

set_option maxHeartbeats 400000 in
theorem vsettled_nil (w : World) : Calls Try.prog 18 #[.pointer none] w fun r w' => r = .returned (.tuple #[.agg #[.string ⟨#[]⟩, .slice none 0 0, .int .i64 0, .slice none 0 0, .slice none 0 0], .bool false]) ∧ Below w.heap.size w w' := by
  have kz := blk_alloc w (.cells #[.string ⟨#[]⟩, .slice none 0 0, .int .i64 0, .slice none 0 0, .slice none 0 0] 51 (0, 0))
  have B := below_alloc w (.cells #[.string ⟨#[]⟩, .slice none 0 0, .int .i64 0, .slice none 0 0, .slice none 0 0] 51 (0, 0))
  go_enter Try.func18, Try.ntmps18
  go_wp2_with fail
  have e0 := blk_cell kz 0; have e1 := blk_cell kz 1; have e2 := blk_cell kz 2; have e3 := blk_cell kz 3; have e4 := blk_cell kz 4
  exact bodyPost_ret (v := .tuple #[.agg #[.string ⟨#[]⟩, .slice none 0 0, .int .i64 0, .slice none 0 0, .slice none 0 0], .bool false]) (by simp [results, Try.results18, go_sem, e0, e1, e2, e3, e4]) rfl ⟨rfl, B⟩
theorem vadd_nil (x : Int) (t : ByteArray) (b : Option Addr) (m d : Nat) (sa : Option Addr) (sn sc : Nat) (w : World) : Calls Try.prog 15 #[.pointer none, .int .i64 x, .string t, .slice b m d, .slice sa sn sc] w fun r w' => r = .returned (.int .i64 1) ∧ w = w' := by
  go_enter Try.func15, Try.ntmps15
  go_wp2_with fail
  go_ret
  exact ⟨rfl, rfl⟩
end Go.Proofs.Ytfhbjajhmegdmaa
