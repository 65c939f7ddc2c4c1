
/- The reference's tally of votes: what it is in memory; New. (printed by mkRv1.py) -/
import Derived.Test.YtfhbjajhmegdmaaVt3
import Derived.Test.YtfhbjajhmegdmaaCp
import Derived.Test.YtfhbjajhmegdmaaTr3
import Derived.Test.YtfhbjajhmegdmaaNews3
import Derived.Deep.AppendLies
namespace Go.Proofs.Ytfhbjajhmegdmaa
set_option maxRecDepth 100000
open Go.RowKit
set_option linter.unusedVariables false
set_option linter.unusedSimpArgs false

/-- A vote as the reference keeps it: whose, the bytes, the members to be, the signatures. -/
abbrev Rv := Int × ByteArray × List Int × List Sg
def shRv : Sh Rv := (Sh.int.pair (Sh.long.pair (Sh.int.slice.pair shSig.slice))).bytes 72
def rvOf (e : Int) (v : Vt) : Rv := (v.1, v.2.1, v.2.2, [(v.1, stS e v.2.1), (v.1, textS (e + 1) v.2.2)])
/-- What may be done to blocks, the parts of the reference's tally left as they are. -/
def FreeR (M : Nat → Prop) (q : Nat) (ol : Option Nat) : Nat → Prop := fun k => ¬ M k ∨ k = q ∨ ol = some k
structure RTal (M : Nat → Prop) (w : World) (q : Nat) (ol : Option Nat) (e : Int) (l : List Int) (V : List Vt) : Prop where
  lt : ∀ k, M k → k < w.heap.size
  mine : M q ∧ ∀ k, ol = some k → M k
  nol : ol ≠ some q
  ep : i64 e
  ex : ∃ vl xl a n c, w.heap[q]? = some (.cells #[.int .i64 e, .slice a n c, vl] 45 (0, 0)) ∧ Rob (FreeR M q ol) (fun w' => SlAt Sh.int w' a n c l) w ∧
    w.ownsRow 0 86 4 vl V.length xl ∧ vl.ownBlock = ol ∧ rowOf shRv (FreeR M q ol) w (V.map (rvOf e)) xl
theorem RTal.keep {M Y : Nat → Prop} {w w' : World} {q : Nat} {ol : Option Nat} {e : Int} {l : List Int} {V : List Vt} (h : RTal M w q ol e l V) (hk : Keep Y w w') (hY : ∀ k, Y k → ¬ M k) : RTal M w' q ol e l V := by
  obtain ⟨vl, xl, a, n, c, hp, hI, h1, e1, r1⟩ := h.ex
  refine ⟨fun k hm => Nat.lt_of_lt_of_le (h.lt k hm) hk.size, h.mine, h.nol, h.ep, vl, xl, a, n, c, ?_, hI.step hk (fun k _ hy => .inl (hY k hy)) (fun k _ hx => hx), owns_keep h1 hk (fun k hk' hy => ?_), e1, r1.step hk (fun k _ hy => .inl (hY k hy)) (fun k _ hx => hx)⟩
  · rw [hk.block q (blk_lt hp) (fun hy => hY _ hy h.mine.1)]; exact hp
  · rw [e1] at hk'
    exact hY k hy (h.mine.2 k hk')
theorem RTal.old {M : Nat → Prop} {w w' : World} {q : Nat} {ol : Option Nat} {e : Int} {l : List Int} {V : List Vt} (h : RTal M w q ol e l V) (hb : Below w.heap.size w w') : RTal M w' q ol e l V :=
  h.keep (Y := fun _ => False) (Keep.of_below hb) (fun _ hf => hf.elim)
/-- What a read of the tally meets: its cells, the members, the votes as a slice. -/
theorem RTal.view {M : Nat → Prop} {w : World} {q : Nat} {ol : Option Nat} {e : Int} {l : List Int} {V : List Vt} (h : RTal M w q ol e l V) (h1 : V.length ≤ 10) :
    ∃ a n c al cl, w.heap[q]? = some (.cells #[.int .i64 e, .slice a n c, .slice al V.length cl] 45 (0, 0)) ∧ SlAt Sh.int w a n c l ∧ SlAt shRv w al V.length cl (V.map (rvOf e)) := by
  obtain ⟨vl, xl, a, n, c, hp, hI, o1, e1, r1⟩ := h.ex
  obtain ⟨al, cl, rfl⟩ := owns_form o1
  refine ⟨a, n, c, al, cl, hp, hI.self, sl_of_row (B := 0) (e := 86) (xs := xl) ?_ r1 (by show _ * 72 ≤ _; omega)⟩
  rw [List.length_map]; exact o1
theorem rv_open {w : World} {y : Rv} {cs : List Value} (h : shRv.E w y cs) : ∃ x t nx sg a n c sa sn sc, y = (x, t, nx, sg) ∧ cs = [.int .i64 x, .string t, .slice a n c, .slice sa sn sc] ∧ i64 x ∧ t.size ≤ 1125899906842624 ∧ SlAt Sh.int w a n c nx ∧ SlAt shSig w sa sn sc sg := by
  obtain ⟨x, t, nx, sg⟩ := y
  obtain ⟨_, _, rfl, ⟨rfl, h1⟩, _, _, rfl, ⟨rfl, h2⟩, _, _, rfl, ⟨a, n, c, rfl, h3⟩, sa, sn, sc, rfl, h4⟩ := h
  exact ⟨x, t, nx, sg, a, n, c, sa, sn, sc, rfl, rfl, h1, h2, h3, h4⟩
theorem rv_cells {w : World} {a : Option Addr} {n c : Nat} {L : List Rv} (h : SlAt shRv w a n c L) {i : Nat} (hi : i < n) :
    ∃ b o x t nx sg a' n' c' sa sn sc, a = some ⟨b, o, none⟩ ∧ L[i]? = some (x, t, nx, sg) ∧ w.cell? ⟨b, o + i * 4, none⟩ = some (.int .i64 x) ∧ w.cell? ⟨b, o + i * 4 + 1, none⟩ = some (.string t) ∧
      w.cell? ⟨b, o + i * 4 + 2, none⟩ = some (.slice a' n' c') ∧ w.cell? ⟨b, o + i * 4 + 3, none⟩ = some (.slice sa sn sc) ∧ i64 x ∧ t.size ≤ 1125899906842624 ∧ SlAt Sh.int w a' n' c' nx ∧ SlAt shSig w sa sn sc sg := by
  obtain ⟨y, hy⟩ : ∃ y, L[i]? = some y := ⟨_, List.getElem?_eq_getElem (by rw [h.len]; exact hi)⟩
  obtain ⟨b, o, cs, ha, hE, hc⟩ := h.cell i y hy
  obtain ⟨x, t, nx, sg, a', n', c', sa, sn, sc, rfl, rfl, h1, h2, h3, h4⟩ := rv_open hE
  exact ⟨b, o, x, t, nx, sg, a', n', c', sa, sn, sc, ha, hy, hc 0 _ rfl, hc 1 _ rfl, hc 2 _ rfl, hc 3 _ rfl, h1, h2, h3, h4⟩

def RNewPost (e : Int) (l : List Int) (w : World) (r : Ending) (w' : World) : Prop :=
  Below w.heap.size w w' ∧ ((rightB e l = true ∧ ∃ M q, r = .returned (.tuple #[.pointer (some ⟨q, 0, none⟩), .int .i64 0]) ∧ (∀ k, M k → w.heap.size ≤ k) ∧ RTal M w' q none e l []) ∨
    (rightB e l = false ∧ r = .returned (.tuple #[.pointer none, .int .i64 1])))
theorem rtal_new {w3 : World} {B : Nat} {e : Int} {l : List Int} {a : Option Addr} {n c : Nat} (he : i64 e) (hB : B ≤ w3.heap.size) (ho : w3.ownsRow B 3 1 (.slice a n c) n (intsV l)) (hl : l.length = n) (hf : ∀ x ∈ l, i64 x) (hb : n * 8 ≤ 140737488355328) :
    ∃ M, (∀ k, M k → B ≤ k) ∧ RTal M (w3.alloc (.cells #[.int .i64 e, .slice a n c, .slice none 0 0] 45)) w3.heap.size none e l [] := by
  have hz := World.size_alloc w3 (.cells #[.int .i64 e, .slice a n c, .slice none 0 0] 45)
  refine ⟨fun k => k = w3.heap.size ∨ (Value.slice a n c).ownBlock = some k, fun k hk => ?_, ⟨fun k hk => ?_, ⟨.inl rfl, fun k hk => (by cases hk)⟩, by simp, he, .slice none 0 0, [], a, n, c, blk_alloc _ _, fun w' hk => ?_, World.ownsRow_nil _ _ _ _, rfl, rfl⟩⟩
  · rcases hk with rfl | hk
    · exact hB
    · exact (ho.lt k hk).1
  · rcases hk with rfl | hk
    · omega
    · have := (ho.lt k hk).2; omega
  · refine ints_row (owns_keep (owns_old ho (below_alloc _ _)) hk (fun k hk' hx => ?_)) hl hf hb
    rcases hx with hx | hx | hx
    · exact hx (.inr hk')
    · have := (ho.lt k hk').2; omega
    · cases hx

def rnewR (W : Nat) (e : Int) (a : Option Addr) (n c : Nat) (l : List Int) : Nat → World → Value → Prop
  | 0 => fun _ v => v = .pointer (some ⟨W, 0, none⟩)
  | 1 => fun _ v => v = .int .i64 e
  | 2 => fun _ v => v = .pointer (some ⟨W, 1, none⟩)
  | 3 => fun _ v => v = .slice a n c
  | 4 => fun w v => ∃ a' c', v = .slice a' n c' ∧ w.ownsRow W 3 1 (.slice a' n c') n (intsV l)
  | _ => fun _ _ => False
theorem rnewR_stab {W : Nat} {e : Int} {a : Option Addr} {n c : Nat} {l : List Int} : ∀ i w w' v, rnewR W e a n c l i w v → Below w.heap.size w w' → rnewR W e a n c l i w' v
  | 0, w, w', v, h, hb => h
  | 1, w, w', v, h, hb => h
  | 2, w, w', v, h, hb => h
  | 3, w, w', v, h, hb => h
  | 4, w, w', v, ⟨a', c', h1, h2⟩, hb => ⟨a', c', h1, owns_old h2 hb⟩
  | _ + 5, w, w', v, h, hb => h

set_option maxHeartbeats 2000000 in
theorem rnew15_any (e : Int) (a : Option Addr) (n c : Nat) (l : List Int) (w : World) (h : IntsAt w a n l) (hn : a = none → c = 0 ∧ n = 0) (hb : n * 8 ≤ 140737488355328) (he : i64 e) :
    Calls Try.prog 13 #[.agg #[.int .i64 e, .slice a n c]] w (RNewPost e l w) := by
  obtain ⟨i1, hi1, hc0, hc1, hc2⟩ := info_parts info_int'
  have k1 : n ≤ maxLen := by have := h.max; simp only [maxLen]; omega
  have k2 : n * 8 ≤ 140737488355328 := hb
  have hn1 := Lib.hid (show a = none → n = 0 ∧ c = 0 from fun h => ⟨(hn h).2, (hn h).1⟩)
  have q1 := Lib.hid (show (intsV l).length = n * 1 by simp [intsV, h.len])
  obtain ⟨w1, hw1⟩ : ∃ w1, w1 = w.alloc (.cells #[.int .i64 e, .slice a n c] 24) := ⟨_, rfl⟩
  have b1 : Below w.heap.size w w1 := by rw [hw1]; exact below_alloc _ _
  have k1' : w1.heap[w.heap.size]? = some (.cells #[.int .i64 e, .slice a n c] 24 (0, 0)) := by rw [hw1]; exact blk_alloc _ _
  have x0 : w1.cell? ⟨w.heap.size, 0, none⟩ = some (.int .i64 e) := by rw [blk_cell k1']; rfl
  have x1 : w1.cell? ⟨w.heap.size, 1, none⟩ = some (.slice a n c) := by rw [blk_cell k1']; rfl
  have CR := Lib.hid (rright_any e a n c l w1 (h.below b1))
  have HB := Lib.hid b1
  have HI := Lib.hid h
  clear h hn b1
  go_enter Try.func13, Try.ntmps13
  go_wp2_with fail
  rw [← hw1]
  clear hw1 k1'
  refine CR.out.mono ?_
  rintro r w2 ⟨rfl, b2⟩
  have y0 := below_cell b2 x0
  have y1 := below_cell b2 x1
  have HB2 := Lib.hid (bthen HB.out b2)
  clear b2 x0 x1 CR HB
  cases hr : rightB e l with
  | false =>
    go_wp2_with fail
    go_ret2
    exact ⟨HB2.out, .inr ⟨hr, rfl⟩⟩
  | true =>
    go_upto_region 3 with (fail)
    refine wp_region_made 5 (rnewR w.heap.size e a n c l) (fun _ _ => none) rfl (by kernel_rfl) (by kernel_rfl) rnewR_stab (fun _ _ _ _ _ h => by cases h) (fun i oo hi ho => ?_) (fun vs w7 hb7 hs hne => ?_)
    · intro ac wa hba hE hF K hK
      have b7 := below_undrew hba
      have hno : ∀ k, (none : Option Nat) = some k → wa.heap.size ≤ k := fun _ h => by cases h
      have z0 := below_cell b7 y0
      have z1 := below_cell b7 y1
      have hW := (bthen HB2.out b7).size
      have hi' : i = 0 ∨ i = 1 ∨ i = 2 ∨ i = 3 ∨ i = 4 := by omega
      rcases hi' with rfl | rfl | rfl | rfl | rfl
      · obtain rfl := Option.some.inj ho
        have h1 : ac.eval (.tmp 1) = .pointer (some ⟨w.heap.size, 0, none⟩) := hE 1 (by decide)
        exact news_val rfl rfl (by generalize ac.eval = ρ at h1; simp only [execOp]; go_simp) (hK _ _ (Below.refl _ _) rfl hno)
      · obtain rfl := Option.some.inj ho
        have h1 : ac.eval (.tmp 7) = .pointer (some ⟨w.heap.size, 0, none⟩) := hF ⟨0, .data⟩ (by simp) rfl 7 rfl
        exact news_val rfl rfl (by generalize ac.eval = ρ at h1; simp only [execOp]; go_simp) (hK _ _ (Below.refl _ _) rfl hno)
      · obtain rfl := Option.some.inj ho
        have h1 : ac.eval (.tmp 1) = .pointer (some ⟨w.heap.size, 0, none⟩) := hE 1 (by decide)
        exact news_val rfl rfl (by generalize ac.eval = ρ at h1; simp only [execOp]; go_simp) (hK _ _ (Below.refl _ _) rfl hno)
      · obtain rfl := Option.some.inj ho
        have h1 : ac.eval (.tmp 9) = .pointer (some ⟨w.heap.size, 1, none⟩) := hF ⟨2, .data⟩ (by simp) rfl 9 rfl
        exact news_val rfl rfl (by generalize ac.eval = ρ at h1; simp only [execOp]; go_simp) (hK _ _ (Below.refl _ _) rfl hno)
      · obtain rfl := Option.some.inj ho
        have h1 : ac.eval (.tmp 10) = .slice a n c := hF ⟨3, .data⟩ (by simp) rfl 10 rfl
        have h2 : ac.eval (.const (.slice none 0 0)) = .slice none 0 0 := rfl
        refine wpOp_step rfl fun K' hK' => ?_
        refine step_append_nil _ rfl (.const (.slice none 0 0)) (.tmp 10) 22 rfl 3 i1 (.int .i64 0) 1 8 Try.underlying22 hi1 hc0 hc1 hc2 rfl (by decide) rfl a n c (intsV l) h1 q1.out hn1.out (ints_news (HI.out.below (bthen HB2.out b7))) (intsV_one l) k1 k2 ?_
        intro v6 w8 ho6 b6
        obtain ⟨a6, c6, rfl⟩ := owns_form ho6
        exact hK' _ _ (hK _ _ b6 ⟨a6, c6, rfl, owns_lower ho6 hW⟩ hno)
    · have e0 : vs 0 = _ := hs 0 (by omega)
      have e1 : vs 1 = _ := hs 1 (by omega)
      have e2 : vs 2 = _ := hs 2 (by omega)
      have e3 : vs 3 = _ := hs 3 (by omega)
      obtain ⟨a4, c4, e4, ho4⟩ : ∃ a' c', (vs 4) = .slice a' n c' ∧ w7.ownsRow w.heap.size 3 1 (.slice a' n c') n (intsV l) := hs 4 (by omega)
      show wpList _ _ _ _ (((((Act.put _ (some 7) (vs 0)).put (some 8) (vs 1)).put (some 9) (vs 2)).put (some 10) (vs 3)).put (some 11) (vs 4)) _
      rw [e0, e1, e2, e3, e4]
      clear e0 e1 e2 e3 e4 hs hne vs
      have B7 := Lib.hid (bthen HB2.out hb7)
      have HT := Lib.hid (rtal_new he B7.out.size ho4 HI.out.len HI.out.fit hb)
      clear hb7 ho4 y0 y1 HI hi1
      simp only [List.drop_succ_cons, List.drop_zero, Act.put, List.setIfInBounds_toArray, List.set_cons_succ, List.set_cons_zero]
      go_wp2_with fail
      go_ret2
      obtain ⟨M, hM, hT⟩ := HT.out
      exact ⟨bthen B7.out (below_alloc _ _), .inl ⟨hr, M, w7.heap.size, rfl, hM, hT⟩⟩
end Go.Proofs.Ytfhbjajhmegdmaa

/- The reference's tally of votes: Add. -/
namespace Go.Proofs.Ytfhbjajhmegdmaa
set_option maxRecDepth 100000
open Go.RowKit
set_option linter.unusedVariables false
set_option linter.unusedSimpArgs false

theorem rv_rob {X : Nat → Prop} {w : World} {n sn c' sc' : Nat} {a' sa' : Option Addr} {x : Int} {t : ByteArray} {l : List Int} {sigs : List Sg} {B3 B4 : Nat} (ho5 : w.ownsRow B3 3 1 (.slice a' n c') n (intsV l)) (ho6 : w.ownsRow B4 47 2 (.slice sa' sn sc') sn (sigV sigs))
    (hl : l.length = n) (hls : sigs.length = sn) (he : i64 x) (ht : t.size ≤ 1125899906842624) (hf : ∀ x ∈ l, i64 x) (hfs : ∀ s ∈ sigs, i64 s.1 ∧ s.2.size ≤ 1125899906842624) (hby : n * 8 ≤ 140737488355328) (hbs : sn * 24 ≤ 140737488355328)
    (h5 : ∀ k, (Value.slice a' n c').ownBlock = some k → ¬ X k) (h6 : ∀ k, (Value.slice sa' sn sc').ownBlock = some k → ¬ X k) : Rob X (fun w' => shRv.E w' (x, t, l, sigs) [.int .i64 x, .string t, .slice a' n c', .slice sa' sn sc']) w := fun w' hk =>
  ⟨[.int .i64 x], [.string t, .slice a' n c', .slice sa' sn sc'], rfl, ⟨rfl, he⟩, [.string t], [.slice a' n c', .slice sa' sn sc'], rfl, ⟨rfl, ht⟩, [.slice a' n c'], [.slice sa' sn sc'], rfl,
    ⟨a', n, c', rfl, ints_row (owns_keep ho5 hk h5) hl hf hby⟩, sigs_rob ho6 hls h6 hfs hbs w' hk⟩

theorem Keep.mono {X Y : Nat → Prop} {w w' : World} (h : Keep X w w') (hX : ∀ k, X k → Y k) : Keep Y w w' := ⟨h.os, h.tape, h.output, h.size, fun k hk hy => h.block k hk (fun hx => hy (hX k hx))⟩
theorem keep_undrew {Y : Nat → Prop} {w w' : World} (h : Keep Y w.drew w') : Keep Y w w' := ⟨h.os, h.tape, h.output, h.size, h.block⟩
/-- A vote more. -/
theorem RTal.grow {M : Nat → Prop} {w w8 : World} {q : Nat} {ol : Option Nat} {e : Int} {l : List Int} {V : List Vt} {n sn c' sc' : Nat} {vl v' : Value} {xl : List Value} {a a' sa' : Option Addr} {n0 k0 : Nat} {x : Int} {t : ByteArray} {nx : List Int} {sigs : List Sg}
    (h : RTal M w q ol e l V) (hp : w.heap[q]? = some (.cells #[.int .i64 e, .slice a n0 k0, vl] 45 (0, 0))) (hI : Rob (FreeR M q ol) (fun w' => SlAt Sh.int w' a n0 k0 l) w) (hr : rowOf shRv (FreeR M q ol) w (V.map (rvOf e)) xl) (hv : vl.ownBlock = ol) (hK : Keep (fun k => ol = some k) w w8)
    (ho5 : w8.ownsRow w.heap.size 3 1 (.slice a' n c') n (intsV nx)) (ho6 : w8.ownsRow w.heap.size 47 2 (.slice sa' sn sc') sn (sigV sigs))
    (hn5 : ∀ k, (Value.slice a' n c').ownBlock = some k → v'.ownBlock ≠ some k) (hn6 : ∀ k, (Value.slice sa' sn sc').ownBlock = some k → v'.ownBlock ≠ some k)
    (hl : nx.length = n) (hls : sigs.length = sn) (hx : i64 x) (ht : t.size ≤ 1125899906842624) (hf : ∀ x ∈ nx, i64 x) (hfs : ∀ s ∈ sigs, i64 s.1 ∧ s.2.size ≤ 1125899906842624) (hby : n * 8 ≤ 140737488355328) (hbs : sn * 24 ≤ 140737488355328)
    (hsg : sigs = [(x, stS e t), (x, textS (e + 1) nx)])
    (hown : w8.ownsRow 0 86 4 v' (V.length + 1) (xl ++ [.int .i64 x, .string t, .slice a' n c', .slice sa' sn sc'])) (hat : v'.ownBlock = ol ∨ ∃ k, v'.ownBlock = some k ∧ w.heap.size ≤ k) :
    (∃ M' ol', (∀ k, M k → M' k) ∧ (∀ k, M' k → M k ∨ w.heap.size ≤ k) ∧ RTal M' (w8.setCell ⟨q, 2, none⟩ v') q ol' e l (V ++ [(x, t, nx)])) ∧ Keep (fun k => k = q ∨ ol = some k) w (w8.setCell ⟨q, 2, none⟩ v') := by
  have hpl := blk_lt hp
  have hol : ∀ k, ol = some k → k < w.heap.size := fun k hk => h.lt k (h.mine.2 k hk)
  have K8 : Keep (fun k => k = q ∨ ol = some k) w w8 := hK.mono (fun _ h => .inr h)
  have K9 : Keep (fun k => k = q ∨ ol = some k) w (w8.setCell ⟨q, 2, none⟩ v') := K8.set (.inr (.inl rfl)) 2 v'
  have hz : (w8.setCell ⟨q, 2, none⟩ v').heap.size = w8.heap.size := by simp [World.setCell]
  have hz08 := hK.size
  have nop : v'.ownBlock ≠ some q := by
    rcases hat with ha | ⟨g, ha, hg2⟩
    · rw [ha]; exact h.nol
    · rw [ha]; intro hc; injection hc with hc; omega
  have hp8 : w8.heap[q]? = some (.cells #[.int .i64 e, .slice a n0 k0, vl] 45 (0, 0)) := by
    rw [hK.block q hpl h.nol]; exact hp
  have hrow : ∀ {b ee s n' : Nat} {vv : Value} {xs : List Value}, w8.ownsRow b ee s vv n' xs → w.heap.size ≤ b → (w8.setCell ⟨q, 2, none⟩ v').ownsRow b ee s vv n' xs := fun {b ee s n' vv xs} ho hb0 => owns_setlow ho (by omega) 2 v'
  have hfree : ∀ k, k < w.heap.size → FreeR (fun k => M k ∨ v'.ownBlock = some k ∨ (Value.slice a' n c').ownBlock = some k ∨ (Value.slice sa' sn sc').ownBlock = some k) q v'.ownBlock k → FreeR M q ol k := fun k hk hx => by
    rcases hx with hx | hx | hx
    · exact .inl fun hm => hx (.inl hm)
    · exact .inr (.inl hx)
    · rcases hat with ha | ⟨g, ha, hg2⟩
      · exact .inr (.inr (by rw [← ha]; exact hx))
      · rw [ha] at hx; injection hx with hx; omega
  have hnf : ∀ k, w.heap.size ≤ k → v'.ownBlock ≠ some k → (M k ∨ v'.ownBlock = some k ∨ (Value.slice a' n c').ownBlock = some k ∨ (Value.slice sa' sn sc').ownBlock = some k) → ¬ FreeR (fun k => M k ∨ v'.ownBlock = some k ∨ (Value.slice a' n c').ownBlock = some k ∨ (Value.slice sa' sn sc').ownBlock = some k) q v'.ownBlock k := fun k hk hc hm hx => by
    rcases hx with hx | hx | hx
    · exact hx hm
    · omega
    · exact hc hx
  have hYf : ∀ k, k < w.heap.size → (k = q ∨ ol = some k) → FreeR M q ol k := fun k _ hy => .inr hy
  refine ⟨⟨fun k => M k ∨ v'.ownBlock = some k ∨ (Value.slice a' n c').ownBlock = some k ∨ (Value.slice sa' sn sc').ownBlock = some k, v'.ownBlock, fun k hk => .inl hk, fun k hk => ?_, ⟨fun k hk => ?_, ⟨.inl h.mine.1, fun k hk => .inr (.inl hk)⟩, nop, h.ep, v', xl ++ [.int .i64 x, .string t, .slice a' n c', .slice sa' sn sc'], a, n0, k0, by rw [blk_set hp8]; rfl, hI.step K9 hYf hfree, ?_, rfl, ?_⟩⟩, K9⟩
  · rcases hk with hk | hk | hk | hk
    · exact .inl hk
    · rcases hat with ha | ⟨g, ha, hg2⟩
      · exact .inl (h.mine.2 k (by rw [← ha]; exact hk))
      · rw [ha] at hk; injection hk with hk; exact .inr (by omega)
    · exact .inr (ho5.lt k hk).1
    · exact .inr (ho6.lt k hk).1
  · rw [hz]
    rcases hk with hk | hk | hk | hk
    · have := h.lt k hk; omega
    · exact (hown.lt k hk).2
    · have := (ho5.lt k hk).2; omega
    · have := (ho6.lt k hk).2; omega
  · rw [List.length_append]
    exact owns_setother hown nop 2 v'
  · rw [List.map_append]
    refine (hr.step K9 hYf hfree).snoc rfl ?_
    rw [show rvOf e (x, t, nx) = (x, t, nx, sigs) by rw [hsg]; rfl]
    exact rv_rob (hrow ho5 (Nat.le_refl _)) (hrow ho6 (Nat.le_refl _)) hl hls hx ht hf hfs hby hbs (fun k hk => hnf k (ho5.lt k hk).1 (hn5 k hk) (.inr (.inr (.inl hk)))) (fun k hk => hnf k (ho6.lt k hk).1 (hn6 k hk) (.inr (.inr (.inr hk))))

def RvAddPost (M : Nat → Prop) (q : Nat) (ol : Option Nat) (e : Int) (l : List Int) (V : List Vt) (x : Int) (t : ByteArray) (nx : List Int) (sigs : List Sg) (w : World) (r : Ending) (w' : World) : Prop :=
  r = .returned (.int .i64 (addE e l V x t nx sigs)) ∧ Keep (fun k => k = q ∨ ol = some k) w w' ∧ ∃ M' ol', (∀ k, M k → M' k) ∧ (∀ k, M' k → M k ∨ w.heap.size ≤ k) ∧ RTal M' w' q ol' e l (addV e l V x t nx sigs)
theorem radd_no {M : Nat → Prop} {q : Nat} {ol : Option Nat} {e : Int} {l : List Int} {V : List Vt} {x : Int} {t : ByteArray} {nx : List Int} {sigs : List Sg} {w w' : World} {E : Int} (h : RTal M w q ol e l V) (hE : addE e l V x t nx sigs = E) (h0 : E ≠ 0) (hb : Below w.heap.size w w') :
    RvAddPost M q ol e l V x t nx sigs w (.returned (.int .i64 E)) w' := by
  refine ⟨by rw [hE], Keep.of_below hb, M, ol, fun _ h => h, fun _ h => .inl h, ?_⟩
  rw [show addV e l V x t nx sigs = V from if_neg (by rw [hE]; exact h0)]
  exact h.old hb
end Go.Proofs.Ytfhbjajhmegdmaa

/- The walk of the reference's Tally.Add. -/
namespace Go.Proofs.Ytfhbjajhmegdmaa
set_option maxRecDepth 100000
open Go.RowKit
set_option linter.unusedVariables false
set_option linter.unusedSimpArgs false

theorem info_rv' : (Try.prog.info? 86).map (fun i => (i.zero, i.size, i.bytes)) = some (some (.agg #[.int .i64 0, .string ⟨#[]⟩, .slice none 0 0, .slice none 0 0]), 4, 72) := by kernel_rfl
theorem rv_new (w : World) (x : Int) (s : ByteArray) (a : Option Addr) (n c : Nat) (sa : Option Addr) (sn sc : Nat) (t : TypeId) : ∀ j u, [Value.int .i64 x, .string s, .slice a n c, .slice sa sn sc][j]? = some u → (w.alloc (.cells #[.int .i64 x, .string s, .slice a n c, .slice sa sn sc] t)).cell? ((⟨w.heap.size, 0, none⟩ : Addr).add j) = some u := by
  intro j u h
  rw [Addr.add_lit, blk_cell (blk_alloc w _), ← h]
  simp
theorem two_sl {w : World} {g : Nat} {x : Int} {S C : ByteArray} (h : w.heap[g]? = some (.cells #[.int .i64 x, .string S, .int .i64 x, .string C] 47 (0, 0))) (hx : i64 x) (hS : S.size ≤ 1125899906842624) (hC : C.size ≤ 1125899906842624) : SlAt shSig w (some ⟨g, 0, none⟩) 2 2 [(x, S), (x, C)] := by
  have ho := owns_cells (B := 0) (cap := 2) (n := 2) (cs := [.int .i64 x, .string S, .int .i64 x, .string C]) h (Nat.zero_le _) rfl (by decide) (by decide)
  refine sigs_row (B := 0) ho rfl (fun s hs => ?_) (by decide)
  rcases List.mem_cons.1 hs with rfl | hs
  · exact ⟨hx, hS⟩
  · rw [List.mem_singleton] at hs; subst hs; exact ⟨hx, hC⟩

structure rvDone (W : Nat) (ol : Option Nat) (V : List Vt) (xl : List Value) (x : Int) (t : ByteArray) (m : Nat) (nx : List Int) (sn : Nat) (sigs : List Sg) (w : World) (v' : Value) (a' : Option Addr) (c' : Nat) (s' : Option Addr) (d' : Nat) : Prop where
  i : w.ownsRow W 3 1 (.slice a' m c') m (intsV nx)
  s : w.ownsRow W 47 2 (.slice s' sn d') sn (sigV sigs)
  v : w.ownsRow 0 86 4 v' (V.length + 1) (xl ++ [.int .i64 x, .string t, .slice a' m c', .slice s' sn d'])
  ni : ∀ k, (Value.slice a' m c').ownBlock = some k → v'.ownBlock ≠ some k
  ns : ∀ k, (Value.slice s' sn d').ownBlock = some k → v'.ownBlock ≠ some k
  at' : v'.ownBlock = ol ∨ ∃ k, v'.ownBlock = some k ∧ W ≤ k
section
variable {W : Nat} {ol : Option Nat} {V : List Vt} {xl : List Value} {x : Int} {t : ByteArray} {m : Nat} {nx : List Int} {sn : Nat} {sigs : List Sg} {w w' w8 : World} {v' : Value} {a' : Option Addr} {c' : Nat} {s' : Option Addr} {d' : Nat}
theorem rvDone.old (h : rvDone W ol V xl x t m nx sn sigs w v' a' c' s' d') (hb : Below w.heap.size w w') : rvDone W ol V xl x t m nx sn sigs w' v' a' c' s' d' :=
  ⟨owns_old h.i hb, owns_old h.s hb, owns_old h.v hb, h.ni, h.ns, h.at'⟩
theorem rv_done {al : Option Addr} {cl g cap : Nat} (hE : (Value.slice al V.length cl).ownBlock = ol) (hW : W ≤ w.heap.size) (hY : ∀ k, W ≤ k → ¬ (ol = some k)) (hi : w.ownsRow W 3 1 (.slice a' m c') m (intsV nx)) (hs : w.ownsRow W 47 2 (.slice s' sn d') sn (sigV sigs))
    (hown : w8.ownsRow 0 86 4 (.slice (some ⟨g, 0, none⟩) (V.length + 1) cap) (V.length + 1) (xl ++ [.int .i64 x, .string t, .slice a' m c', .slice s' sn d'])) (hg : w.grownBy w8 (Value.slice al V.length cl).ownBlock) (hor : (Value.slice al V.length cl).ownBlock = some g ∨ g = w.heap.size) :
    rvDone W ol V xl x t m nx sn sigs w8 (.slice (some ⟨g, 0, none⟩) (V.length + 1) cap) a' c' s' d' := by
  rw [hE] at hg hor
  have hk : Keep (fun k => ol = some k) w w8 := (Keep.refl _ w).grown hg (fun k hk => .inr hk)
  have hn : ∀ k, W ≤ k → k < w.heap.size → (Value.slice (some ⟨g, 0, none⟩) (V.length + 1) cap).ownBlock ≠ some k := fun k h1 h2 hc => by
    have hgk : g = k := by simpa [Value.ownBlock] using hc
    subst hgk
    rcases hor with h | h
    · exact hY _ h1 h
    · omega
  refine ⟨owns_keep hi hk (fun k hk' => hY k (hi.lt k hk').1), owns_keep hs hk (fun k hk' => hY k (hs.lt k hk').1), hown, fun k hk' => hn k (hi.lt k hk').1 (hi.lt k hk').2, fun k hk' => hn k (hs.lt k hk').1 (hs.lt k hk').2, ?_⟩
  rcases hor with h | h
  · exact .inl h.symm
  · exact .inr ⟨g, rfl, by omega⟩
end
def rgrowR (W q : Nat) (ol : Option Nat) (V : List Vt) (xl : List Value) (al : Option Addr) (cl : Nat) (x : Int) (t : ByteArray) (b : Option Addr) (m d : Nat) (nx : List Int) (sa : Option Addr) (sn sc : Nat) (sigs : List Sg) : Nat → World → Value → Prop
  | 0 => fun _ v => v = .pointer (some ⟨q, 0, none⟩)
  | 1 => fun _ v => v = .pointer (some ⟨q, 0, none⟩)
  | 2 => fun _ v => v = .pointer (some ⟨q, 0, none⟩)
  | 3 => fun _ v => v = .pointer (some ⟨q, 2, none⟩)
  | 4 => fun _ v => v = .slice al V.length cl
  | 5 => fun _ v => v = .int .i64 x
  | 6 => fun _ v => v = .string t
  | 7 => fun _ v => v = .slice b m d
  | 8 => fun w v => ∃ a' c', v = .slice a' m c' ∧ w.ownsRow W 3 1 (.slice a' m c') m (intsV nx)
  | 9 => fun _ v => v = .slice sa sn sc
  | 10 => fun w v => ∃ s' d', v = .slice s' sn d' ∧ w.ownsRow W 47 2 (.slice s' sn d') sn (sigV sigs)
  | 11 => fun w v => ∃ a' c' s' d', v = .agg #[.int .i64 x, .string t, .slice a' m c', .slice s' sn d'] ∧ w.ownsRow W 3 1 (.slice a' m c') m (intsV nx) ∧ w.ownsRow W 47 2 (.slice s' sn d') sn (sigV sigs)
  | 12 => fun w v => ∃ g a' c' s' d', v = .slice (some ⟨g, 0, none⟩) 1 1 ∧ W ≤ g ∧ w.heap[g]? = some (.cells #[.int .i64 x, .string t, .slice a' m c', .slice s' sn d'] 86 (0, 0)) ∧ w.ownsRow W 3 1 (.slice a' m c') m (intsV nx) ∧ w.ownsRow W 47 2 (.slice s' sn d') sn (sigV sigs)
  | 13 => fun w v => ∃ u0 a' c' s' d', v = u0 ∧ rvDone W ol V xl x t m nx sn sigs w u0 a' c' s' d'
  | 14 => fun _ v => v = .pointer (some ⟨q, 0, none⟩)
  | 15 => fun _ v => v = .pointer (some ⟨q, 2, none⟩)
  | _ => fun _ _ => False
theorem rgrowR_stab {W q : Nat} {ol : Option Nat} {V : List Vt} {xl : List Value} {al : Option Addr} {cl : Nat} {x : Int} {t : ByteArray} {b : Option Addr} {m d : Nat} {nx : List Int} {sa : Option Addr} {sn sc : Nat} {sigs : List Sg} (hY : ∀ k, W ≤ k → ¬ (ol = some k)) : ∀ i w w' v, rgrowR W q ol V xl al cl x t b m d nx sa sn sc sigs i w v → (i = 13 → Below w.heap.size w w') → Keep (fun k => ol = some k) w w' → rgrowR W q ol V xl al cl x t b m d nx sa sn sc sigs i w' v
  | 0, w, w', v, h, hb, hk => h
  | 1, w, w', v, h, hb, hk => h
  | 2, w, w', v, h, hb, hk => h
  | 3, w, w', v, h, hb, hk => h
  | 4, w, w', v, h, hb, hk => h
  | 5, w, w', v, h, hb, hk => h
  | 6, w, w', v, h, hb, hk => h
  | 7, w, w', v, h, hb, hk => h
  | 8, w, w', v, ⟨a', c', h1, h2⟩, hb, hk => ⟨a', c', h1, owns_keep h2 hk (fun k hk' => hY k (h2.lt k hk').1)⟩
  | 9, w, w', v, h, hb, hk => h
  | 10, w, w', v, ⟨a', c', h1, h2⟩, hb, hk => ⟨a', c', h1, owns_keep h2 hk (fun k hk' => hY k (h2.lt k hk').1)⟩
  | 11, w, w', v, ⟨a', c', s', d', h1, h2, h3⟩, hb, hk => ⟨a', c', s', d', h1, owns_keep h2 hk (fun k hk' => hY k (h2.lt k hk').1), owns_keep h3 hk (fun k hk' => hY k (h3.lt k hk').1)⟩
  | 12, w, w', v, ⟨g, a', c', s', d', h1, h4, h5, h2, h3⟩, hb, hk => ⟨g, a', c', s', d', h1, h4, by rw [hk.block g (blk_lt h5) (hY g h4)]; exact h5, owns_keep h2 hk (fun k hk' => hY k (h2.lt k hk').1), owns_keep h3 hk (fun k hk' => hY k (h3.lt k hk').1)⟩
  | 13, w, w', v, ⟨v', a', c', s', d', h1, h2⟩, hb, hk => ⟨v', a', c', s', d', h1, h2.old (hb rfl)⟩
  | 14, w, w', v, h, hb, hk => h
  | 15, w, w', v, h, hb, hk => h
  | _ + 16, w, w', v, h, hb, hk => h

set_option maxHeartbeats 2000000 in
theorem radd15_any (M : Nat → Prop) (q : Nat) (ol : Option Nat) (e : Int) (l : List Int) (V : List Vt) (x : Int) (t : ByteArray) (b : Option Addr) (m d : Nat) (nx : List Int) (sa : Option Addr) (sn sc : Nat) (sigs : List Sg) (w : World)
    (h : RTal M w q ol e l V) (hV : VOk e l V) (hxr : Rob (fun k => ol = some k) (fun w' => SlAt Sh.int w' b m d nx) w) (hsr : Rob (fun k => ol = some k) (fun w' => SlAt shSig w' sa sn sc sigs) w) (hx0 : i64 x) (ht : t.size ≤ 140737488355328) :
    Calls Try.prog 16 #[.pointer (some ⟨q, 0, none⟩), .int .i64 x, .string t, .slice b m d, .slice sa sn sc] w (RvAddPost M q ol e l V x t nx sigs w) := by
  have hten := hV.ten
  have hx := hxr.self
  have hs := hsr.self
  have HXR := Lib.hid hxr
  have HGR := Lib.hid hsr
  clear hxr hsr
  obtain ⟨a, n, c, al, cl, hp, hI, hS⟩ := h.view hten
  have p0 : w.cell? ⟨q, 0, none⟩ = some (.int .i64 e) := by rw [blk_cell hp]; rfl
  have p1 : w.cell? ⟨q, 1, none⟩ = some (.slice a n c) := by rw [blk_cell hp]; rfl
  have CT := Lib.hid (rvtexts_any e a n c l t b m d nx w h.ep (ints_of_sl hI) ht (ints_of_sl hx))
  have HP := Lib.hid hp; have HI := Lib.hid hI; have HS := Lib.hid hS; have HX := Lib.hid hx; have HG := Lib.hid hs; have HT := Lib.hid h
  have HE := Lib.hid (show ∀ E, E = addE e l V x t nx sigs → E = if vGood e l t nx = false then 1 else if hasB l x = false then 8 else if sigs = [(x, stS e t), (x, textS (e + 1) nx)] then (if V.any (fun v => v.1 == x) = true then 7 else 0) else 16 from fun E h => h)
  have HVS := Lib.hid (show vS e l t nx = if vGood e l t nx = true then stS e t else ⟨#[]⟩ from rfl)
  have HVC := Lib.hid (show vC e l t nx = if vGood e l t nx = true then textS (e + 1) nx else ⟨#[]⟩ from rfl)
  have HVE := Lib.hid (show vE e l t nx = if vGood e l t nx = true then 0 else 1 from rfl)
  have HSZ := Lib.hid (show (vS e l t nx).size ≤ 1125899906842624 ∧ (vC e l t nx).size ≤ 1125899906842624 from ⟨Nat.le_trans (vS_size e l t nx) (by omega), Nat.le_trans (vC_size e l t nx) (by omega)⟩)
  generalize vS e l t nx = S at *
  generalize vC e l t nx = C at *
  generalize vE e l t nx = Ev at *
  clear h hp hI hS hx hs
  go_enter Try.func16, Try.ntmps16
  go_wp2_with fail
  refine CT.out.mono ?_
  rintro r w1 ⟨rfl, b1⟩
  have B1 := Lib.hid b1
  have K1 := Lib.hid (blk_below HP.out b1)
  have y1 := below_cell b1 p1
  clear b1 p0 p1 CT
  cases hg : vGood e l t nx with
  | false =>
    have hev : Ev = 1 := by rw [HVE.out, hg]; rfl
    subst hev
    go_wp2_with fail
    go_ret
    exact radd_no HT.out (by unfold addE; rw [if_pos hg]) (by decide) B1.out
  | true =>
    have hev : Ev = 0 := by rw [HVE.out, hg]; rfl
    have hvs := HVS.out
    have hvc := HVC.out
    rw [if_pos hg] at hvs hvc
    have HS1 := Lib.hid hvs; have HC1 := Lib.hid hvc
    subst hev
    have CH := Lib.hid (rhas_any a n c l x w1 (ints_of_sl (HI.out.old B1.out)))
    clear hvs hvc HVS HVC HVE
    go_wp2_with fail
    refine CH.out.mono ?_
    rintro r w1' ⟨rfl, rfl⟩
    clear CH
    cases hh : hasB l x with
    | false =>
      go_wp2_with fail
      go_ret
      exact radd_no HT.out (by unfold addE; rw [if_neg (by rw [hg]; decide), if_pos hh]) (by decide) B1.out
    | true =>
      obtain ⟨w2, hw2⟩ : ∃ w2, w2 = w1.alloc (.cells #[.int .i64 x, .string S, .int .i64 x, .string C] 47) := ⟨_, rfl⟩
      have b2 : Below w1.heap.size w1 w2 := by rw [hw2]; exact below_alloc _ _
      have k2 : w2.heap[w1.heap.size]? = some (.cells #[.int .i64 x, .string S, .int .i64 x, .string C] 47 (0, 0)) := by rw [hw2]; exact blk_alloc _ _
      have CS := Lib.hid (samesigs_any sa sn sc sigs (some ⟨w1.heap.size, 0, none⟩) 2 2 [(x, S), (x, C)] w2 (HG.out.old (bthen B1.out b2)) (two_sl k2 hx0 HSZ.out.1 HSZ.out.2))
      have B2 := Lib.hid (bthen B1.out b2)
      have K2 := Lib.hid (blk_below K1.out b2)
      clear b2 k2 y1 K1
      go_wp2_with fail
      rw [← hw2]
      clear hw2
      refine CS.out.mono ?_
      rintro r w3 ⟨rfl, j, rfl⟩
      have B3 := Lib.hid (below_drewN B2.out j)
      have K3 := Lib.hid (show (w2.drewN j).heap[q]? = _ from K2.out)
      generalize w2.drewN j = w3 at *
      clear CS K2 B2
      by_cases hsg : sigs = [(x, S), (x, C)]
      · have hsd : decide (sigs = [(x, S), (x, C)]) = true := by simpa using hsg
        have HSG := Lib.hid (show sigs = [(x, stS e t), (x, textS (e + 1) nx)] by rw [← HS1.out, ← HC1.out]; exact hsg)
        have HRW := Lib.hid (fun (w' : World) (hb : Below w3.heap.size w3 w') => HS.out.old (bthen B3.out hb))
        rw [hsd]
        clear hsg hsd HS HSZ HS1 HC1 HI HE
        go_wp2_with fail
        obtain ⟨wo, hwo⟩ : ∃ wo : World, wo = w3 := ⟨_, rfl⟩
        subst hwo
        go_loopw [14] (fun i wr => ∃ k : Nat, k ≤ V.length ∧ i = .int .i64 k ∧ Hid (∀ j v, j < k → V[j]? = some v → v.1 ≠ x) ∧ Hid (Below wo.heap.size wo wr)) (fun i _ => V.length - (intOf i).toNat)
        case atStart => exact ⟨0, by omega, rfl, Lib.hid (fun j v hj => by omega), Lib.hid (Below.refl _ _)⟩
        case round =>
          obtain ⟨k, hk, rfl, HD, Hb⟩ := hrel
          by_cases hin : k < V.length
          · have kp := blk_below K3.out Hb.out
            have p2 : wr.cell? ⟨q, 2, none⟩ = some (.slice al V.length cl) := by rw [blk_cell kp]; rfl
            obtain ⟨vb, vo, x', t', nx', sg', a', n', c', sa', sn', sc', rfl, hy, m0, _⟩ := rv_cells (HRW.out _ Hb.out) hin
            have lb := World.block_lt m0
            obtain ⟨v, hv⟩ : ∃ v, V[k]? = some v := ⟨_, List.getElem?_eq_getElem hin⟩
            have hvx : v.1 = x' := by
              rw [List.getElem?_map, hv] at hy
              injection hy with hy
              exact congrArg Prod.fst hy
            have hj0 : (0 : Int) ≤ (k : Int) := by omega
            have hj1 : (k : Int) < (V.length : Int) := by omega
            have HV := Lib.hid hv; have HVX := Lib.hid hvx
            clear hv hvx hy kp
            cases hxx : (x' == x) with
            | true =>
              have HR := Lib.hid (radd_no (M := M) (q := q) (ol := ol) (e := e) (l := l) (V := V) (x := x) (t := t) (nx := nx) (sigs := sigs) (w := w) (w' := wr) (E := 7) HT.out (by
                unfold addE
                rw [if_neg (by rw [hg]; decide), if_neg (by rw [hh]; decide), if_pos HSG.out, if_pos]
                rw [List.any_eq_true]
                exact ⟨v, List.mem_of_getElem? HV.out, by rw [HVX.out]; exact hxx⟩) (by decide) (bthen B3.out Hb.out))
              go_wp2_with fail
              go_ret
              exact HR.out
            | false =>
              have HDk := Lib.hid (show ∀ j v, j < k + 1 → V[j]? = some v → v.1 ≠ x from fun j v' hj hv' => by
                rcases Nat.lt_or_ge j k with h | h
                · exact HD.out j v' h hv'
                · obtain rfl : j = k := by omega
                  rw [HV.out] at hv'
                  injection hv' with hv'
                  subst hv'
                  rw [HVX.out]
                  simpa using hxx)
              go_wp2_with fail
              go_roundw
              case rel => exact ⟨k + 1, by omega, by go_num, HDk, Hb⟩
              case measure => simp [intOf]; omega
          · have HA := Lib.hid (show addE e l V x t nx sigs = 0 by
              unfold addE
              rw [if_neg (by rw [hg]; decide), if_neg (by rw [hh]; decide), if_pos HSG.out, if_neg]
              intro hc
              rw [List.any_eq_true] at hc
              obtain ⟨v, hv, hvx⟩ := hc
              obtain ⟨j, hj, rfl⟩ := List.getElem_of_mem hv
              exact HD.out j _ (by omega) (List.getElem?_eq_getElem hj) (by simpa using hvx))
            obtain rfl : k = V.length := by omega
            have BR := Lib.hid (bthen B3.out Hb.out)
            obtain ⟨vl, xl, a5, n5, k5, hp5, hI5, o5, e5, r5⟩ := (HT.out.old BR.out).ex
            obtain ⟨al2, cl2, rfl⟩ := owns_form o5
            have HP5 := Lib.hid hp5; have HI5 := Lib.hid hI5; have O5 := Lib.hid o5; have E5 := Lib.hid e5; have R5 := Lib.hid r5; have HT5 := Lib.hid (HT.out.old BR.out)
            have p2 : wr.cell? ⟨q, 2, none⟩ = some (.slice al2 V.length cl2) := by rw [blk_cell hp5]; rfl
            have lq5 := blk_lt hp5
            have HC := Lib.hid (show ∀ w', Below wr.heap.size wr w' → w'.cell? ⟨q, 2, none⟩ = some (.slice al2 V.length cl2) from fun w' hb => by rw [blk_cell (blk_below HP5.out hb)]; rfl)
            have HXn := Lib.hid (fun (w' : World) (hb : Below wr.heap.size wr w') => ints_news (ints_of_sl (HX.out.old (bthen BR.out hb))))
            have HGn := Lib.hid (fun (w' : World) (hb : Below wr.heap.size wr w') => sigs_news (HG.out.old (bthen BR.out hb)))
            have q1 := Lib.hid (show (intsV nx).length = m * 1 by simp [intsV, HX.out.len])
            have q2 := Lib.hid (show (sigV sigs).length = sn * 2 by rw [sigV_len, HG.out.len])
            have hn1 := Lib.hid (show b = none → m = 0 ∧ d = 0 from fun hn => ⟨by have := HX.out.nil hn; have := HX.out.cap; omega, HX.out.nil hn⟩)
            have hn2 := Lib.hid (show sa = none → sn = 0 ∧ sc = 0 from fun hn => ⟨by have := HG.out.nil hn; have := HG.out.cap; omega, HG.out.nil hn⟩)
            have k1 : m ≤ maxLen := by have := HX.out.cap; have := HX.out.max; simp only [maxLen]; omega
            have k2 : m * 8 ≤ 140737488355328 := HX.out.bytes
            have k3 : sn ≤ maxLen := by have := HG.out.cap; have := HG.out.max; simp only [maxLen]; omega
            have k4 : sn * 24 ≤ 140737488355328 := HG.out.bytes
            have k5' : V.length + 1 ≤ maxLen := by simp only [maxLen]; omega
            have k6 : (V.length + 1) * 72 ≤ 140737488355328 := by omega
            obtain ⟨i1, hi1, hc0, hc1, hc2⟩ := info_parts info_int'
            obtain ⟨i2, hi2, hs0, hs1, hs2⟩ := info_parts info_sig'
            obtain ⟨i3, hi3, hr0, hr1, hr2⟩ := info_parts info_rv'
            have HOL := Lib.hid (show ∀ k, wr.heap.size ≤ k → ¬ (ol = some k) from fun k hk hc => by have := HT5.out.lt k (HT5.out.mine.2 k hc); omega)
            have HNO := Lib.hid (show ¬ (ol = some q) from HT5.out.nol)
            have HXn := Lib.hid (show ∀ w', Keep (fun k => ol = some k) wr w' → SlAt Sh.int w' b m d nx from fun w' hk => HXR.out w' ((Keep.of_below BR.out).trans hk (fun _ _ h => h)))
            have HGn := Lib.hid (show ∀ w', Keep (fun k => ol = some k) wr w' → SlAt shSig w' sa sn sc sigs from fun w' hk => HGR.out w' ((Keep.of_below BR.out).trans hk (fun _ _ h => h)))
            clear hp5 hI5 o5 e5 r5 hin hk HD
            go_upto_region 13 with (fail)
            refine wp_region_kept 16 (fun k => ol = some k) 13 (rgrowR wr.heap.size q ol V xl al2 cl2 x t b m d nx sa sn sc sigs) (fun _ _ => none) rfl (by kernel_rfl) (by kernel_rfl) (rgrowR_stab HOL.out) (fun _ _ _ _ _ h => by cases h) (fun i oo hi ho => ?_) (fun vs w7 hb7' hs hne => ?_)
            · intro ac wa hba hbs hE hF K hK
              have b7 := keep_undrew hba
              have hno : ∀ k, (none : Option Nat) = some k → wa.heap.size ≤ k := fun _ h => by cases h
              have z0 : wa.cell? ⟨q, 2, none⟩ = some (.slice al2 V.length cl2) := by rw [blk_cell (show wa.heap[q]? = _ from (b7.block q (blk_lt HP5.out) HNO.out).trans HP5.out)]; rfl
              have hW := b7.size
              have hi' : i = 0 ∨ i = 1 ∨ i = 2 ∨ i = 3 ∨ i = 4 ∨ i = 5 ∨ i = 6 ∨ i = 7 ∨ i = 8 ∨ i = 9 ∨ i = 10 ∨ i = 11 ∨ i = 12 ∨ i = 13 ∨ i = 14 ∨ i = 15 := by omega
              rcases hi' with rfl | rfl | rfl | rfl | rfl | rfl | rfl | rfl | rfl | rfl | rfl | rfl | rfl | rfl | rfl | rfl
              · obtain rfl := Option.some.inj ho
                have h1 : ac.eval (.tmp 0) = .pointer (some ⟨q, 0, none⟩) := hE 0 (by decide)
                exact news_val rfl rfl (by generalize ac.eval = ρ at h1; simp only [execOp]; go_simp) (hK _ _ (fun _ => Below.refl _ _) (Keep.refl _ _) rfl hno)
              · obtain rfl := Option.some.inj ho
                have h1 : ac.eval (.tmp 0) = .pointer (some ⟨q, 0, none⟩) := hE 0 (by decide)
                exact news_val rfl rfl (by generalize ac.eval = ρ at h1; simp only [execOp]; go_simp) (hK _ _ (fun _ => Below.refl _ _) (Keep.refl _ _) rfl hno)
              · obtain rfl := Option.some.inj ho
                have h1 : ac.eval (.tmp 67) = .pointer (some ⟨q, 0, none⟩) := hF ⟨1, .data⟩ (by simp) rfl 67 rfl
                exact news_val rfl rfl (by generalize ac.eval = ρ at h1; simp only [execOp]; go_simp) (hK _ _ (fun _ => Below.refl _ _) (Keep.refl _ _) rfl hno)
              · obtain rfl := Option.some.inj ho
                have h1 : ac.eval (.tmp 68) = .pointer (some ⟨q, 0, none⟩) := hF ⟨2, .data⟩ (by simp) rfl 68 rfl
                exact news_val rfl rfl (by generalize ac.eval = ρ at h1; simp only [execOp]; go_simp) (hK _ _ (fun _ => Below.refl _ _) (Keep.refl _ _) rfl hno)
              · obtain rfl := Option.some.inj ho
                have h1 : ac.eval (.tmp 69) = .pointer (some ⟨q, 2, none⟩) := hF ⟨3, .data⟩ (by simp) rfl 69 rfl
                exact news_val rfl rfl (by generalize ac.eval = ρ at h1; simp only [execOp]; go_simp) (hK _ _ (fun _ => Below.refl _ _) (Keep.refl _ _) rfl hno)
              · obtain rfl := Option.some.inj ho
                have h1 : ac.eval (.tmp 1) = .int .i64 x := hE 1 (by decide)
                exact news_val rfl rfl (by generalize ac.eval = ρ at h1; simp only [execOp]; go_simp) (hK _ _ (fun _ => Below.refl _ _) (Keep.refl _ _) rfl hno)
              · obtain rfl := Option.some.inj ho
                have h1 : ac.eval (.tmp 2) = .string t := hE 2 (by decide)
                exact news_val rfl rfl (by generalize ac.eval = ρ at h1; simp only [execOp]; go_simp) (hK _ _ (fun _ => Below.refl _ _) (Keep.refl _ _) rfl hno)
              · obtain rfl := Option.some.inj ho
                have h1 : ac.eval (.tmp 3) = .slice b m d := hE 3 (by decide)
                exact news_val rfl rfl (by generalize ac.eval = ρ at h1; simp only [execOp]; go_simp) (hK _ _ (fun _ => Below.refl _ _) (Keep.refl _ _) rfl hno)
              · obtain rfl := Option.some.inj ho
                have h1 : ac.eval (.tmp 73) = .slice b m d := hF ⟨7, .data⟩ (by simp) rfl 73 rfl
                have h2 : ac.eval (.const (.slice none 0 0)) = .slice none 0 0 := rfl
                refine wpOp_step rfl fun K' hK' => ?_
                refine step_append_nil _ rfl (.const (.slice none 0 0)) (.tmp 73) 22 rfl 3 i1 (.int .i64 0) 1 8 Try.underlying22 hi1 hc0 hc1 hc2 rfl (by decide) rfl b m d (intsV nx) h1 q1.out hn1.out (ints_news (ints_of_sl (HXn.out wa b7))) (intsV_one nx) k1 k2 ?_
                intro v6 w8 ho6 b6
                obtain ⟨a6, c6, rfl⟩ := owns_form ho6
                exact hK' _ _ (hK _ _ (fun _ => b6) (Keep.of_below b6) ⟨a6, c6, rfl, owns_lower ho6 hW⟩ hno)
              · obtain rfl := Option.some.inj ho
                have h1 : ac.eval (.tmp 4) = .slice sa sn sc := hE 4 (by decide)
                exact news_val rfl rfl (by generalize ac.eval = ρ at h1; simp only [execOp]; go_simp) (hK _ _ (fun _ => Below.refl _ _) (Keep.refl _ _) rfl hno)
              · obtain rfl := Option.some.inj ho
                have h1 : ac.eval (.tmp 75) = .slice sa sn sc := hF ⟨9, .data⟩ (by simp) rfl 75 rfl
                have h2 : ac.eval (.const (.slice none 0 0)) = .slice none 0 0 := rfl
                refine wpOp_step rfl fun K' hK' => ?_
                refine step_append_nil _ rfl (.const (.slice none 0 0)) (.tmp 75) 39 rfl 47 i2 (.agg #[.int .i64 0, .string ⟨#[]⟩]) 2 24 Try.underlying39 hi2 hs0 hs1 hs2 rfl (by decide) rfl sa sn sc (sigV sigs) h1 q2.out hn2.out (sigs_news (HGn.out wa b7)) (sigV_one sigs) k3 k4 ?_
                intro v6 w8 ho6 b6
                obtain ⟨a6, c6, rfl⟩ := owns_form ho6
                exact hK' _ _ (hK _ _ (fun _ => b6) (Keep.of_below b6) ⟨a6, c6, rfl, owns_lower ho6 hW⟩ hno)
              · obtain rfl := Option.some.inj ho
                have h1 : ac.eval (.tmp 71) = .int .i64 x := hF ⟨5, .data⟩ (by simp) rfl 71 rfl
                have h2 : ac.eval (.tmp 72) = .string t := hF ⟨6, .data⟩ (by simp) rfl 72 rfl
                obtain ⟨a8, c8, h3, ho8⟩ : ∃ a' c', (ac.eval (.tmp 74)) = .slice a' m c' ∧ wa.ownsRow wr.heap.size 3 1 (.slice a' m c') m (intsV nx) := hF ⟨8, .data⟩ (by simp) rfl 74 rfl
                obtain ⟨a10, c10, h4, ho10⟩ : ∃ s' d', (ac.eval (.tmp 76)) = .slice s' sn d' ∧ wa.ownsRow wr.heap.size 47 2 (.slice s' sn d') sn (sigV sigs) := hF ⟨10, .data⟩ (by simp) rfl 76 rfl
                exact news_val rfl rfl (by generalize ac.eval = ρ at h1 h2 h3 h4; simp only [execOp]; go_simp) (hK _ _ (fun _ => Below.refl _ _) (Keep.refl _ _) ⟨_, _, _, _, rfl, ho8, ho10⟩ hno)
              · obtain rfl := Option.some.inj ho
                obtain ⟨a11, c11, s11, d11, h1, ho11, hp11⟩ : ∃ a' c' s' d', (ac.eval (.tmp 77)) = .agg #[.int .i64 x, .string t, .slice a' m c', .slice s' sn d'] ∧ wa.ownsRow wr.heap.size 3 1 (.slice a' m c') m (intsV nx) ∧ wa.ownsRow wr.heap.size 47 2 (.slice s' sn d') sn (sigV sigs) := hF ⟨11, .data⟩ (by simp) rfl 77 rfl
                exact news_val rfl rfl (by generalize ac.eval = ρ at h1; simp only [execOp]; go_simp) (hK _ _ (fun _ => below_alloc _ _) (Keep.of_below (below_alloc _ _)) ⟨wa.heap.size, _, _, _, _, rfl, hW, blk_alloc _ _, owns_old ho11 (below_alloc _ _), owns_old hp11 (below_alloc _ _)⟩ hno)
              · obtain rfl := Option.some.inj ho
                have h1 : ac.eval (.tmp 70) = .slice al2 V.length cl2 := hF ⟨4, .data⟩ (by simp) rfl 70 rfl
                obtain ⟨g12, a12, c12, s12, d12, h2, hg12, hb12, ho12, hp12⟩ : ∃ g a' c' s' d', (ac.eval (.tmp 78)) = .slice (some ⟨g, 0, none⟩) 1 1 ∧ wr.heap.size ≤ g ∧ wa.heap[g]? = some (.cells #[.int .i64 x, .string t, .slice a' m c', .slice s' sn d'] 86 (0, 0)) ∧ wa.ownsRow wr.heap.size 3 1 (.slice a' m c') m (intsV nx) ∧ wa.ownsRow wr.heap.size 47 2 (.slice s' sn d') sn (sigV sigs) := hF ⟨12, .data⟩ (by simp) rfl 78 rfl
                refine wpOp_step rfl fun K' hK' => ?_
                refine step_append_lies _ rfl (.tmp 70) (.tmp 78) 43 rfl 0 86 i3 (.agg #[.int .i64 0, .string ⟨#[]⟩, .slice none 0 0, .slice none 0 0]) 4 72 Try.underlying43 hi3 hr0 hr1 hr2 rfl (by decide) (.slice al2 V.length cl2) V.length xl h1 (owns_old O5.out (below_undrew (hbs rfl))) ⟨g12, 0, none⟩ 1 1 [.int .i64 x, .string t, .slice a12 m c12, .slice s12 sn d12] h2 rfl (World.news_of_block hb12) (by simp [Value.oneCell']) (by decide) k5' k6 (Nat.zero_le _) _ rfl ?_
                intro g cap w8 hown8 hg8 hor8 hlt8
                exact hK' _ _ (hK _ _ (fun h => (h rfl).elim) ((Keep.refl _ wa).grown hg8 (fun k hk => .inr (by rw [← E5.out]; exact hk))) ⟨_, _, _, _, _, rfl, rv_done E5.out hW HOL.out ho12 hp12 hown8 hg8 hor8⟩ hno)
              · obtain rfl := Option.some.inj ho
                have h1 : ac.eval (.tmp 66) = .pointer (some ⟨q, 0, none⟩) := hF ⟨0, .data⟩ (by simp) rfl 66 rfl
                exact news_val rfl rfl (by generalize ac.eval = ρ at h1; simp only [execOp]; go_simp) (hK _ _ (fun _ => Below.refl _ _) (Keep.refl _ _) rfl hno)
              · obtain rfl := Option.some.inj ho
                have h1 : ac.eval (.tmp 80) = .pointer (some ⟨q, 0, none⟩) := hF ⟨14, .data⟩ (by simp) rfl 80 rfl
                exact news_val rfl rfl (by generalize ac.eval = ρ at h1; simp only [execOp]; go_simp) (hK _ _ (fun _ => Below.refl _ _) (Keep.refl _ _) rfl hno)
            · have e0 : vs 0 = _ := hs 0 (by omega)
              have e1 : vs 1 = _ := hs 1 (by omega)
              have e2 : vs 2 = _ := hs 2 (by omega)
              have e3 : vs 3 = _ := hs 3 (by omega)
              have e4 : vs 4 = _ := hs 4 (by omega)
              have e5 : vs 5 = _ := hs 5 (by omega)
              have e6 : vs 6 = _ := hs 6 (by omega)
              have e7 : vs 7 = _ := hs 7 (by omega)
              obtain ⟨a8, c8, e8, ho8⟩ : ∃ a' c', (vs 8) = .slice a' m c' ∧ w7.ownsRow wr.heap.size 3 1 (.slice a' m c') m (intsV nx) := hs 8 (by omega)
              have e9 : vs 9 = _ := hs 9 (by omega)
              obtain ⟨a10, c10, e10, ho10⟩ : ∃ s' d', (vs 10) = .slice s' sn d' ∧ w7.ownsRow wr.heap.size 47 2 (.slice s' sn d') sn (sigV sigs) := hs 10 (by omega)
              obtain ⟨a11, c11, s11, d11, e11, ho11, hp11⟩ : ∃ a' c' s' d', (vs 11) = .agg #[.int .i64 x, .string t, .slice a' m c', .slice s' sn d'] ∧ w7.ownsRow wr.heap.size 3 1 (.slice a' m c') m (intsV nx) ∧ w7.ownsRow wr.heap.size 47 2 (.slice s' sn d') sn (sigV sigs) := hs 11 (by omega)
              obtain ⟨g12, a12, c12, s12, d12, e12, hg12, hb12, ho12, hp12⟩ : ∃ g a' c' s' d', (vs 12) = .slice (some ⟨g, 0, none⟩) 1 1 ∧ wr.heap.size ≤ g ∧ w7.heap[g]? = some (.cells #[.int .i64 x, .string t, .slice a' m c', .slice s' sn d'] 86 (0, 0)) ∧ w7.ownsRow wr.heap.size 3 1 (.slice a' m c') m (intsV nx) ∧ w7.ownsRow wr.heap.size 47 2 (.slice s' sn d') sn (sigV sigs) := hs 12 (by omega)
              obtain ⟨v13, a13, c13, s13, d13, e13, ho13⟩ : ∃ u0 a' c' s' d', (vs 13) = u0 ∧ rvDone wr.heap.size ol V xl x t m nx sn sigs w7 u0 a' c' s' d' := hs 13 (by omega)
              have e14 : vs 14 = _ := hs 14 (by omega)
              have e15 : vs 15 = _ := hs 15 (by omega)
              show wpList _ _ _ _ ((((((((((((((((Act.put _ (some 66) (vs 0)).put (some 67) (vs 1)).put (some 68) (vs 2)).put (some 69) (vs 3)).put (some 70) (vs 4)).put (some 71) (vs 5)).put (some 72) (vs 6)).put (some 73) (vs 7)).put (some 74) (vs 8)).put (some 75) (vs 9)).put (some 76) (vs 10)).put (some 77) (vs 11)).put (some 78) (vs 12)).put (some 79) (vs 13)).put (some 80) (vs 14)).put (some 81) (vs 15)) _
              rw [e0, e1, e2, e3, e4, e5, e6, e7, e8, e9, e10, e11, e12, e13, e14, e15]
              clear e0 e1 e2 e3 e4 e5 e6 e7 e8 e9 e10 e11 e12 e13 e14 e15 hs hne vs
              have HPG := Lib.hid (RTal.grow HT5.out HP5.out HI5.out R5.out E5.out hb7' ho13.i ho13.s ho13.ni ho13.ns HX.out.len HG.out.len hx0 (by omega) (ints_of_sl HX.out).fit (sl_fit HG.out) HX.out.bytes HG.out.bytes HSG.out ho13.v ho13.at')
              have hq7 : w7.heap[q]? = some (.cells #[.int .i64 e, .slice a5 n5 k5, .slice al2 V.length cl2] 45 (0, 0)) := (hb7'.block q (blk_lt HP5.out) HNO.out).trans HP5.out
              have m8 : w7.cell? ⟨q, 2, none⟩ = some (.slice al2 V.length cl2) := by rw [blk_cell hq7]; rfl
              have m9 : w7.frozen? ⟨q, 2, none⟩ = false := blk_frozen hq7 2
              have lq7 := blk_lt hq7
              obtain ⟨av, cv, rfl⟩ := owns_form ho13.v
              clear hq7 hb7' ho13 ho8 ho10 ho11 hp11 ho12 hp12 hb12
              simp only [List.drop_succ_cons, List.drop_zero, Act.put, List.setIfInBounds_toArray, List.set_cons_succ, List.set_cons_zero]
              go_wp2_with fail
              go_ret
              obtain ⟨⟨M', ol', g1, g2, g3⟩, g4⟩ := HPG.out
              refine ⟨by rw [HA.out]; rfl, (Keep.of_below BR.out).trans g4 (fun _ _ h => h), M', ol', g1, fun k hk => ?_, ?_⟩
              · rcases g2 k hk with h | h
                · exact .inl h
                · exact .inr (by have := BR.out.size; omega)
              · rw [show addV e l V x t nx sigs = V ++ [(x, t, nx)] from if_pos HA.out]
                exact g3
      · have hsd : decide (sigs = [(x, S), (x, C)]) = false := by simpa using hsg
        have HNG := Lib.hid (show ¬ sigs = [(x, stS e t), (x, textS (e + 1) nx)] by rw [← HS1.out, ← HC1.out]; exact hsg)
        rw [hsd]
        clear hsg hsd
        go_wp2_with fail
        go_ret
        exact radd_no HT.out (by unfold addE; rw [if_neg (by rw [hg]; decide), if_neg (by rw [hh]; decide), if_neg HNG.out]) (by decide) B3.out
end Go.Proofs.Ytfhbjajhmegdmaa
