
/- append onto nil at a step of a region that draws; walk of the reference's Copied. -/
import Derived.Test.YtdeomokhjmnfhaaTk
import Derived.Deep.RegionHeld3
namespace Go.Proofs.Ytdeomokhjmnfhaa
open Go.RowKit
set_option linter.unusedVariables false

/-- 'append(nil, xs...)', xs whatever slice, at an operation. -/
theorem wp_append_nil {P : Program} (w : World) {o : Oper} {a : Act} {K : Act → World → Prop} {Q : Exit → Act → World → Prop} (s x : Operand) (t : TypeId)
    (ho : o.op = .call { callee := .builtin .append, args := #[s, x], argTypes := #[t, t] })
    (e : TypeId) (i : TypeInfo) (z : Value) (size bytes : Nat) (ht : P.underlying t = some (.slice e)) (hi : P.info? e = some i) (hz : i.zero = some z)
    (hsize : i.size = size) (hby : i.bytes = bytes) (hzs : z.cells.size = size) (hsz : 0 < size) (hs : a.eval s = .slice none 0 0)
    (xo : Option Addr) (m c : Nat) (news : List Value) (hx : a.eval x = .slice xo m c) (hl : news.length = m * size) (hxo : xo = none → m = 0 ∧ c = 0) (hnews : ∀ ad, xo = some ad → ∀ j u, news[j]? = some u → w.cell? (ad.add j) = some u) (h1 : ∀ u ∈ news, u.oneCell' = true)
    (h63 : m ≤ maxLen) (hbytes : m * bytes ≤ 140737488355328)
    (h : ∀ v' w', w'.ownsRow w.heap.size e size v' m news → Below w.heap.size w w' → K (a.put o.dst v') w') : o.wp P a w K Q := by
  have hown := World.ownsRow_nil w w.heap.size e size
  cases xo with
  | some ad =>
    refine wp_append_own w s x t ho w.heap.size e i z size bytes ht hi hz hsize hby hzs hsz _ 0 [] hs hown ad m c news hx hl (hnews ad rfl) h1 (by omega) (by rw [Nat.zero_add]; exact hbytes) (Nat.le_refl _) ?_
    intro v' w' ho' hg' _
    exact h v' w' (by simpa using ho') ((Below.refl _ w).grown hg' (Nat.le_refl _) (fun k hk => by cases hk))
  | none =>
    obtain ⟨rfl, rfl⟩ := hxo rfl
    obtain rfl : news = [] := List.eq_nil_of_length_eq_zero (by simpa using hl)
    have hrun := run_append_owned_none (P := P) w w.heap.size t o.type e i size ht hi _ 0 [] hown
    unfold Oper.wp
    simp [execOp, ho, resolve, invoke, builtin, hs, hx, hrun, Result.andThen]
    exact h _ w hown (Below.refl _ _)
theorem step_append_nil {P : Program} (w : World) {ops : Array Oper} {o : Oper} {a : Act} {K : Act → World → Prop} {Q : Exit → Act → World → Prop} {E : Prop} (hgd : o.guard = none) (s x : Operand) (t : TypeId)
    (ho : o.op = .call { callee := .builtin .append, args := #[s, x], argTypes := #[t, t] })
    (e : TypeId) (i : TypeInfo) (z : Value) (size bytes : Nat) (ht : P.underlying t = some (.slice e)) (hi : P.info? e = some i) (hz : i.zero = some z)
    (hsize : i.size = size) (hby : i.bytes = bytes) (hzs : z.cells.size = size) (hsz : 0 < size) (hs : a.eval s = .slice none 0 0)
    (xo : Option Addr) (m c : Nat) (news : List Value) (hx : a.eval x = .slice xo m c) (hl : news.length = m * size) (hxo : xo = none → m = 0 ∧ c = 0) (hnews : ∀ ad, xo = some ad → ∀ j u, news[j]? = some u → w.cell? (ad.add j) = some u) (h1 : ∀ u ∈ news, u.oneCell' = true)
    (h63 : m ≤ maxLen) (hbytes : m * bytes ≤ 140737488355328)
    (h : ∀ v' w', w'.ownsRow w.heap.size e size v' m news → Below w.heap.size w w' → K (a.put o.dst v') w') : if Region.wanted o (yielded ops a.tmps) = true then Oper.wp P o a w K Q else E := by
  have hw : Region.wanted o (yielded ops a.tmps) = true := by simp [Region.wanted, hgd]
  rw [if_pos hw]
  exact wp_append_nil w s x t ho e i z size bytes ht hi hz hsize hby hzs hsz hs xo m c news hx hl hxo hnews h1 h63 hbytes h

/-- A slice's cells, in the words that append asks for. -/
theorem ints_news {w : World} {a : Option Addr} {n : Nat} {l : List Int} (h : IntsAt w a n l) : ∀ ad, a = some ad → ∀ j u, (intsV l)[j]? = some u → w.cell? (ad.add j) = some u := fun ad had j u hu => by
  subst had
  have hj : j < n := by rw [← h.len]; have := (List.getElem?_eq_some_iff.1 hu).1; simpa [intsV] using this
  obtain ⟨b, o, hab, hc⟩ := h.cell j hj
  injection hab with hab; subst hab
  rw [Addr.add_lit, hc, ← hu]
  simp [intsV, List.getD]
  rw [List.getElem?_eq_getElem (by rw [h.len]; exact hj)]
  simp
theorem sigs_news {w : World} {a : Option Addr} {n c : Nat} {l : List Sg} (h : SlAt shSig w a n c l) : ∀ ad, a = some ad → ∀ j u, (sigV l)[j]? = some u → w.cell? (ad.add j) = some u := fun ad had j u hu => by
  subst had
  obtain ⟨i, x, t, hit, hju⟩ := sigV_at l j u hu
  obtain ⟨b, o, x', t', hab, hit', c0, c1, _⟩ := sig_cells h (show i < n by rw [← h.len]; exact (List.getElem?_eq_some_iff.1 hit).1)
  rw [hit] at hit'
  obtain ⟨rfl, rfl⟩ : x = x' ∧ t = t' := by simpa using hit'
  injection hab with hab; subst hab
  rcases hju with ⟨rfl, rfl⟩ | ⟨rfl, rfl⟩
  · rw [Addr.add_lit, c0]
  · rw [Addr.add_lit, ← Nat.add_assoc, c1]

/-- What Copied answers: a link with lists of its own. -/
def CopyPost (e : Int) (n : Nat) (l : List Int) (sn : Nat) (sigs : List Sg) (w : World) (r : Ending) (w' : World) : Prop :=
  ∃ a' c' sa' sc', r = .returned (.agg #[.int .i64 e, .slice a' n c', .slice sa' sn sc']) ∧ w'.ownsRow w.heap.size 3 1 (.slice a' n c') n (intsV l) ∧ w'.ownsRow w.heap.size 62 2 (.slice sa' sn sc') sn (sigV sigs) ∧
    (∀ k, (Value.slice a' n c').ownBlock = some k → (Value.slice sa' sn sc').ownBlock ≠ some k) ∧ Below w.heap.size w w'

set_option maxHeartbeats 1000000 in
theorem copied_any (e : Int) (a : Option Addr) (n c : Nat) (l : List Int) (sa : Option Addr) (sn sc : Nat) (sigs : List Sg) (w : World) (h : SlAt Sh.int w a n c l) (hs : SlAt shSig w sa sn sc sigs) :
    Calls Try.prog 22 #[.agg #[.int .i64 e, .slice a n c, .slice sa sn sc]] w (CopyPost e n l sn sigs w) := by
  obtain ⟨i1, hi1, hc0, hc1, hc2⟩ := info_parts info_int'
  obtain ⟨i2, hi2, hs0, hs1, hs2⟩ := info_parts info_sig'
  have k1 : n ≤ maxLen := by have := h.cap; have := h.max; simp only [maxLen]; omega
  have k2 : n * 8 ≤ 140737488355328 := h.bytes
  have k3 : sn ≤ maxLen := by have := hs.cap; have := hs.max; simp only [maxLen]; omega
  have k4 : sn * 24 ≤ 140737488355328 := hs.bytes
  have hn1 := Lib.hid (show a = none → n = 0 ∧ c = 0 from fun hn => ⟨by have := h.nil hn; have := h.cap; omega, h.nil hn⟩)
  have hn2 := Lib.hid (show sa = none → sn = 0 ∧ sc = 0 from fun hn => ⟨by have := hs.nil hn; have := hs.cap; omega, hs.nil hn⟩)
  have q1 := Lib.hid (show (intsV l).length = n * 1 by simp [intsV, h.len])
  have q2 := Lib.hid (show (sigV sigs).length = sn * 2 by rw [sigV_len, hs.len])
  obtain ⟨w1, hw1⟩ : ∃ w1, w1 = (w.alloc (.cells #[.int .i64 e, .slice a n c, .slice sa sn sc] 27)).alloc (.cells #[.int .i64 0, .slice none 0 0, .slice none 0 0] 27) := ⟨_, rfl⟩
  have b1 := below_alloc w (.cells #[.int .i64 e, .slice a n c, .slice sa sn sc] 27)
  have b2 := below_alloc (w.alloc (.cells #[.int .i64 e, .slice a n c, .slice sa sn sc] 27)) (.cells #[.int .i64 0, .slice none 0 0, .slice none 0 0] 27)
  have B1 : Below w.heap.size w w1 := by rw [hw1]; exact bthen b1 b2
  have hz : w1.heap.size = w.heap.size + 2 := by rw [hw1]; simp
  have K0 : w1.heap[w.heap.size]? = some (.cells #[.int .i64 e, .slice a n c, .slice sa sn sc] 27 (0, 0)) := by rw [hw1]; exact blk_below (blk_alloc _ _) b2
  have K1 : w1.heap[w.heap.size + 1]? = some (.cells #[.int .i64 0, .slice none 0 0, .slice none 0 0] 27 (0, 0)) := by
    have := blk_alloc (w.alloc (.cells #[.int .i64 e, .slice a n c, .slice sa sn sc] 27)) (.cells #[.int .i64 0, .slice none 0 0, .slice none 0 0] 27)
    rw [World.size_alloc] at this
    rw [hw1]; exact this
  have HI := Lib.hid (fun (w' : World) (hb : Below w1.heap.size w1 w') => ints_news (ints_of_sl (h.old (bthen B1 hb))))
  have HG := Lib.hid (fun (w' : World) (hb : Below w1.heap.size w1 w') => sigs_news (hs.old (bthen B1 hb)))
  have HC := Lib.hid (show ∀ w', Below w1.heap.size w1 w' → w'.cell? ⟨w.heap.size, 0, none⟩ = some (.int .i64 e) ∧ w'.cell? ⟨w.heap.size, 1, none⟩ = some (.slice a n c) ∧ w'.cell? ⟨w.heap.size, 2, none⟩ = some (.slice sa sn sc) from fun w' hb => by
    have := blk_below K0 hb
    exact ⟨by rw [blk_cell this]; rfl, by rw [blk_cell this]; rfl, by rw [blk_cell this]; rfl⟩)
  have HY := Lib.hid (show ∀ w', Below w1.heap.size w1 w' → w'.cell? ⟨w.heap.size + 1, 0, none⟩ = some (.int .i64 0) ∧ w'.cell? ⟨w.heap.size + 1, 1, none⟩ = some (.slice none 0 0) ∧ w'.cell? ⟨w.heap.size + 1, 2, none⟩ = some (.slice none 0 0) ∧ ∀ o, w'.frozen? ⟨w.heap.size + 1, o, none⟩ = false from fun w' hb => by
    have := blk_below K1 hb
    exact ⟨by rw [blk_cell this]; rfl, by rw [blk_cell this]; rfl, by rw [blk_cell this]; rfl, fun o => blk_frozen this o⟩)
  obtain ⟨x0, x1, x2⟩ := HC.out _ (Below.refl _ w1)
  have KK1 := Lib.hid K1; have BB := Lib.hid B1; have HZ := Lib.hid hz
  have HB := Lib.hid (below_drewN (Below.refl w1.heap.size w1) 1)
  clear h hs b1 b2 B1 hz K0 K1
  go_enter Try.func22, Try.ntmps22
  go_wp2_with fail
  rw [← hw1]
  clear hw1
  go_region_held3 (fun w' => w'.cell? ⟨w.heap.size, 0, none⟩ = some (.int .i64 e) ∧ w'.cell? ⟨w.heap.size, 1, none⟩ = some (.slice a n c) ∧ w'.cell? ⟨w.heap.size, 2, none⟩ = some (.slice sa sn sc)) (first | exact ⟨by assumption, by assumption, by assumption⟩ | go_keep)
    (first
      | (refine step_append_nil _ rfl (.const (.slice none 0 0)) (.tmp 8) 22 rfl 3 i1 (.int .i64 0) 1 8 Try.underlying22 hi1 hc0 hc1 hc2 rfl (by decide) rfl a n c (intsV l) rfl q1.out hn1.out (HI.out _ HB.out) (intsV_one l) k1 k2 ?_; intro v5 wA ho5 bA; obtain ⟨a5, c5, rfl⟩ := owns_form ho5; have BA := Lib.hid bA; have HB := Lib.hid (bthen HB.out bA); have HO5 := Lib.hid ho5; clear ho5 bA; obtain ⟨x0, x1, x2⟩ := HC.out _ HB.out; obtain ⟨y0, y1, y2, yf⟩ := HY.out _ HB.out)
      | (refine step_append_nil _ rfl (.const (.slice none 0 0)) (.tmp 12) 25 rfl 62 i2 (.agg #[.int .i64 0, .string ⟨#[]⟩]) 2 24 Try.underlying25 hi2 hs0 hs1 hs2 rfl (by decide) rfl sa sn sc (sigV sigs) rfl q2.out hn2.out (HG.out _ HB.out) (sigV_one sigs) k3 k4 ?_; intro v6 wB ho6 bB; obtain ⟨a6, c6, rfl⟩ := owns_form ho6; have BB6 := Lib.hid bB; have HB := Lib.hid (bthen HB.out bB); have HO6 := Lib.hid ho6; clear ho6 bB; obtain ⟨x0, x1, x2⟩ := HC.out _ HB.out; obtain ⟨y0, y1, y2, yf⟩ := HY.out _ HB.out))
  have hzd : w1.drew.heap.size = w.heap.size + 2 := by simpa using HZ.out
  have h5 := owns_old HO5.out BB6.out
  have hzA : w.heap.size + 2 ≤ wA.heap.size := by have := BA.out.size; omega
  rw [hzd] at h5
  have hs := blk_set (blk_set (blk_set (blk_below KK1.out HB.out) 0 (.int .i64 e)) 1 (.slice a5 n c5)) 2 (.slice a6 sn c6)
  have l1 : w.heap.size + 1 < w.heap.size + 2 := by omega
  have l2 : w.heap.size + 1 < wA.heap.size := by omega
  have H5 := Lib.hid (owns_lower (owns_setlow (owns_setlow (owns_setlow h5 l1 0 (.int .i64 e)) l1 1 (.slice a5 n c5)) l1 2 (.slice a6 sn c6)) (show w.heap.size ≤ w.heap.size + 2 by omega))
  have H6 := Lib.hid (owns_lower (owns_setlow (owns_setlow (owns_setlow HO6.out l2 0 (.int .i64 e)) l2 1 (.slice a5 n c5)) l2 2 (.slice a6 sn c6)) (show w.heap.size ≤ wA.heap.size by omega))
  have HD := Lib.hid (show ∀ k, (Value.slice a5 n c5).ownBlock = some k → (Value.slice a6 sn c6).ownBlock ≠ some k from fun k h1 h2 => by
    have := (HO5.out.lt k h1).2
    have := (HO6.out.lt k h2).1
    omega)
  have HBF := Lib.hid ((((bthen BB.out HB.out).setCell (p := ⟨w.heap.size + 1, 0, none⟩) (Nat.le_succ _) (.int .i64 e)).setCell (p := ⟨w.heap.size + 1, 1, none⟩) (Nat.le_succ _) (.slice a5 n c5)).setCell (p := ⟨w.heap.size + 1, 2, none⟩) (Nat.le_succ _) (.slice a6 sn c6))
  clear y0 y1 y2 yf x0 x1 x2
  generalize ((wB.setCell ⟨w.heap.size + 1, 0, none⟩ (.int .i64 e)).setCell ⟨w.heap.size + 1, 1, none⟩ (.slice a5 n c5)).setCell ⟨w.heap.size + 1, 2, none⟩ (.slice a6 sn c6) = wF at *
  have d0 : wF.cell? ⟨w.heap.size + 1, 0, none⟩ = some (.int .i64 e) := by rw [blk_cell hs]; rfl
  have d1 : wF.cell? ⟨w.heap.size + 1, 1, none⟩ = some (.slice a5 n c5) := by rw [blk_cell hs]; rfl
  have d2 : wF.cell? ⟨w.heap.size + 1, 2, none⟩ = some (.slice a6 sn c6) := by rw [blk_cell hs]; rfl
  go_wp2_with fail
  exact bodyPost_ret (v := .agg #[.int .i64 e, .slice a5 n c5, .slice a6 sn c6]) (by simp [results, Try.results22, go_sem, d0, d1, d2]) rfl ⟨a5, c5, a6, c6, rfl, H5.out, H6.out, HD.out, HBF.out⟩
end Go.Proofs.Ytdeomokhjmnfhaa
