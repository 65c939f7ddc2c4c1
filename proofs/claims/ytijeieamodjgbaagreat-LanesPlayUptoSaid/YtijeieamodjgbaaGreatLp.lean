
/- Lanes: the program's lane and the reference's beside each other: what each call leaves. -/
import Derived.Test.YtijeieamodjgbaaGreatLg
import Derived.Test.YtijeieamodjgbaaGreatNt
import Derived.Deep.MidRow
import Derived.Test.YtijeieamodjgbaaGreatRc
namespace Go.Proofs.YtijeieamodjgbaaGreat
set_option maxRecDepth 100000
open Go.RowKit Go.Deep
set_option linter.unusedVariables false
set_option linter.unusedSimpArgs false
attribute [local go_sem] run_store_float
structure RLn (W : Nat) (M : Nat → Prop) (w : World) (q : Nat) (bad : List Int) (row : List Pk) (book : List Sg) (NB : Nat) : Prop where
  lt : ∀ k, M k → k < w.heap.size
  ge : ∀ k, M k → W ≤ k
  mine : M q
  cap : row.length ≤ 4096
  small : book.length ≤ NB
  ex : ∃ ba bn bc v xs u, w.heap[q]? = some (.cells #[.slice ba bn bc, v, u] 61 (0, 0)) ∧
    (w.ownsRow W 3 1 (.slice ba bn bc) bn (intsV bad) ∧ bad.length = bn ∧ (∀ x ∈ bad, i64 x) ∧ bn * 8 ≤ 140737488355328 ∧ ∀ k, (Value.slice ba bn bc).ownBlock = some k → M k) ∧
    (w.ownsRow W 54 19 v row.length xs ∧ (∀ k, v.ownBlock = some k → M k) ∧ rowOf shPk (fun k => W ≤ k) w row xs) ∧
    (w.ownsRow W 84 2 u book.length (flatV book) ∧ (∀ k, u.ownBlock = some k → M k) ∧ ∀ s ∈ book, sgOk s)
theorem RLn.keep {W : Nat} {M Y : Nat → Prop} {w w' : World} {q : Nat} {bad : List Int} {row : List Pk} {book : List Sg} {NB : Nat} (h : RLn W M w q bad row book NB) (hk : Keep Y w w') (hY : ∀ k, Y k → ¬ M k ∧ W ≤ k) : RLn W M w' q bad row book NB := by
  obtain ⟨ba, bn, bc, v, xs, u, h1, ⟨h2, h3, h4, h5, h6⟩, ⟨h7, h8, h9⟩, h10, h11, h12⟩ := h.ex
  exact ⟨fun k hm => Nat.lt_of_lt_of_le (h.lt k hm) hk.size, h.ge, h.mine, h.cap, h.small, ba, bn, bc, v, xs, u, by rw [hk.block q (blk_lt h1) (fun hy => (hY q hy).1 h.mine)]; exact h1, ⟨owns_keep h2 hk (fun k hk' hy => (hY k hy).1 (h6 k hk')), h3, h4, h5, h6⟩,
    ⟨owns_keep h7 hk (fun k hk' hy => (hY k hy).1 (h8 k hk')), h8, h9.step hk (fun k _ hy => (hY k hy).2) (fun _ _ h => h)⟩, owns_keep h10 hk (fun k hk' hy => (hY k hy).1 (h11 k hk')), h11, h12⟩
theorem RLn.old {W : Nat} {M : Nat → Prop} {w w' : World} {q : Nat} {bad : List Int} {row : List Pk} {book : List Sg} {NB : Nat} (h : RLn W M w q bad row book NB) (hb : Below w.heap.size w w') : RLn W M w' q bad row book NB := h.keep (Y := fun _ => False) (Keep.of_below hb) (fun _ h => h.elim)
theorem RLn.mono {W : Nat} {M : Nat → Prop} {w : World} {q : Nat} {bad : List Int} {row : List Pk} {book : List Sg} {NB NB' : Nat} (h : RLn W M w q bad row book NB) (hN : NB ≤ NB') : RLn W M w q bad row book NB' := ⟨h.lt, h.ge, h.mine, h.cap, Nat.le_trans h.small hN, h.ex⟩
theorem RLn.view {W : Nat} {M : Nat → Prop} {w : World} {q : Nat} {bad : List Int} {row : List Pk} {book : List Sg} {NB : Nat} (h : RLn W M w q bad row book NB) (hN : NB ≤ 1048576) :
    ∃ ba bn bc a c u d, w.heap[q]? = some (.cells #[.slice ba bn bc, .slice a row.length c, .slice u book.length d] 61 (0, 0)) ∧ SlAt Sh.int w ba bn bc bad ∧ SlAt shPk w a row.length c row ∧ SlAt shSig w u book.length d book := by
  obtain ⟨ba, bn, bc, v, xs, u, h1, ⟨h2, h3, h4, h5, h6⟩, ⟨h7, h8, h9⟩, h10, h11, h12⟩ := h.ex; obtain ⟨a, c, rfl⟩ := owns_form h7; obtain ⟨u, d, rfl⟩ := owns_form h10; have hcp := h.cap; have hsm := h.small
  exact ⟨ba, bn, bc, a, c, u, d, h1, ints_row h2 h3 h4 h5, sl_of_row (B := W) (e := 54) (xs := xs) h7 h9 (by show row.length * 232 ≤ _; omega), sl_owned h10 h12 (by omega)⟩
set_option maxHeartbeats 1000000 in
theorem rlanenew_any (W : Nat) (a : Option Addr) (n c : Nat) (bad : List Int) (w : World) (hW : W ≤ w.heap.size) (h : SlAt Sh.int w a n c bad) :
    Calls Tryz.prog 11 #[.slice a n c] w fun r w' => Below w.heap.size w w' ∧ ∃ M q, r = .returned (.pointer (some ⟨q, 0, none⟩)) ∧ (∀ k, M k → w.heap.size ≤ k) ∧ RLn W M w' q bad [] [] 0 := by
  obtain ⟨ii, hi, hz0, hz1, hz2⟩ := info_parts info_int; have HI := Lib.hid (ints_of_sl h); have hby := h.bytes; have hbs : Sh.int.bs = 8 := rfl
  rw [hbs] at hby
  have hnil : a = none → n = 0 ∧ c = 0 := fun hn => ⟨by have := h.nil hn; have := h.cap; omega, h.nil hn⟩
  have hcell : ∀ ad, a = some ad → ∀ j u, (intsV bad)[j]? = some u → w.cell? (ad.add j) = some u := fun ad had j u hj => by
    subst had; obtain ⟨b, o, sp⟩ := ad
    have hjl : j < bad.length := by
      have := (List.getElem?_eq_some_iff.1 hj).1
      simpa [intsV] using this
    obtain ⟨b', o', cs, hae, hE, hcc⟩ := h.cell j _ (List.getElem?_eq_getElem hjl); injection hae with hae; injection hae with h1 h2 h3; subst h1 h2 h3; obtain ⟨rfl, _⟩ := hE; have h4 := hcc 0 _ rfl; rw [Addr.add_lit]
    have h5 : u = .int .i64 bad[j] := by
      simp only [intsV, List.getElem?_map, List.getElem?_eq_getElem hjl, Option.map_some, Option.some.injEq] at hj
      exact hj.symm
    rw [h5]
    simpa [Sh.int] using h4
  have HC := Lib.hid hcell; have hlen := h.len
  have k1 : 0 + n ≤ maxLen := by unfold maxLen; omega
  have k2 : (0 + n) * 8 ≤ 140737488355328 := by omega
  have hl : (intsV bad).length = n * 1 := by simp [intsV, hlen]
  have hone : ∀ u ∈ intsV bad, u.oneCell' = true := fun u hu => by
    simp only [intsV, List.mem_map] at hu
    obtain ⟨x, _, rfl⟩ := hu
    rfl
  have hfit := (ints_of_sl h).fit; clear h hcell
  go_enter Tryz.func11, Tryz.ntmps11
  go_wp2_with (first | (at_builtin; refine wpList_append_any_at _ rfl (.const (.slice none 0 0)) (.tmp 3) 30 rfl w.heap.size 3 ii (.int .i64 0) 1 8 Tryz.underlying30 hi hz0 hz1 hz2 rfl (by decide) (.slice none 0 0) 0 [] rfl (World.ownsRow_nil _ _ _ _) a n c (intsV bad) rfl hl hnil HC.out hone k1 k2 (Nat.le_refl _) ?_) | fail)
  intro v w1 ho hg hor; obtain ⟨a1, c1, rfl⟩ := owns_form ho; have b1 : Below w.heap.size w w1 := (Keep.refl (fun _ => False) w |>.grown hg (fun k hk => by cases hk)).below (Below.refl _ w) (fun k h => h.elim)
  have HP := Lib.hid (show Below w.heap.size w (w1.alloc (.cells #[.slice a1 n c1, .slice none 0 0, .slice none 0 0] 61 (0, 0))) ∧ ∃ M q, (Ending.returned (.pointer (some ⟨w1.heap.size, 0, none⟩))) = .returned (.pointer (some ⟨q, 0, none⟩)) ∧ (∀ k, M k → w.heap.size ≤ k) ∧ RLn W M (w1.alloc (.cells #[.slice a1 n c1, .slice none 0 0, .slice none 0 0] 61 (0, 0))) q bad [] [] 0 from by
    have ba := below_alloc w1 (.cells #[.slice a1 n c1, .slice none 0 0, .slice none 0 0] 61 (0, 0)); have hz := World.size_alloc w1 (.cells #[.slice a1 n c1, .slice none 0 0, .slice none 0 0] 61 (0, 0)); have h1 := b1.size
    refine ⟨bthen b1 ba, fun k => k = w1.heap.size ∨ (Value.slice a1 n c1).ownBlock = some k, w1.heap.size, rfl, fun k hk => ?_, ⟨fun k hk => ?_, fun k hk => ?_, .inl rfl, by decide, Nat.le_refl _, a1, n, c1, .slice none 0 0, [], .slice none 0 0, blk_alloc _ _,
      ⟨owns_lower (owns_old (by simpa using ho) ba) hW, by omega, hfit, by omega, fun k hk => .inr hk⟩, ⟨World.ownsRow_nil _ _ _ _, fun k hk => (by cases hk), rfl⟩, World.ownsRow_nil _ _ _ _, fun k hk => (by cases hk), fun s hs => by cases hs⟩⟩
    · rcases hk with rfl | hk
      · omega
      · exact (ho.lt k hk).1
    · rcases hk with rfl | hk
      · omega
      · have := (ho.lt k hk).2; omega
    · rcases hk with rfl | hk
      · omega
      · have := (ho.lt k hk).1; omega)
  clear ho hg hor b1
  go_wp2_with fail
  go_ret
  exact HP.out
set_option maxHeartbeats 400000 in
theorem rplace_any (W : Nat) (M : Nat → Prop) (q : Nat) (bad : List Int) (row : List Pk) (book : List Sg) (NB : Nat) (n : Int) (w : World) (h : RLn W M w q bad row book NB) (hn : i64 n) (hN : NB ≤ 1048576) :
    Calls Tryz.prog 59 #[.pointer (some ⟨q, 0, none⟩), .int .i64 n] w fun r w' => r = .returned (.int .i64 (if row.length = 0 then -1 else (plc n row.length : Int))) ∧ w = w' := by
  obtain ⟨ba, bn, bc, a, c, u, d, hp, _⟩ := h.view hN
  have x1 : w.cell? ⟨q, 1, none⟩ = some (.slice a row.length c) := by rw [blk_cell hp]; rfl
  have lp := blk_lt hp; have hcap := h.cap; clear hp h
  generalize row.length = s at *
  by_cases hs : s = 0
  · subst hs
    have hz : ((0 : Int) == 0) = true := rfl; rw [if_pos rfl]
    go_enter Tryz.func59, Tryz.ntmps59
    go_wp2_with fail
    go_ret
    exact ⟨rfl, rfl⟩
  · have hz : ((s : Int) == 0) = false := by simp; omega
    have hz2 : ¬ (s : Int) = 0 := by omega
    have hb := Int.tmod_eq_emod (a := n) (b := (s : Int)); have h1 := Int.emod_nonneg n (show (s : Int) ≠ 0 by omega); have h2 := Int.emod_lt_of_pos n (show (0 : Int) < s by omega)
    have h4 : (plc n s : Int) = n % (s : Int) := by unfold plc; omega
    have h3 : (0 ≤ n.tmod (s : Int) ∧ n.tmod (s : Int) = (plc n s : Int)) ∨ (n.tmod (s : Int) < 0 ∧ n.tmod (s : Int) + (s : Int) = (plc n s : Int) ∧ -(s : Int) ≤ n.tmod (s : Int)) := by
      rw [hb, h4]; split
      · exact .inl ⟨by omega, by omega⟩
      · by_cases h0 : n % (s : Int) = 0
        · rename_i hnn
          exact absurd (.inr (Int.dvd_of_emod_eq_zero h0)) hnn
        · exact .inr ⟨by omega, by omega, by omega⟩
    rw [if_neg hs]
    generalize (plc n s : Int) = P at *
    clear hb h1 h2 h4
    rcases h3 with ⟨h3, h5⟩ | ⟨h3, h5, h6⟩
    · have hd : decide (P < 0) = false := by simp; omega
      clear h3
      go_enter Tryz.func59, Tryz.ntmps59
      go_wp2_with fail
      go_ret
      exact ⟨rfl, rfl⟩
    · have hd : decide (n.tmod (s : Int) < 0) = true := by simp; omega
      have hw : wrap64 (n.tmod (s : Int) + (s : Int)) = P := by rw [IntWalk.wrap64_in _ (by omega)]; exact h5
      have hw2 : IntKind.i64.wrap (n.tmod (s : Int) + (s : Int)) = P := by rw [IntWalk.i64_in _ (by omega)]; exact h5
      clear h3 h5 h6
      go_enter Tryz.func59, Tryz.ntmps59
      go_wp2_with fail
      go_ret
      exact ⟨by first | rfl | simp [hw] | simp [hw2], rfl⟩
theorem rln_lay {W : Nat} {M : Nat → Prop} {w w8 : World} {q : Nat} {bad : List Int} {row row' : List Pk} {book book' : List Sg} {NB NB' : Nat} {xs xs' : List Value} {ba : Option Addr} {bn bc o : Nat} {v u v' u' x : Value}
    (h : RLn W M w q bad row book NB) (h1 : w.heap[q]? = some (.cells #[.slice ba bn bc, v, u] 61 (0, 0)))
    (h2 : w.ownsRow W 3 1 (.slice ba bn bc) bn (intsV bad) ∧ bad.length = bn ∧ (∀ x ∈ bad, i64 x) ∧ bn * 8 ≤ 140737488355328 ∧ ∀ k, (Value.slice ba bn bc).ownBlock = some k → M k)
    (h7 : w.ownsRow W 54 19 v row.length xs) (h8 : ∀ k, v.ownBlock = some k → M k) (h10 : w.ownsRow W 84 2 u book.length (flatV book)) (h11 : ∀ k, u.ownBlock = some k → M k)
    (hk : Keep (fun k => v.ownBlock = some k ∨ u.ownBlock = some k) w w8) (hv : w8.ownsRow W 54 19 v' row'.length xs') (hvo : v'.ownBlock = none ∨ v'.ownBlock = v.ownBlock ∨ ∃ k, v'.ownBlock = some k ∧ w.heap.size ≤ k) (hr : rowOf shPk (fun k => W ≤ k) w row' xs')
    (hu : w8.ownsRow W 84 2 u' book'.length (flatV book')) (huo : u'.ownBlock = none ∨ u'.ownBlock = u.ownBlock ∨ ∃ k, u'.ownBlock = some k ∧ w.heap.size ≤ k) (hok : ∀ s ∈ book', sgOk s) (hW : W ≤ w.heap.size) (hcap : row'.length ≤ 4096) (hN : book'.length ≤ NB')
    (hset : (w8.setCell ⟨q, o, none⟩ x).heap[q]? = some (.cells #[.slice ba bn bc, v', u'] 61 (0, 0))) :
    (∃ M' : Nat → Prop, (∀ k, M k → M' k) ∧ (∀ k, M' k → M k ∨ w.heap.size ≤ k) ∧ RLn W M' (w8.setCell ⟨q, o, none⟩ x) q bad row' book' NB') ∧ Keep M w (w8.setCell ⟨q, o, none⟩ x) := by
  have hpl := blk_lt h1; have hp8 : w8.heap[q]? = _ := (hk.block q hpl (fun hx => hx.elim (own_ne13 h7 h1 (by decide)) (own_ne13 h10 h1 (by decide)))).trans h1
  have K9 : Keep (fun k => k = q ∨ (v.ownBlock = some k ∨ u.ownBlock = some k)) w (w8.setCell ⟨q, o, none⟩ x) :=
    (show Keep (fun k => k = q ∨ (v.ownBlock = some k ∨ u.ownBlock = some k)) w w8 from ⟨hk.os, hk.tape, hk.output, hk.size, fun k hkk hx => hk.block k hkk (fun hc => hx (.inr hc))⟩).set (p := q) (.inr (.inl rfl)) o x
  have hz : (w8.setCell ⟨q, o, none⟩ x).heap.size = w8.heap.size := by simp [World.setCell]
  have hM9 : ∀ k, k = q ∨ (v.ownBlock = some k ∨ u.ownBlock = some k) → M k := fun k hk => by
    rcases hk with rfl | hk | hk
    · exact h.mine
    · exact h8 k hk
    · exact h11 k hk
  refine ⟨⟨fun k => M k ∨ v'.ownBlock = some k ∨ u'.ownBlock = some k, fun k hk => .inl hk, fun k hk => ?_, ⟨fun k hk => ?_, fun k hk => ?_, .inl h.mine, hcap, hN, ba, bn, bc, v', xs', u', hset, ⟨?_, h2.2.1, h2.2.2.1, h2.2.2.2.1, fun k hk => .inl (h2.2.2.2.2 k hk)⟩, ⟨?_, fun k hk => .inr (.inl hk), ?_⟩, ?_, fun k hk => .inr (.inr hk), hok⟩⟩, ?_⟩
  · rcases hk with hk | hk | hk
    · exact .inl hk
    · rcases hvo with h0 | h0 | ⟨g, h0, hg⟩
      · rw [h0] at hk; cases hk
      · exact .inl (h8 k (by rw [← h0]; exact hk))
      · rw [h0] at hk; injection hk with hk; exact .inr (by omega)
    · rcases huo with h0 | h0 | ⟨g, h0, hg⟩
      · rw [h0] at hk; cases hk
      · exact .inl (h11 k (by rw [← h0]; exact hk))
      · rw [h0] at hk; injection hk with hk; exact .inr (by omega)
  · rw [hz]
    rcases hk with hk | hk | hk
    · have := h.lt k hk; have := K9.size; omega
    · exact (hv.lt k hk).2
    · exact (hu.lt k hk).2
  · rcases hk with hk | hk | hk
    · exact h.ge k hk
    · exact (hv.lt k hk).1
    · exact (hu.lt k hk).1
  · exact owns_keep h2.1 K9 (fun k hk' hx => by
      rcases hx with rfl | hx | hx
      · exact own_ne13 h2.1 h1 (by decide) hk'
      · exact rows_ne13 h2.1 h7 (by decide) k hk' hx
      · exact rows_ne13 h2.1 h10 (by decide) k hk' hx)
  · exact owns_setother hv (own_ne13 hv hp8 (by decide)) _ _
  · exact hr.step K9 (fun k _ hy => h.ge k (hM9 k hy)) (fun _ _ h => h)
  · exact owns_setother hu (own_ne13 hu hp8 (by decide)) _ _
  · exact keep_mono13 K9 hM9
def RPost (W : Nat) (M : Nat → Prop) (q : Nat) (bad : List Int) (row : List Pk) (book : List Sg) (NB : Nat) (w w' : World) : Prop :=
  Keep M w w' ∧ ∃ M' : Nat → Prop, (∀ k, M k → M' k) ∧ (∀ k, M' k → M k ∨ w.heap.size ≤ k) ∧ RLn W M' w' q bad row book NB
end Go.Proofs.YtijeieamodjgbaaGreat
namespace Go.Proofs.YtijeieamodjgbaaGreat
set_option maxRecDepth 100000
open Go.RowKit Go.Deep
set_option linter.unusedVariables false
set_option linter.unusedSimpArgs false
attribute [local go_sem] run_store_float
theorem row_cell {W : Nat} {w : World} {a : Option Addr} {n c : Nat} {row : List Pk} {xs : List Value} (h7 : w.ownsRow W 54 19 (.slice a n c) row.length xs) (h9 : rowOf shPk (fun k => W ≤ k) w row xs) {i : Nat} {y : Pk} (hy : row[i]? = some y) :
    ∃ g cs, a = some ⟨g, 0, none⟩ ∧ cs.length = 19 ∧ Rob (fun k => W ≤ k) (fun w' => shPk.E w' y cs) w ∧ w.rangeAt g (i * 19) cs ∧ W ≤ g ∧ g < w.heap.size ∧ n ≤ c ∧ c ≤ 9223372036854775807 := by
  obtain ⟨cs, hl, hr, hc⟩ := h9.get hy; have hlt := (List.getElem?_eq_some_iff.1 hy).1
  rcases h7.2 with ⟨hv, h0⟩ | ⟨g, cap, cur, hv, hB, hg, hnc, hcm, _, _⟩
  · omega
  · have hv' := hv
    injection hv with h1 h2 h3; subst h1 h2 h3; have hmax : maxLen = 9223372036854775807 := rfl
    refine ⟨g, cs, rfl, hl, hr, fun j u hj => ?_, hB, blk_lt hg, hnc, by omega⟩
    have := h7.cells (g := g) rfl _ _ (hc j u hj)
    rwa [Addr.add_lit, Nat.zero_add] at this
theorem take_step {row : List Pk} {k i : Nat} {y : Pk} (hy : row[i]? = some y) (h : ¬ i = k) : (row.take (i + 1)).eraseIdx k = (row.take i).eraseIdx k ++ [y] := by
  have hlt := (List.getElem?_eq_some_iff.1 hy).1; rw [List.take_add_one, hy]
  show ((row.take i) ++ [y]).eraseIdx k = _
  rcases Nat.lt_or_ge k i with h1 | h1
  · rw [List.eraseIdx_append_of_lt_length (by rw [List.length_take]; omega)]
  · rw [List.eraseIdx_of_length_le (l := row.take i ++ [y]) (by simp; omega), List.eraseIdx_of_length_le (l := row.take i) (by simp; omega)]
theorem take_same {row : List Pk} {k : Nat} {y : Pk} (hy : row[k]? = some y) : (row.take (k + 1)).eraseIdx k = (row.take k).eraseIdx k := by
  have hlt := (List.getElem?_eq_some_iff.1 hy).1; rw [List.take_add_one, hy]
  show ((row.take k) ++ [y]).eraseIdx k = _
  rw [List.eraseIdx_append_of_length_le (by rw [List.length_take]; omega), List.eraseIdx_of_length_le (l := row.take k) (by rw [List.length_take]; omega)]
  have : k - (row.take k).length = 0 := by simp; omega
  rw [this]; simp
theorem keep_cells {X : Nat → Prop} {w0 : World} {b : Nat} (hb : w0.heap.size ≤ b ∨ X b) : ∀ (vs : List Value) {w : World} {j : Nat}, Keep X w0 w → Keep X w0 (w.setCells b j vs)
  | [], w, j, h => h
  | v :: r, w, j, h => keep_cells hb r (h.set hb j v)
set_option maxHeartbeats 4000000 in
theorem rlanetake_any (W : Nat) (M : Nat → Prop) (q : Nat) (bad : List Int) (row : List Pk) (book : List Sg) (NB : Nat) (n : Int) (w : World) (h : RLn W M w q bad row book NB) (hn : i64 n) (hW : W ≤ w.heap.size) (hN : NB ≤ 1048576) :
    Calls Tryz.prog 19 #[.pointer (some ⟨q, 0, none⟩), .int .i64 n] w fun r w' => (∃ cs : List Value, r = .returned (.tuple #[.agg cs.toArray, .bool (decide (0 < row.length))]) ∧ cs.length = 19 ∧ cs.toArray.all (·.oneCell') = true ∧ Rob (fun k => W ≤ k) (fun w' => shPk.E w' (takeV row n) cs) w') ∧ RPost W M q bad (takeR row n) book NB w w' := by
  obtain ⟨ii, hii, hz0, hz1, hz2⟩ := info_parts info_pk
  obtain ⟨w1, hw1⟩ : ∃ u, u = w.alloc (.cells zeroPk.toArray 54 (0, 0)) := ⟨_, rfl⟩
  have b1 : Below w.heap.size w w1 := by rw [hw1]; exact below_alloc _ _
  have hzw : w1.heap.size = w.heap.size + 1 := by rw [hw1]; simp
  have K1 := Lib.hid (show w1.heap[w.heap.size]? = some (.cells zeroPk.toArray 54 (0, 0)) by rw [hw1]; exact blk_alloc _ _); have B1 := Lib.hid b1; have H1 := h.old b1; have CP := Lib.hid (rplace_any W M q bad row book NB n w1 H1 hn hN); have HCP := h.cap; have HH := Lib.hid h
  rw [zeroPk_row] at hw1
  by_cases hs : row.length = 0
  · have h0 : row = [] := List.eq_nil_of_length_eq_zero hs
    rw [if_pos hs] at CP
    have HR := Lib.hid (show decide (0 < row.length) = false ∧ takeV row n = pkZ ∧ takeR row n = row from ⟨by simp; omega, by rw [h0]; rfl, by rw [h0]; rfl⟩); clear b1 h hs h0
    go_enter Tryz.func19, Tryz.ntmps19
    go_upto_region 1 with (fail)
    rw [← hw1]; clear hw1
    go_wp2_with fail
    refine CP.out.mono ?_
    rintro r w2 ⟨rfl, rfl⟩
    have hd : decide ((-1 : Int) < 0) = true := rfl
    go_upto_region 3 with (fail)
    refine wp_region_lit ?_
    refine wpList_val (w' := w1) rfl (v := .agg zeroPk.toArray) (build_pk _ _ rfl _) ?_
    simp only [Act.put, List.setIfInBounds_toArray, List.set_cons_succ, List.set_cons_zero]
    refine wpList_store_mid rfl 54 (.tmp 4) (.tmp 15) rfl w.heap.size 0 zeroPk.toArray rfl rfl (fun j hj => ⟨by rw [blk_cell K1.out, Option.isSome_iff_exists]; exact ⟨_, Array.getElem?_eq_getElem (show 0 + j < zeroPk.toArray.size by rw [Nat.zero_add]; exact hj)⟩, blk_frozen K1.out _⟩) (by rw [List.size_toArray]; kernel_rfl) (by simp [zeroPk, Value.oneCell']) ?_
    obtain ⟨wz, hwz⟩ : ∃ u, u = World.setCells w1 w.heap.size 0 zeroPk.toArray.toList := ⟨_, rfl⟩
    have KZ := Lib.hid (show wz.heap[w.heap.size]? = some (.cells zeroPk.toArray 54 (0, 0)) from by rw [hwz]; have := blk_sets zeroPk w1 [] zeroPk K1.out rfl; simpa using this); have BZ := Lib.hid (show Below w.heap.size w wz from by rw [hwz]; exact sets_below (Nat.le_refl _) _ B1.out); rw [← hwz]; clear hwz; simp only [Act.put, List.setIfInBounds_toArray, List.set_cons_succ, List.set_cons_zero]
    go_wp2_with fail
    have hld := run_loadVar_row (P := Tryz.prog) wz w.heap.size 54 54 zeroPk.toArray (0, 0) _ KZ.out Tryz.underlying54 rfl (by kernel_rfl)
    refine bodyPost_ret (v := .tuple #[.agg zeroPk.toArray, .bool false]) (by simp [results, Tryz.results19, asAddr, hld]) rfl ?_
    refine ⟨⟨zeroPk, by rw [HR.out.1], rfl, by simp [zeroPk, Value.oneCell'], fun w' _ => by rw [HR.out.2.1]; exact pkZ_E w'⟩, Keep.of_below BZ.out, M, fun _ h => h, fun _ h => .inl h, ?_⟩
    rw [HR.out.2.2]
    exact HH.out.old BZ.out
  · have hs0 : 0 < row.length := by omega
    rw [if_neg hs] at CP
    have hkl := plc_lt (n := n) hs0; have HR := Lib.hid (show decide (0 < row.length) = true ∧ takeR row n = row.eraseIdx (plc n row.length) from ⟨by simp; omega, rfl⟩); have HV := Lib.hid (show ∀ y, row[plc n row.length]? = some y → takeV row n = y from fun y hy => by unfold takeV; rw [hy]; rfl)
    generalize plc n row.length = k at *
    generalize takeR row n = row' at *
    obtain ⟨y, hy⟩ : ∃ y, row[k]? = some y := ⟨_, List.getElem?_eq_getElem hkl⟩
    obtain ⟨ba, bn, bc, v, xs, u, g1, g2, ⟨g7, g8, g9⟩, g10, g11, g12⟩ := H1.ex; obtain ⟨a, c, rfl⟩ := owns_form g7; obtain ⟨ua, ud, rfl⟩ := owns_form g10; obtain ⟨g, cs, rfl, hcl, hE, hrange, hgW, hgl, hnc, hcm⟩ := row_cell g7 g9 hy; have hone := pk_one hE.self
    have hinfo : (Tryz.prog.info? 54).map (·.size) = some cs.length := by rw [hcl]; kernel_rfl
    have hk0 : (0 : Int) ≤ (k : Int) := by omega
    have hk1 : (k : Int) < (row.length : Int) := by omega
    have x1 : w1.cell? ⟨q, 1, none⟩ = some (.slice (some ⟨g, 0, none⟩) row.length c) := by rw [blk_cell g1]; rfl
    have lq := blk_lt g1
    have hd : decide ((k : Int) < 0) = false := by simp
    have G1 := Lib.hid g1; clear b1 h hs
    go_enter Tryz.func19, Tryz.ntmps19
    go_upto_region 1 with (fail)
    rw [← hw1]; clear hw1
    go_wp2_with fail
    refine CP.out.mono ?_
    rintro r w2 ⟨rfl, rfl⟩
    go_upto_region 4 with (fail)
    refine wp_region_lit ?_
    refine wpList_val (w' := w1) rfl (v := .pointer (some ⟨q, 0, none⟩)) (by simp only [execOp]; go_simp) ?_
    simp only [Act.put, List.setIfInBounds_toArray, List.set_cons_succ, List.set_cons_zero]
    refine wpList_val (w' := w1) rfl (v := .pointer (some ⟨q, 0, none⟩)) (by simp only [execOp]; go_simp) ?_
    simp only [Act.put, List.setIfInBounds_toArray, List.set_cons_succ, List.set_cons_zero]
    refine wpList_val (w' := w1) rfl (v := .pointer (some ⟨q, 1, none⟩)) (by simp only [execOp]; go_simp) ?_
    simp only [Act.put, List.setIfInBounds_toArray, List.set_cons_succ, List.set_cons_zero]
    refine wpList_val (w' := w1) rfl (v := .slice (some ⟨g, 0, none⟩) row.length c) (by simp only [execOp]; go_simp) ?_
    simp only [Act.put, List.setIfInBounds_toArray, List.set_cons_succ, List.set_cons_zero]
    refine wpList_val (w' := w1) rfl (v := .int .i64 (k : Int)) (by simp only [execOp]; go_simp) ?_
    simp only [Act.put, List.setIfInBounds_toArray, List.set_cons_succ, List.set_cons_zero]
    refine wpList_val (w' := w1) rfl (v := .pointer (some ⟨g, 0 + k * 19, none⟩)) (by simp only [execOp]; go_simp) ?_
    simp only [Act.put, List.setIfInBounds_toArray, List.set_cons_succ, List.set_cons_zero]
    refine wpList_load_mid rfl 54 (.tmp 21) rfl g (0 + k * 19) rfl cs _ (by rw [Nat.zero_add]; exact hrange) Tryz.underlying54 rfl hinfo ?_
    simp only [Act.put, List.setIfInBounds_toArray, List.set_cons_succ, List.set_cons_zero]
    refine wpList_boxpk rfl rfl (.tmp 7) (.tmp 22) rfl rfl cs hcl (all_oneCell_toArray hone) rfl rfl fun w3 b3 k3 hz3 => ?_
    simp only [Act.put, List.setIfInBounds_toArray, List.set_cons_succ, List.set_cons_zero]; have K3 := Lib.hid k3; have B3 := Lib.hid b3; have KB3 := Lib.hid (blk_below K1.out b3); have HHE := Lib.hid hE; clear k3 b3 x1 CP hE hrange hgW hgl hone
    obtain ⟨bx, hbx⟩ : ∃ bx, bx = w1.heap.size := ⟨_, rfl⟩
    rw [← hbx] at K3 ⊢
    have hbl : w.heap.size < bx ∧ q < bx := ⟨by omega, by omega⟩
    have hb3 : bx < w3.heap.size := by omega
    clear hbx; have R7 := Lib.hid g7; have R9 := Lib.hid g9; have X3 := Lib.hid (show rowOf shPk (fun k => W ≤ k) w3 ((row.take 0).eraseIdx k) [] from rfl)
    have hLN := Lib.hid (show ∀ i, ((row.take i).eraseIdx k).length ≤ row.length from fun i => by
      have h1 := List.length_eraseIdx_le (l := row.take i) (i := k)
      have h2 : (row.take i).length ≤ row.length := by rw [List.length_take]; omega
      omega)
    go_wp2_with fail
    go_loopw [8, 9] (fun v i wr => ∃ j : Nat, ∃ ys : List Value, j ≤ row.length ∧ i = .int .i64 j ∧ Hid (Below w3.heap.size w3 wr) ∧ Hid (wr.ownsRow w3.heap.size 54 19 v ((row.take j).eraseIdx k).length ys) ∧ Hid (rowOf shPk (fun k => W ≤ k) w1 ((row.take j).eraseIdx k) ys)) (fun _ i _ => row.length - (intOf i).toNat)
    case atStart => exact ⟨0, [], by omega, rfl, Lib.hid (Below.refl _ _), Lib.hid (World.ownsRow_nil _ _ _ _), Lib.hid rfl⟩
    case round =>
      obtain ⟨j, ys, hj, rfl, HB, HO, HRW⟩ := hrel; obtain ⟨va, vc, rfl⟩ := owns_form HO.out; have Bj := Lib.hid (bthen B3.out HB.out); have gq := blk_below G1.out Bj.out
      have x1 : wr.cell? ⟨q, 1, none⟩ = some (.slice (some ⟨g, 0, none⟩) row.length c) := by rw [blk_cell gq]; rfl
      have lqr := blk_lt gq; clear gq
      by_cases hlt : j < row.length
      · obtain ⟨z, hz⟩ : ∃ z, row[j]? = some z := ⟨_, List.getElem?_eq_getElem hlt⟩
        by_cases hjk : j = k
        · have hne : ((j : Int) != (k : Int)) = false := by simp [hjk]
          have HE := Lib.hid (show (row.take (j + 1)).eraseIdx k = (row.take j).eraseIdx k from by subst hjk; exact take_same hz); clear hz
          generalize hL1 : (row.take (j + 1)).eraseIdx k = L1 at *
          generalize (row.take j).eraseIdx k = L0 at *
          go_wp2_with fail
          go_roundw
          case rel => exact ⟨j + 1, ys, by omega, by go_num, HB, by rw [hL1, HE.out]; exact HO, by rw [hL1, HE.out]; exact HRW⟩
          case measure => simp [intOf]; omega
        · have hne : ((j : Int) != (k : Int)) = true := by simp; omega
          have HE := Lib.hid (take_step hz hjk); obtain ⟨g', zs, hae, hzl, hzE, hzr, _, _, _, _⟩ := row_cell R7.out R9.out hz; injection hae with hae; injection hae with hae _ _; subst hae; have hzone := pk_one hzE.self
          have hzrr : wr.rangeAt g (j * 19) zs := fun i u hi => below_cell Bj.out (hzr i u hi)
          have hzi : (Tryz.prog.info? 54).map (·.size) = some zs.length := by rw [hzl]; kernel_rfl
          have hj0 : (0 : Int) ≤ (j : Int) := by omega
          have hj1 : (j : Int) < (row.length : Int) := by omega
          have hL := hLN.out j; have HX := Lib.hid (HRW.out.snoc hzl hzE)
          rw [← HE.out] at HX
          have HEL := Lib.hid (show ((row.take (j + 1)).eraseIdx k).length = ((row.take j).eraseIdx k).length + 1 from by rw [HE.out]; simp); clear hz hzE hzr
          generalize hL1 : (row.take (j + 1)).eraseIdx k = L1 at *
          generalize (row.take j).eraseIdx k = L0 at *
          go_upto_region 10 with (fail)
          refine wp_region_lit ?_
          refine wpList_val (w' := wr) rfl (v := .slice va L0.length vc) (by simp only [execOp]; go_simp) ?_
          simp only [Act.put, List.setIfInBounds_toArray, List.set_cons_succ, List.set_cons_zero]
          refine wpList_val (w' := wr) rfl (v := .pointer (some ⟨q, 0, none⟩)) (by simp only [execOp]; go_simp) ?_
          simp only [Act.put, List.setIfInBounds_toArray, List.set_cons_succ, List.set_cons_zero]
          refine wpList_val (w' := wr) rfl (v := .pointer (some ⟨q, 0, none⟩)) (by simp only [execOp]; go_simp) ?_
          simp only [Act.put, List.setIfInBounds_toArray, List.set_cons_succ, List.set_cons_zero]
          refine wpList_val (w' := wr) rfl (v := .pointer (some ⟨q, 1, none⟩)) (by simp only [execOp]; go_simp) ?_
          simp only [Act.put, List.setIfInBounds_toArray, List.set_cons_succ, List.set_cons_zero]
          refine wpList_val (w' := wr) rfl (v := .slice (some ⟨g, 0, none⟩) row.length c) (by simp only [execOp]; go_simp) ?_
          simp only [Act.put, List.setIfInBounds_toArray, List.set_cons_succ, List.set_cons_zero]
          refine wpList_val (w' := wr) rfl (v := .int .i64 (j : Int)) (by simp only [execOp]; go_simp) ?_
          simp only [Act.put, List.setIfInBounds_toArray, List.set_cons_succ, List.set_cons_zero]
          refine wpList_val (w' := wr) rfl (v := .pointer (some ⟨g, 0 + j * 19, none⟩)) (by simp only [execOp]; go_simp) ?_
          simp only [Act.put, List.setIfInBounds_toArray, List.set_cons_succ, List.set_cons_zero]
          refine wpList_load_mid rfl 54 (.tmp 41) rfl g (0 + j * 19) rfl zs _ (by rw [Nat.zero_add]; exact hzrr) Tryz.underlying54 rfl hzi ?_
          simp only [Act.put, List.setIfInBounds_toArray, List.set_cons_succ, List.set_cons_zero]
          obtain ⟨w6, hw6⟩ : ∃ u, u = wr.alloc (.cells zs.toArray 54 (0, 0)) := ⟨_, rfl⟩
          have b6 : Below wr.heap.size wr w6 := by rw [hw6]; exact below_alloc _ _
          have k6 : w6.heap[wr.heap.size]? = some (.cells zs.toArray 54 (0, 0)) := by rw [hw6]; exact blk_alloc _ _
          refine wpList_val (w' := w6) rfl (v := .slice (some ⟨wr.heap.size, 0, none⟩) 1 1) (by rw [hw6]; exact build_pk1 _ _ (.tmp 42) rfl zs hzl rfl wr) ?_
          simp only [Act.put, List.setIfInBounds_toArray, List.set_cons_succ, List.set_cons_zero]; have O6 := owns_old HO.out b6; have B6 := bthen HB.out b6
          have k1 : L0.length + 1 ≤ maxLen := by unfold maxLen; omega
          have k2 : (L0.length + 1) * 232 ≤ 140737488355328 := by omega
          refine wpList_append_any_at w6 rfl (.tmp 35) (.tmp 43) 46 rfl w3.heap.size 54 ii (.agg zeroPk.toArray) 19 232 Tryz.underlying46 hii hz0 hz1 hz2 rfl (by decide) (.slice va L0.length vc) L0.length ys rfl O6 (some ⟨wr.heap.size, 0, none⟩) 1 1 zs rfl (by rw [hzl]) (fun h => by cases h) (fun ad had i u hi => by
            injection had with had; subst had; rw [Addr.add_lit, blk_cell k6, Nat.zero_add, ← hi]
            simp) hzone k1 k2 B6.size ?_
          intro v7 w7 ho7 hg7 hor7; obtain ⟨va7, vc7, rfl⟩ := owns_form ho7; have B7 := Lib.hid (Keep.below B6 ((Keep.refl (fun k => (Value.slice va L0.length vc).ownBlock = some k) w6).grown hg7 (fun k hk => .inr hk)) (fun k hk => (O6.lt k hk).1)); have O7 := Lib.hid (show w7.ownsRow w3.heap.size 54 19 (.slice va7 (L0.length + 1) vc7) L1.length (ys ++ zs) from by rw [HEL.out]; exact ho7); clear ho7 hg7 hor7 O6 B6 b6 k6 hw6 x1 hzrr HO HRW HB; simp only [Act.put, List.setIfInBounds_toArray, List.set_cons_succ, List.set_cons_zero]
          go_wp2_with fail
          go_roundw
          case rel => exact ⟨j + 1, ys ++ zs, by omega, by go_num, B7, by rw [hL1]; exact O7, by rw [hL1]; exact HX⟩
          case measure => simp [intOf]; omega
      · obtain rfl : j = row.length := by omega
        have hdd : decide ((row.length : Int) < (row.length : Int)) = false := by simp
        have HE := Lib.hid (show (row.take row.length).eraseIdx k = row' from by rw [List.take_length]; exact HR.out.2.symm); have hlL := hLN.out row.length
        generalize (row.take row.length).eraseIdx k = LL at *
        have hgq := blk_below G1.out Bj.out
        obtain ⟨w8, hw8⟩ : ∃ u, u = wr.setCell ⟨q, 1, none⟩ (.slice va LL.length vc) := ⟨_, rfl⟩
        have hle : LL.length ≤ 4096 := by omega
        have hset : w8.heap[q]? = some (.cells #[.slice ba bn bc, .slice va LL.length vc, .slice ua book.length ud] 61 (0, 0)) := by
          rw [hw8, blk_set hgq 1 _]; rfl
        have HL8 := Lib.hid (show (∃ M' : Nat → Prop, (∀ k, M k → M' k) ∧ (∀ k, M' k → M k ∨ w1.heap.size ≤ k) ∧ RLn W M' w8 q bad LL book NB) ∧ Keep M w1 w8 from by
          rw [hw8] at hset ⊢
          exact rln_lay H1 G1.out g2 R7.out g8 g10 g11 (Keep.of_below Bj.out) (owns_lower HO.out (by have := B1.out.size; have := B3.out.size; omega)) (by
            rcases hob : (Value.slice va LL.length vc).ownBlock with _ | g0
            · exact .inl rfl
            · exact .inr (.inr ⟨g0, rfl, by have h1 := (HO.out.lt g0 hob).1; have := B3.out.size; omega⟩)) HRW.out (owns_old g10 Bj.out) (.inr (.inl rfl)) g12 (by have := B1.out.size; omega) hle H1.small hset)
        have K8 := Lib.hid (show w8.heap[bx]? = some (.cells cs.toArray 54 (0, 0)) from by rw [hw8]; exact blk_set_other (blk_below K3.out HB.out) q 1 _ (by omega)); have KZ8 := Lib.hid (show w8.heap[w.heap.size]? = some (.cells zeroPk.toArray 54 (0, 0)) from by rw [hw8]; exact blk_set_other (blk_below KB3.out HB.out) q 1 _ (by have := HH.out.lt q HH.out.mine; omega)); have z1 : wr.frozen? ⟨q, 1, none⟩ = false := blk_frozen hgq 1; clear hgq hset
        go_upto_region 12 with (fail)
        rw [← hw8]; clear hw8 z1 x1 hlL HO HRW
        refine wp_region_lit ?_
        have hinf2 : (Tryz.prog.info? 54).map (·.size) = some cs.toArray.size := by rw [List.size_toArray]; exact hinfo
        have hld8 := run_loadVar_row (P := Tryz.prog) w8 bx 54 54 cs.toArray (0, 0) _ K8.out Tryz.underlying54 rfl hinf2
        refine wpList_val (w' := w8) rfl (v := .agg cs.toArray) (load_pk _ _ (.tmp 7) rfl rfl K8.out (by rw [List.size_toArray]; exact hcl)) ?_
        simp only [Act.put, List.setIfInBounds_toArray, List.set_cons_succ, List.set_cons_zero]; have hone8 := all_oneCell_toArray (pk_one HHE.out.self)
        refine wpList_store_mid rfl 54 (.tmp 4) (.tmp 49) rfl w.heap.size 0 cs.toArray rfl rfl (fun i hi => ⟨by rw [blk_cell KZ8.out, Option.isSome_iff_exists]; exact ⟨_, Array.getElem?_eq_getElem (show 0 + i < zeroPk.toArray.size from by have h : i < 19 := (by simpa [hcl] using hi); exact (show 0 + i < 19 from by omega))⟩, blk_frozen KZ8.out _⟩) hinf2 hone8 ?_
        obtain ⟨w9, hw9⟩ : ∃ u, u = World.setCells w8 w.heap.size 0 cs.toArray.toList := ⟨_, rfl⟩
        have K9 := Lib.hid (show w9.heap[w.heap.size]? = some (.cells cs.toArray 54 (0, 0)) from by rw [hw9]; have := blk_sets cs w8 [] zeroPk KZ8.out (by rw [hcl]; rfl); simpa using this); have KK9 := Lib.hid (show Keep (fun k => k = w.heap.size) w8 w9 from by rw [hw9]; exact keep_cells (X := fun k => k = w.heap.size) (.inr rfl) _ (Keep.refl _ w8)); rw [← hw9]; clear hw9; simp only [Act.put, List.setIfInBounds_toArray, List.set_cons_succ, List.set_cons_zero]
        go_wp2_with fail
        have hld := run_loadVar_row (P := Tryz.prog) w9 w.heap.size 54 54 cs.toArray (0, 0) _ K9.out Tryz.underlying54 rfl hinf2
        generalize hV : (Value.agg cs.toArray) = VV at hld
        refine bodyPost_ret (v := .tuple #[VV, .bool true]) (by simp [results, Tryz.results19, asAddr, hld]) rfl ?_
        rw [← hV]; obtain ⟨⟨M', m1, m2, m3⟩, m4⟩ := HL8.out
        have hlo : ∀ k, M' k → k ≠ w.heap.size := fun k0 hk0 he => by
          rcases m2 k0 hk0 with h | h
          · have := HH.out.lt k0 h; omega
          · omega
        refine ⟨⟨cs, by rw [HR.out.1], hcl, hone8, ?_⟩, ?_, M', m1, fun k0 hk0 => (m2 k0 hk0).imp id (fun h => by omega), ?_⟩
        · rw [HV.out _ hy]
          exact ((HHE.out.step (X' := fun k => W ≤ k) m4 (fun k0 _ hk0 => HH.out.ge k0 hk0) (fun _ _ h => h)).step (X' := fun k => W ≤ k) KK9.out (fun k0 _ hk0 => by show W ≤ k0; omega) (fun _ _ h => h))
        · exact (((Keep.of_below (X := M) B1.out).trans m4 (fun _ _ h => h)).trans (X' := fun k => k = w.heap.size) KK9.out (fun k0 hk0 h => by omega))
        · rw [← HE.out]
          exact m3.keep KK9.out (fun k0 hk0 => ⟨fun hm => hlo k0 hm hk0, by omega⟩)
set_option maxHeartbeats 1000000 in
theorem rlanedrop_any (W : Nat) (M : Nat → Prop) (q : Nat) (bad : List Int) (row : List Pk) (book : List Sg) (NB : Nat) (n : Int) (w : World) (h : RLn W M w q bad row book NB) (hn : i64 n) (hW : W ≤ w.heap.size) (hN : NB ≤ 1048576) :
    Calls Tryz.prog 22 #[.pointer (some ⟨q, 0, none⟩), .int .i64 n] w fun r w' => r = .returned (.bool (decide (0 < row.length))) ∧ RPost W M q bad (takeR row n) book NB w w' := by
  have CT := Lib.hid (rlanetake_any W M q bad row book NB n w h hn hW hN); have hge := h.ge; have HLT := Lib.hid h.lt
  generalize takeR row n = row' at *
  generalize takeV row n = V at *
  obtain ⟨D, hD⟩ : ∃ D, decide (0 < row.length) = D := ⟨_, rfl⟩
  rw [hD] at CT ⊢
  clear h hD
  go_enter Tryz.func22, Tryz.ntmps22
  go_wp2_with fail
  refine CT.out.mono ?_
  rintro r w2 ⟨⟨cs, rfl, hcl, hone, -⟩, K2, M', m1, m2, m3⟩
  have HM := Lib.hid m3; have HK := Lib.hid K2; have H1 := Lib.hid m1; have H2 := Lib.hid m2; clear CT m3 K2 m1 m2
  obtain ⟨CS, hCS⟩ : ∃ CS, CS = cs.toArray := ⟨_, rfl⟩
  rw [← hCS]; rename_i hK
  refine hK _ _ ?_
  clear hK
  refine wpList_val (w' := w2) rfl (v := .tuple #[.agg CS, .bool D]) (by simp only [execOp]; go_simp) ?_
  simp only [Act.put, List.setIfInBounds_toArray, List.set_cons_succ, List.set_cons_zero]
  refine wpList_val (w' := w2) rfl (v := .agg CS) (by simp only [execOp]; go_simp) ?_
  refine wpList_val (w' := w2) rfl (v := .bool D) (by simp only [execOp]; go_simp) ?_
  simp only [Act.put, List.setIfInBounds_toArray, List.set_cons_succ, List.set_cons_zero]
  refine wpList_boxpk rfl rfl (.tmp 5) (.tmp 11) rfl rfl cs hcl hone rfl (by rw [← hCS]; rfl) fun w7 b7 _ _ => ?_
  simp only [Act.put, List.setIfInBounds_toArray, List.set_cons_succ, List.set_cons_zero]; have HP := Lib.hid (show RPost W M q bad row' book NB w w7 from ⟨HK.out.trans (X' := fun _ => False) (Keep.of_below b7) (fun _ _ h => h.elim), M', H1.out, H2.out, HM.out.old b7⟩); clear b7 hCS hone hcl
  go_wp2_with fail
  go_ret
  exact ⟨rfl, HP.out⟩
end Go.Proofs.YtijeieamodjgbaaGreat
namespace Go.Proofs.YtijeieamodjgbaaGreat
set_option maxRecDepth 100000
open Go.RowKit Go.Deep
set_option linter.unusedVariables false
set_option linter.unusedSimpArgs false
attribute [local go_sem] run_store_float
def RLnPost (W : Nat) (M : Nat → Prop) (q : Nat) (bad : List Int) (row : List Pk) (book : List Sg) (NB : Nat) (v : Value) (w : World) (r : Ending) (w' : World) : Prop := r = .returned v ∧ RPost W M q bad row book NB w w'
set_option maxHeartbeats 4000000 in
theorem rlanecopy_any (W : Nat) (M : Nat → Prop) (p : Nat) (bad : List Int) (row : List Pk) (book : List Sg) (NB : Nat) (n : Int) (w : World) (h : RLn W M w p bad row book NB) (hn : i64 n) (hW : W ≤ w.heap.size) (hN : NB ≤ 1048576) :
    Calls Tryz.prog 24 #[.pointer (some ⟨p, 0, none⟩), .int .i64 n] w (RLnPost W M p bad (copyR row n) book NB (.bool (decide (0 < row.length) && decide (row.length < 4096))) w) := by
  obtain ⟨ii, hii, hz0, hz1, hz2⟩ := info_parts info_pk; have CA := Lib.hid (rplace_any W M p bad row book NB n w h hn hN); have hcap := h.cap; have HL := Lib.hid h; obtain ⟨_, _, _, pa, pc, _, _, hvw, _⟩ := h.view hN
  have x1 : w.cell? ⟨p, 1, none⟩ = some (.slice pa row.length pc) := by rw [blk_cell hvw]; rfl
  have lpv := blk_lt hvw; clear h hvw
  go_enter Tryz.func24, Tryz.ntmps24
  go_wp2_with fail
  refine CA.out.mono ?_
  rintro r w6 ⟨rfl, rfl⟩
  clear CA
  by_cases hs : row.length = 0
  · rw [if_pos hs]
    have hd : decide ((-1 : Int) < 0) = true := rfl
    have HF := Lib.hid (show RLnPost W M p bad (copyR row n) book NB (.bool (decide (0 < row.length) && decide (row.length < 4096))) w (.returned (.bool false)) w from ⟨by rw [hs]; rfl, Keep.refl _ _, M, fun _ h => h, fun _ h => .inl h, by
      have : copyR row n = row := by
        unfold copyR
        rw [List.getElem?_eq_none (by omega)]
        simp
      rw [this]; exact HL.out⟩)
    clear hs
    go_wp2_with fail
    go_ret
    exact HF.out
  · rw [if_neg hs]
    have hpl := plc_lt (n := n) (s := row.length) (by omega)
    have hd0 : decide ((plc n row.length : Int) < 0) = false := by simp
    cases hfull : decide (4096 ≤ row.length) with
    | true =>
      have hfl := of_decide_eq_true hfull
      have hd1 : decide ((4096 : Int) ≤ (row.length : Int)) = true := by simp; omega
      have HF := Lib.hid (show RLnPost W M p bad (copyR row n) book NB (.bool (decide (0 < row.length) && decide (row.length < 4096))) w (.returned (.bool false)) w from ⟨by rw [decide_eq_false (show ¬ row.length < 4096 by omega), Bool.and_false], Keep.refl _ _, M, fun _ h => h, fun _ h => .inl h, by
        have : copyR row n = row := by
          unfold copyR
          rw [if_neg (by omega)]
        rw [this]; exact HL.out⟩)
      clear hfull hfl
      generalize (plc n row.length : Int) = P at *
      go_wp2_with fail
      go_ret
      exact HF.out
    | false =>
      have hfl := of_decide_eq_false hfull
      have hd1 : decide ((4096 : Int) ≤ (row.length : Int)) = false := by simp; omega
      clear hfull
      obtain ⟨y, hy⟩ : ∃ y, row[plc n row.length]? = some y := ⟨_, List.getElem?_eq_getElem hpl⟩
      have HCR := Lib.hid (show copyR row n = row ++ [y] by unfold copyR; rw [if_pos (by omega), hy]; rfl); have HRB := Lib.hid (show (decide (0 < row.length) && decide (row.length < 4096)) = true by simp; omega)
      generalize hk : plc n row.length = k at *
      obtain ⟨ba, bn, bc, v, xs, u, hp, h2, ⟨h7, h8, h9⟩, h10, h11, h12⟩ := HL.out.ex; obtain ⟨a, c, rfl⟩ := owns_form h7
      obtain ⟨g, rfl⟩ : ∃ g, a = some ⟨g, 0, none⟩ := by
        rcases h7.2 with ⟨_, h0⟩ | ⟨g, cap, cur, hv, _⟩
        · exact absurd h0 hs
        · injection hv with hv; exact ⟨g, hv⟩
      obtain ⟨cs, hcl, hE, hxc⟩ := h9.get hy; obtain ⟨hnc, cur, hg, hsz, hcell⟩ := owns_cell h7; have hcl19 : cs.length = 19 := hcl; have hone := pk_one hE.self; obtain ⟨a1, n1, c1, a2, n2, c2, a3, n3, c3, a4, n4, c4, hcs, hyf, hyt, hmi⟩ := pk_open hE.self; have HCS := Lib.hid hcs
      have hinfo : (Tryz.prog.info? 54).map (·.size) = some cs.length := by rw [hcl19]; kernel_rfl
      have HLP := Lib.hid (fun (wa : World) (hb : Below w.heap.size w wa) => run_loadVar_mid (P := Tryz.prog) wa g (k * 19) 54 cs _ (fun j u hj => below_cell hb (hcell _ _ (hxc j u hj))) Tryz.underlying54 rfl hinfo); have HP6 := Lib.hid hp; have H7 := Lib.hid h7; have HONE := Lib.hid hone; have HCL := Lib.hid hcl19; have HNG := Lib.hid (show ¬ ((Value.slice (some ⟨g, 0, none⟩) row.length c).ownBlock = some p) from own_ne13 h7 hp (by decide)); have HOLN := Lib.hid (show ∀ z, w.heap.size ≤ z → ¬ ((Value.slice (some ⟨g, 0, none⟩) row.length c).ownBlock = some z) from fun z hz hc => by have := (H7.out.lt z hc).2; omega)
      have HROW := Lib.hid (fun (w8 : World) (g8 c8 : Nat) (hk : Keep (fun z => (Value.slice (some ⟨g, 0, none⟩) row.length c).ownBlock = some z) w w8) (ho : w8.ownsRow W 54 19 (.slice (some ⟨g8, 0, none⟩) (row.length + 1) c8) (row.length + 1) (xs ++ cs)) (hor : (Value.slice (some ⟨g, 0, none⟩) row.length c).ownBlock = some g8 ∨ w.heap.size ≤ g8) =>
        rln_lay (o := 1) (x := .slice (some ⟨g8, 0, none⟩) (row.length + 1) c8) (row' := row ++ [y]) (book' := book) (NB' := NB) (v' := .slice (some ⟨g8, 0, none⟩) (row.length + 1) c8) (u' := u) HL.out hp h2 h7 h8 h10 h11 (keep_mono13 hk (fun _ h => .inl h)) (by rw [List.length_append]; exact ho) (hor.elim (fun h => .inr (.inl h.symm)) (fun h => .inr (.inr ⟨g8, rfl, h⟩))) (h9.snoc hcl19 hE) (owns_keep h10 hk (fun z hz hx => rows_ne13 h10 h7 (by decide) z hz hx)) (.inr (.inl rfl)) h12 hW (by rw [List.length_append]; simp; omega) HL.out.small (by rw [blk_set ((hk.block p (blk_lt hp) (own_ne13 h7 hp (by decide))).trans hp) 1 _]; rfl))
      have k5 : row.length + 1 ≤ maxLen := by unfold maxLen; omega
      have k6 : (row.length + 1) * 232 ≤ 140737488355328 := by omega
      have hk0 : (0 : Int) ≤ (k : Int) := by omega
      have hk1 : (k : Int) < (row.length : Int) := by omega
      have hWw := hW; have lp0 := blk_lt hp; clear hcell hxc hg hsz hE hone hcs hmi hyf hyt h2 h9 h10 h11 h12 hp h7
      go_upto_region 4 with (fail)
      clear x1
      refine wp_region_kept2 16 (fun k => (Value.slice (some ⟨g, 0, none⟩) row.length c).ownBlock = some k) 13 (cpyA W w.heap.size p (Value.slice (some ⟨g, 0, none⟩) row.length c).ownBlock (some ⟨g, 0, none⟩) row.length c g k cs xs) (fun _ _ => none) rfl (by kernel_rfl) (by kernel_rfl) (cpyA_stab HOLN.out) (fun _ _ _ _ _ h => by cases h) (fun i oo hi ho => ?_) (fun vs w7 hb7' hs hne => ?_)
      · intro ac wa hba hbs hE hF K hK
        have b7 := keep_undrew13 hba
        have hno : ∀ k, (none : Option Nat) = some k → wa.heap.size ≤ k := fun _ h => by cases h
        have hW := b7.size
        have z1 : wa.cell? ⟨p, 1, none⟩ = some (.slice (some ⟨g, 0, none⟩) row.length c) := by rw [blk_cell (show wa.heap[p]? = _ from (b7.block p (blk_lt HP6.out) HNG.out).trans HP6.out)]; rfl
        have hi' : i = 0 ∨ i = 1 ∨ i = 2 ∨ i = 3 ∨ i = 4 ∨ i = 5 ∨ i = 6 ∨ i = 7 ∨ i = 8 ∨ i = 9 ∨ i = 10 ∨ i = 11 ∨ i = 12 ∨ i = 13 ∨ i = 14 ∨ i = 15 := by omega
        rcases hi' with rfl | rfl | rfl | rfl | rfl | rfl | rfl | rfl | rfl | rfl | rfl | rfl | rfl | rfl | rfl | rfl
        · obtain rfl := Option.some.inj ho
          have h1 : ac.eval (.tmp 0) = .pointer (some ⟨p, 0, none⟩) := hE 0 (by decide)
          exact news_val rfl rfl (by generalize ac.eval = ρ at h1; simp only [execOp]; go_simp) (hK _ _ (fun _ => Below.refl _ _) (Keep.refl _ _) rfl hno)
        · obtain rfl := Option.some.inj ho
          have h1 : ac.eval (.tmp 0) = .pointer (some ⟨p, 0, none⟩) := hE 0 (by decide)
          exact news_val rfl rfl (by generalize ac.eval = ρ at h1; simp only [execOp]; go_simp) (hK _ _ (fun _ => Below.refl _ _) (Keep.refl _ _) rfl hno)
        · obtain rfl := Option.some.inj ho
          have h1 : ac.eval (.tmp 20) = .pointer (some ⟨p, 0, none⟩) := hF ⟨1, .data⟩ (by simp) rfl 20 rfl
          exact news_val rfl rfl (by generalize ac.eval = ρ at h1; simp only [execOp]; go_simp) (hK _ _ (fun _ => Below.refl _ _) (Keep.refl _ _) rfl hno)
        · obtain rfl := Option.some.inj ho
          have h1 : ac.eval (.tmp 21) = .pointer (some ⟨p, 0, none⟩) := hF ⟨2, .data⟩ (by simp) rfl 21 rfl
          exact news_val rfl rfl (by generalize ac.eval = ρ at h1; simp only [execOp]; go_simp) (hK _ _ (fun _ => Below.refl _ _) (Keep.refl _ _) rfl hno)
        · obtain rfl := Option.some.inj ho
          have h1 : ac.eval (.tmp 22) = .pointer (some ⟨p, 1, none⟩) := hF ⟨3, .data⟩ (by simp) rfl 22 rfl
          exact news_val rfl rfl (by generalize ac.eval = ρ at h1; simp only [execOp]; go_simp) (hK _ _ (fun _ => Below.refl _ _) (Keep.refl _ _) rfl hno)
        · obtain rfl := Option.some.inj ho
          have h1 : ac.eval (.tmp 0) = .pointer (some ⟨p, 0, none⟩) := hE 0 (by decide)
          exact news_val rfl rfl (by generalize ac.eval = ρ at h1; simp only [execOp]; go_simp) (hK _ _ (fun _ => Below.refl _ _) (Keep.refl _ _) rfl hno)
        · obtain rfl := Option.some.inj ho
          have h1 : ac.eval (.tmp 24) = .pointer (some ⟨p, 0, none⟩) := hF ⟨5, .data⟩ (by simp) rfl 24 rfl
          exact news_val rfl rfl (by generalize ac.eval = ρ at h1; simp only [execOp]; go_simp) (hK _ _ (fun _ => Below.refl _ _) (Keep.refl _ _) rfl hno)
        · obtain rfl := Option.some.inj ho
          have h1 : ac.eval (.tmp 25) = .pointer (some ⟨p, 0, none⟩) := hF ⟨6, .data⟩ (by simp) rfl 25 rfl
          exact news_val rfl rfl (by generalize ac.eval = ρ at h1; simp only [execOp]; go_simp) (hK _ _ (fun _ => Below.refl _ _) (Keep.refl _ _) rfl hno)
        · obtain rfl := Option.some.inj ho
          have h1 : ac.eval (.tmp 26) = .pointer (some ⟨p, 1, none⟩) := hF ⟨7, .data⟩ (by simp) rfl 26 rfl
          exact news_val rfl rfl (by generalize ac.eval = ρ at h1; simp only [execOp]; go_simp) (hK _ _ (fun _ => Below.refl _ _) (Keep.refl _ _) rfl hno)
        · obtain rfl := Option.some.inj ho
          have h1 : ac.eval (.tmp 5) = .int .i64 (k : Int) := hE 5 (by decide)
          exact news_val rfl rfl (by generalize ac.eval = ρ at h1; simp only [execOp]; go_simp) (hK _ _ (fun _ => Below.refl _ _) (Keep.refl _ _) rfl hno)
        · obtain rfl := Option.some.inj ho
          have h1 : ac.eval (.tmp 27) = .slice (some ⟨g, 0, none⟩) row.length c := hF ⟨8, .data⟩ (by simp) rfl 27 rfl; have h2 : ac.eval (.tmp 28) = .int .i64 (k : Int) := hF ⟨9, .data⟩ (by simp) rfl 28 rfl
          exact news_val rfl rfl (by generalize ac.eval = ρ at h1 h2; simp only [execOp]; go_simp) (hK _ _ (fun _ => Below.refl _ _) (Keep.refl _ _) rfl hno)
        · obtain rfl := Option.some.inj ho
          have h1 : ac.eval (.tmp 29) = .pointer (some ⟨g, k * 19, none⟩) := hF ⟨10, .data⟩ (by simp) rfl 29 rfl
          exact news_load rfl rfl 54 (.tmp 29) rfl g (k * 19) h1 (HLP.out wa (below_undrew (hbs (.inr (by kernel_rfl))))) (hK _ _ (fun _ => Below.refl _ _) (Keep.refl _ _) rfl hno)
        · obtain rfl := Option.some.inj ho
          obtain h1 : (ac.eval (.tmp 30)) = .agg cs.toArray := hF ⟨11, .data⟩ (by simp) rfl 30 rfl
          exact news_val (w' := wa.alloc (.cells cs.toArray 54 (0, 0))) rfl rfl (by rw [HCS.out] at h1 ⊢; simp only [pkCs, mgCs] at h1 ⊢; generalize ac.eval = ρ at h1; simp only [execOp]; go_simp) (hK _ _ (fun _ => below_alloc _ _) (Keep.of_below (below_alloc _ _)) ⟨wa.heap.size, rfl, hW, blk_alloc _ _⟩ hno)
        · obtain rfl := Option.some.inj ho
          have h1 : ac.eval (.tmp 23) = .slice (some ⟨g, 0, none⟩) row.length c := hF ⟨4, .data⟩ (by simp) rfl 23 rfl
          obtain ⟨gb, h2, hgb, hbb⟩ : ∃ h, (ac.eval (.tmp 31)) = .slice (some ⟨h, 0, none⟩) 1 1 ∧ w.heap.size ≤ h ∧ wa.heap[h]? = some (.cells cs.toArray 54 (0, 0)) := hF ⟨12, .data⟩ (by simp) rfl 31 rfl
          refine wpOp_step rfl fun K' hK' => ?_
          refine step_append_lies _ rfl (.tmp 23) (.tmp 31) 46 rfl W 54 ii (.agg zeroPk.toArray) 19 232 Tryz.underlying46 hii hz0 hz1 hz2 rfl (by decide) (.slice (some ⟨g, 0, none⟩) row.length c) row.length xs h1 (owns_old H7.out (below_undrew (hbs (.inl rfl)))) ⟨gb, 0, none⟩ 1 1 cs h2 (by rw [HCL.out]) (World.news_of_block hbb) HONE.out (by decide) k5 k6 (Nat.le_trans hWw hW) _ rfl ?_
          intro g8 cap8 w8 hown8 hg8 hor8 hlt8
          exact hK' _ _ (hK _ _ (fun h => (h rfl).elim) ((Keep.refl _ wa).grown hg8 (fun k hk => .inr hk)) ⟨_, _, rfl, hown8, hor8.elim .inl (fun h => .inr (by omega))⟩ hno)
        · obtain rfl := Option.some.inj ho
          have h1 : ac.eval (.tmp 19) = .pointer (some ⟨p, 0, none⟩) := hF ⟨0, .data⟩ (by simp) rfl 19 rfl
          exact news_val rfl rfl (by generalize ac.eval = ρ at h1; simp only [execOp]; go_simp) (hK _ _ (fun _ => Below.refl _ _) (Keep.refl _ _) rfl hno)
        · obtain rfl := Option.some.inj ho
          have h1 : ac.eval (.tmp 33) = .pointer (some ⟨p, 0, none⟩) := hF ⟨14, .data⟩ (by simp) rfl 33 rfl
          exact news_val rfl rfl (by generalize ac.eval = ρ at h1; simp only [execOp]; go_simp) (hK _ _ (fun _ => Below.refl _ _) (Keep.refl _ _) rfl hno)
      · have e0 : vs 0 = _ := hs 0 (by omega)
        have e1 : vs 1 = _ := hs 1 (by omega); have e2 : vs 2 = _ := hs 2 (by omega); have e3 : vs 3 = _ := hs 3 (by omega); have e4 : vs 4 = _ := hs 4 (by omega); have e5 : vs 5 = _ := hs 5 (by omega); have e6 : vs 6 = _ := hs 6 (by omega); have e7 : vs 7 = _ := hs 7 (by omega); have e8 : vs 8 = _ := hs 8 (by omega); have e9 : vs 9 = _ := hs 9 (by omega); have e10 : vs 10 = _ := hs 10 (by omega); obtain e11 : (vs 11) = .agg cs.toArray := hs 11 (by omega)
        obtain ⟨gb, e12, hgb, hbb⟩ : ∃ h, (vs 12) = .slice (some ⟨h, 0, none⟩) 1 1 ∧ w.heap.size ≤ h ∧ w7.heap[h]? = some (.cells cs.toArray 54 (0, 0)) := hs 12 (by omega)
        obtain ⟨g8, c8, e13, ho8, hor8⟩ : ∃ h d, (vs 13) = .slice (some ⟨h, 0, none⟩) (row.length + 1) d ∧ w7.ownsRow W 54 19 (.slice (some ⟨h, 0, none⟩) (row.length + 1) d) (row.length + 1) (xs ++ cs) ∧ ((Value.slice (some ⟨g, 0, none⟩) row.length c).ownBlock = some h ∨ w.heap.size ≤ h) := hs 13 (by omega)
        have e14 : vs 14 = _ := hs 14 (by omega); have e15 : vs 15 = _ := hs 15 (by omega)
        show wpList _ _ _ _ ((((((((((((((((Act.put _ (some 19) (vs 0)).put (some 20) (vs 1)).put (some 21) (vs 2)).put (some 22) (vs 3)).put (some 23) (vs 4)).put (some 24) (vs 5)).put (some 25) (vs 6)).put (some 26) (vs 7)).put (some 27) (vs 8)).put (some 28) (vs 9)).put (some 29) (vs 10)).put (some 30) (vs 11)).put (some 31) (vs 12)).put (some 32) (vs 13)).put (some 33) (vs 14)).put (some 34) (vs 15)) _
        rw [e0, e1, e2, e3, e4, e5, e6, e7, e8, e9, e10, e11, e12, e13, e14, e15]; clear e0 e1 e2 e3 e4 e5 e6 e7 e8 e9 e10 e11 e12 e13 e14 e15 hs hne vs; obtain ⟨⟨M', hM1', hM2', hL9⟩, hK9⟩ := HROW.out w7 g8 c8 hb7' ho8 hor8; have hp7 : w7.heap[p]? = _ := (hb7'.block p (blk_lt HP6.out) HNG.out).trans HP6.out
        have m8 : w7.cell? ⟨p, 1, none⟩ = some (.slice (some ⟨g, 0, none⟩) row.length c) := by rw [blk_cell hp7]; rfl
        have m9 := blk_frozen hp7 1; have lp7 := blk_lt hp7; have HF := Lib.hid (show RLnPost W M p bad (copyR row n) book NB (.bool (decide (0 < row.length) && decide (row.length < 4096))) w (.returned (.bool true)) (w7.setCell ⟨p, 1, none⟩ (.slice (some ⟨g8, 0, none⟩) (row.length + 1) c8)) from ⟨by rw [HRB.out], hK9, M', hM1', hM2', by rw [HCR.out]; exact hL9⟩); clear hM1' hM2' hL9 hK9 hp7 ho8 hor8 hbb hgb hb7'; simp only [List.drop_succ_cons, List.drop_zero, Act.put, List.setIfInBounds_toArray, List.set_cons_succ, List.set_cons_zero]
        go_wp2_with fail
        go_ret
        exact HF.out
end Go.Proofs.YtijeieamodjgbaaGreat
namespace Go.Proofs.YtijeieamodjgbaaGreat
set_option maxRecDepth 100000
open Go.RowKit Go.Deep
attribute [local irreducible] wpQuiet
set_option linter.unusedVariables false
set_option linter.unusedSimpArgs false
attribute [local go_sem] run_store_float
def rinjT (W0 p vb ul : Nat) (ua ba : Option Addr) (ud bn bc : Nat) (ms : List Value) (T : List Sg) (D : Bool) : Nat → World → Value → Prop
  | 0 => fun _ v => v = .pointer (some ⟨p, 0, none⟩)
  | 1 => fun _ v => v = .pointer (some ⟨p, 0, none⟩)
  | 2 => fun _ v => v = .pointer (some ⟨p, 2, none⟩)
  | 3 => fun _ v => v = .slice ua ul ud
  | 4 => fun _ v => v = .pointer (some ⟨p, 0, none⟩)
  | 5 => fun _ v => v = .pointer (some ⟨p, 0, none⟩)
  | 6 => fun _ v => v = .pointer (some ⟨p, 0, none⟩)
  | 7 => fun _ v => v = .slice ba bn bc
  | 8 => fun _ v => v = .pointer (some ⟨vb, 2, none⟩)
  | 9 => fun w v => v = .agg ms.toArray
  | 10 => fun w v => ∃ a' c', v = .slice a' T.length c' ∧ w.ownsRow W0 84 2 (.slice a' T.length c') T.length (sigV T)
  | 11 => fun w v => v = .bool D
  | _ => fun _ _ => False
theorem rinjT_stab {W0 p vb ul : Nat} {ua ba : Option Addr} {ud bn bc : Nat} {ms : List Value} {T : List Sg} {D : Bool} : ∀ i w w' v, rinjT W0 p vb ul ua ba ud bn bc ms T D i w v → Below w.heap.size w w' → rinjT W0 p vb ul ua ba ud bn bc ms T D i w' v
  | 0, w, w', v, h, hb => h
  | 1, w, w', v, h, hb => h
  | 2, w, w', v, h, hb => h
  | 3, w, w', v, h, hb => h
  | 4, w, w', v, h, hb => h
  | 5, w, w', v, h, hb => h
  | 6, w, w', v, h, hb => h
  | 7, w, w', v, h, hb => h
  | 8, w, w', v, h, hb => h
  | 9, w, w', v, h, hb => h
  | 10, w, w', v, ⟨a', c', h1, h2⟩, hb => ⟨a', c', h1, owns_old h2 hb⟩
  | 11, w, w', v, h, hb => h
  | _ + 12, w, w', v, h, hb => h
set_option maxHeartbeats 4000000 in
theorem rlaneinject_any (W : Nat) (M : Nat → Prop) (p : Nat) (bad : List Int) (row : List Pk) (book : List Sg) (NB : Nat) (y : Pk) (cs : List Value) (w : World) (h : RLn W M w p bad row book NB) (hW : W ≤ w.heap.size) (hE : Rob (fun k => W ≤ k) (fun w' => shPk.E w' y cs) w)
    (hT : (termsP y.m).length * 24 ≤ 140737488355328) (hN : NB ≤ 1048576) :
    Calls Tryz.prog 17 #[.pointer (some ⟨p, 0, none⟩), .agg cs.toArray] w (RLnPost W M p bad (injR bad row book y) book NB (.int .i64 (injE bad row book y)) w) := by
  obtain ⟨a1, n1, c1, a2, n2, c2, a3, n3, c3, a4, n4, c4, hcs, hyf, hyt, hmi⟩ := pk_open hE.self
  have hc0 : cs.toArray[0]? = some (.int .i64 y.fr) := by rw [hcs]; rfl
  obtain ⟨ii, hii, hz0, hz1, hz2⟩ := info_parts info_pk
  have hcl19 : cs.length = 19 := by rw [hcs]; rfl
  have hone := pk_one hE.self
  obtain ⟨w1, hw1⟩ : ∃ w1, w1 = w.alloc (.cells cs.toArray 54 (0, 0)) := ⟨_, rfl⟩
  have b1 : Below w.heap.size w w1 := by rw [hw1]; exact below_alloc _ _
  have hk1 : w1.heap[w.heap.size]? = some (.cells cs.toArray 54 (0, 0)) := by rw [hw1]; exact blk_alloc _ _
  have k1 : w1.cell? ⟨w.heap.size, 0, none⟩ = some (.int .i64 y.fr) := by rw [blk_cell hk1]; exact hc0
  have z1 : w.heap.size < w1.heap.size := blk_lt hk1; obtain ⟨ba, bn, bc, a, c, ub, ud, hp, hbd, hrw, _⟩ := (h.old b1).view hN
  have x1 : w1.cell? ⟨p, 0, none⟩ = some (.slice ba bn bc) := by rw [blk_cell hp]; rfl
  have lp := blk_lt hp; have CC := Lib.hid (show ∀ w', Below w1.heap.size w1 w' → Calls Tryz.prog 54 #[.slice ba bn bc, .int .i64 y.fr] w' fun e w'' => e = .returned (.bool (hasB bad y.fr)) ∧ w' = w'' from fun w' hw' => rhas_any ba bn bc bad y.fr _ ((ints_of_sl hbd).below hw')); have HL := Lib.hid h; have HE := Lib.hid hE; have HMI := Lib.hid hmi; have HCS := Lib.hid hcs; have HK1 := Lib.hid hk1; have HT := Lib.hid hT; have HN := Lib.hid hN; have HB1 := Lib.hid b1; have HONE := Lib.hid hone; have HCL := Lib.hid hcl19
  cases hb : hasB bad y.fr with
  | false =>
    have HIE := Lib.hid (show injE bad row book y = 1 ∧ injR bad row book y = row by
      have he : injE bad row book y = 1 := by unfold injE; rw [hb]; rfl
      exact ⟨he, by unfold injR; rw [he]; rfl⟩)
    generalize injR bad row book y = IR at *
    generalize injE bad row book y = IE at *
    rw [hb] at CC
    clear hp h hbd hrw hb hE hmi hk1 hT hN b1 hone hcl19 hc0
    obtain ⟨CS, hCS⟩ : ∃ CS, CS = cs.toArray := ⟨_, rfl⟩
    rw [← hCS] at hw1 ⊢
    clear hCS hcs
    go_enter Tryz.func17, Tryz.ntmps17
    go_upto_region 1 with (fail)
    rw [← hw1]; clear hw1
    refine wp_region_below (by kernel_rfl) (by kernel_rfl) ?_
    repeat (refine wpQuiet_step (fun K hK => ?_); go_simp; first | (refine hK _ ?_; clear hK K) | (apply Exists.intro; refine ⟨fun w' hw' => ?_, hK _ ?_⟩; (first | (go_at_call 54; exact Calls.quiet_below_same hw' (CC.out _ hw')) | (with_reducible rfl) | (obtain ⟨cc, dd⟩ := bcell hw'; go_simp; rfl)); clear hK K))
    refine wpQuiet_nil ?_
    intro w2 hb2; have HB2 := Lib.hid (bthen HB1.out hb2); have HF := Lib.hid (show RLnPost W M p bad IR book NB (.int .i64 IE) w (.returned (.int .i64 1)) w2 from ⟨by rw [HIE.out.1], Keep.of_below HB2.out, M, fun _ h => h, fun _ h => .inl h, by rw [HIE.out.2]; exact HL.out.old HB2.out⟩); clear hb2 CC x1 lp k1 z1
    go_wp2_with fail
    go_ret
    exact HF.out
  | true =>
    have HIE := Lib.hid (show injE bad row book y = if mgErr y.m = 0 then (if derivP book bad (termsP y.m) then (if row.length < 4096 then 0 else 21) else 16) else 4 by unfold injE; rw [hb]; rfl); have HIR := Lib.hid (show injR bad row book y = if injE bad row book y = 0 then row ++ [y] else row from rfl)
    generalize injR bad row book y = IR at *
    generalize injE bad row book y = IE at *
    rw [hb] at CC
    clear hp h hbd hrw hb hE hmi hk1 hT hN b1 hone hcl19 hc0
    obtain ⟨CS, hCS⟩ : ∃ CS, CS = cs.toArray := ⟨_, rfl⟩
    rw [← hCS] at hw1 ⊢
    have HCS2 := Lib.hid hCS; clear hCS hcs
    go_enter Tryz.func17, Tryz.ntmps17
    go_upto_region 1 with (fail)
    rw [← hw1]; clear hw1
    refine wp_region_below (by kernel_rfl) (by kernel_rfl) ?_
    repeat (refine wpQuiet_step (fun K hK => ?_); go_simp; first | (refine hK _ ?_; clear hK K) | (apply Exists.intro; refine ⟨fun w' hw' => ?_, hK _ ?_⟩; (first | (go_at_call 54; exact Calls.quiet_below_same hw' (CC.out _ hw')) | (with_reducible rfl) | (obtain ⟨cc, dd⟩ := bcell hw'; go_simp; rfl)); clear hK K))
    refine wpQuiet_nil ?_
    intro w2 hb2; have HB2 := Lib.hid (bthen HB1.out hb2); have HK2 := Lib.hid (blk_below HK1.out hb2); clear hb2 CC x1 lp k1 z1
    have hr2 : ∀ wa, Below w2.heap.size w2 wa → wa.rangeAt w.heap.size 2 (mgCs y.m a1 n1 c1 a2 n2 c2 a3 n3 c3 a4 n4 c4) := fun wa hb j u hj => by
      rw [blk_cell (blk_below HK2.out hb), HCS.out]; rw [← hj]
      simp [pkCs, List.getElem?_cons, Nat.add_comm 2 j]
    have hmlen : (Tryz.prog.info? 35).map (·.size) = some (mgCs y.m a1 n1 c1 a2 n2 c2 a3 n3 c3 a4 n4 c4).length := by kernel_rfl
    have CB := Lib.hid (rbytes13_any y.m a1 n1 c1 a2 n2 c2 a3 n3 c3 a4 n4 c4 w2 (HMI.out.old HB2.out)); have CT0 := Lib.hid (show ∀ wa, Below w.heap.size w wa → Calls Tryz.prog 51 #[.agg (mgCs y.m a1 n1 c1 a2 n2 c2 a3 n3 c3 a4 n4 c4).toArray] wa (fun r w' => Below wa.heap.size wa w' ∧ ∃ v, r = .returned v ∧ w'.ownsRow wa.heap.size 84 2 v (termsP y.m).length (sigV (termsP y.m))) from fun wa hb => rterms_any y.m a1 n1 c1 a2 n2 c2 a3 n3 c3 a4 n4 c4 wa (HMI.out.old hb) HT.out); have HTO := Lib.hid (terms_fine HMI.out); have HT24 := Lib.hid HT.out
    generalize mgErr y.m = ER at *
    generalize mgText y.m = TX at *
    generalize hTT : termsP y.m = T at *
    generalize hms : mgCs y.m a1 n1 c1 a2 n2 c2 a3 n3 c3 a4 n4 c4 = ms at hr2 hmlen CB CT0
    have HR2 := Lib.hid hr2; have lz2 := blk_lt HK2.out
    go_upto_region 3 with (fail)
    refine wp_region_lit ?_
    refine wpList_val (w' := w2) rfl (v := .pointer (some ⟨w.heap.size, 2, none⟩)) (by simp only [execOp]; go_simp) ?_
    simp only [Act.put, List.setIfInBounds_toArray, List.set_cons_succ, List.set_cons_zero]
    refine wpList_load_mid rfl 35 (.tmp 16) rfl w.heap.size 2 rfl ms _ (hr2 w2 (Below.refl _ _)) Tryz.underlying35 rfl hmlen ?_
    simp only [Act.put, List.setIfInBounds_toArray, List.set_cons_succ, List.set_cons_zero]; clear hr2
    go_wp2_with fail
    refine CB.out.mono ?_
    rintro r w3 ⟨rfl, b3⟩
    have HB3 := Lib.hid (bthen HB2.out b3); have HK3 := Lib.hid (blk_below HK2.out b3); have HR3 := Lib.hid (fun (wa : World) (hb : Below w3.heap.size w3 wa) => run_loadVar_mid (P := Tryz.prog) wa w.heap.size 2 35 ms _ (HR2.out wa (bthen b3 hb)) Tryz.underlying35 rfl hmlen); clear b3 CB HR2 hmlen
    by_cases hE0 : ER = 0
    · have hd1 : (ER == 0) = true := by simpa using hE0
      have H3 := Lib.hid (HL.out.old HB3.out); obtain ⟨ba, bn, bc, v, xs, u, hp, h2, ⟨h7, h8, h9⟩, h10, h11, h12⟩ := H3.out.ex; obtain ⟨a, c, rfl⟩ := owns_form h7; obtain ⟨ua, ud, rfl⟩ := owns_form h10; have HP4 := Lib.hid hp; have HLM := HR3; have HIE2 := Lib.hid (show IE = if derivP book bad T then (if row.length < 4096 then 0 else 21) else 16 by rw [HIE.out, if_pos hE0]); have CT := Lib.hid (show ∀ wa, Below w3.heap.size w3 wa → Calls Tryz.prog 51 #[.agg ms.toArray] wa (fun r w' => Below wa.heap.size wa w' ∧ ∃ v, r = .returned v ∧ w'.ownsRow wa.heap.size 84 2 v T.length (sigV T)) from fun wa hb => CT0.out wa (bthen HB3.out hb))
      have CD := Lib.hid (show ∀ (wa : World) (a9 : Option Addr) (c9 : Nat), Below w3.heap.size w3 wa → wa.ownsRow w3.heap.size 84 2 (.slice a9 T.length c9) T.length (sigV T) → Calls Tryz.prog 56 #[.slice ua book.length ud, .slice ba bn bc, .slice a9 T.length c9] wa fun e w'' => e = .returned (.bool (derivP book bad T)) ∧ Below wa.heap.size wa w'' from fun wa a9 c9 hb ho =>
        rderiv_any ua book.length ud book ba bn bc bad a9 T.length c9 T wa (sl_owned (owns_old h10 hb) h12 (by have := H3.out.small; have := HN.out; omega)) (ints_of_sl (ints_row (owns_old h2.1 hb) h2.2.1 h2.2.2.1 h2.2.2.2.1)) (sl_owned (show wa.ownsRow w3.heap.size 84 2 (.slice a9 T.length c9) T.length (flatV T) from ho) HTO.out HT24.out))
      have lz3 := blk_lt HK3.out; have lp3 := blk_lt hp
      generalize hD : derivP book bad T = D at CD HIE2
      clear hD HR3 CT0 HIE hE0
      go_upto_region 6 with (fail)
      refine wp_region_made 12 (rinjT w3.heap.size p w.heap.size book.length ua ba ud bn bc ms T D) (fun _ _ => none) rfl (by kernel_rfl) (by kernel_rfl) rinjT_stab (fun _ _ _ _ _ h => by cases h) (fun i oo hi ho => ?_) (fun vs w7 hb7 hs hne => ?_)
      · intro ac wa hba hE hF K hK
        have b7 := below_undrew hba
        have hno : ∀ k, (none : Option Nat) = some k → wa.heap.size ≤ k := fun _ h => by cases h
        have z2 : wa.cell? ⟨p, 2, none⟩ = some (.slice ua book.length ud) := by rw [blk_cell (blk_below HP4.out b7)]; rfl
        have z0 : wa.cell? ⟨p, 0, none⟩ = some (.slice ba bn bc) := by rw [blk_cell (blk_below HP4.out b7)]; rfl
        have hld := HLM.out wa b7
        have hi' : i = 0 ∨ i = 1 ∨ i = 2 ∨ i = 3 ∨ i = 4 ∨ i = 5 ∨ i = 6 ∨ i = 7 ∨ i = 8 ∨ i = 9 ∨ i = 10 ∨ i = 11 := by omega
        rcases hi' with rfl | rfl | rfl | rfl | rfl | rfl | rfl | rfl | rfl | rfl | rfl | rfl
        · obtain rfl := Option.some.inj ho
          have h1 : ac.eval (.tmp 0) = .pointer (some ⟨p, 0, none⟩) := hE 0 (by decide)
          exact news_val rfl rfl (by generalize ac.eval = ρ at h1; simp only [execOp]; go_simp) (hK _ _ (Below.refl _ _) rfl hno)
        · obtain rfl := Option.some.inj ho
          have h1 : ac.eval (.tmp 23) = .pointer (some ⟨p, 0, none⟩) := hF ⟨0, .data⟩ (by simp) rfl 23 rfl
          exact news_val rfl rfl (by generalize ac.eval = ρ at h1; simp only [execOp]; go_simp) (hK _ _ (Below.refl _ _) rfl hno)
        · obtain rfl := Option.some.inj ho
          have h1 : ac.eval (.tmp 24) = .pointer (some ⟨p, 0, none⟩) := hF ⟨1, .data⟩ (by simp) rfl 24 rfl
          exact news_val rfl rfl (by generalize ac.eval = ρ at h1; simp only [execOp]; go_simp) (hK _ _ (Below.refl _ _) rfl hno)
        · obtain rfl := Option.some.inj ho
          have h1 : ac.eval (.tmp 25) = .pointer (some ⟨p, 2, none⟩) := hF ⟨2, .data⟩ (by simp) rfl 25 rfl
          exact news_val rfl rfl (by generalize ac.eval = ρ at h1; simp only [execOp]; go_simp) (hK _ _ (Below.refl _ _) rfl hno)
        · obtain rfl := Option.some.inj ho
          have h1 : ac.eval (.tmp 0) = .pointer (some ⟨p, 0, none⟩) := hE 0 (by decide)
          exact news_val rfl rfl (by generalize ac.eval = ρ at h1; simp only [execOp]; go_simp) (hK _ _ (Below.refl _ _) rfl hno)
        · obtain rfl := Option.some.inj ho
          have h1 : ac.eval (.tmp 27) = .pointer (some ⟨p, 0, none⟩) := hF ⟨4, .data⟩ (by simp) rfl 27 rfl
          exact news_val rfl rfl (by generalize ac.eval = ρ at h1; simp only [execOp]; go_simp) (hK _ _ (Below.refl _ _) rfl hno)
        · obtain rfl := Option.some.inj ho
          have h1 : ac.eval (.tmp 28) = .pointer (some ⟨p, 0, none⟩) := hF ⟨5, .data⟩ (by simp) rfl 28 rfl
          exact news_val rfl rfl (by generalize ac.eval = ρ at h1; simp only [execOp]; go_simp) (hK _ _ (Below.refl _ _) rfl hno)
        · obtain rfl := Option.some.inj ho
          have h1 : ac.eval (.tmp 29) = .pointer (some ⟨p, 0, none⟩) := hF ⟨6, .data⟩ (by simp) rfl 29 rfl
          exact news_val rfl rfl (by generalize ac.eval = ρ at h1; simp only [execOp]; go_simp) (hK _ _ (Below.refl _ _) rfl hno)
        · obtain rfl := Option.some.inj ho
          have h1 : ac.eval (.tmp 3) = .pointer (some ⟨w.heap.size, 0, none⟩) := hE 3 (by decide)
          exact news_val rfl rfl (by generalize ac.eval = ρ at h1; simp only [execOp]; go_simp) (hK _ _ (Below.refl _ _) rfl hno)
        · obtain rfl := Option.some.inj ho
          have h1 : ac.eval (.tmp 31) = .pointer (some ⟨w.heap.size, 2, none⟩) := hF ⟨8, .data⟩ (by simp) rfl 31 rfl
          exact news_load rfl rfl 35 (.tmp 31) rfl w.heap.size 2 h1 hld (hK _ _ (Below.refl _ _) rfl hno)
        · obtain rfl := Option.some.inj ho
          obtain h1 : (ac.eval (.tmp 32)) = .agg ms.toArray := hF ⟨9, .data⟩ (by simp) rfl 32 rfl; have hf : ac.eval (.func 51) = .func (.func 51) #[] #[] := rfl
          refine made_call rfl rfl 51 #[.agg ms.toArray] (by generalize ac.eval = ρ at h1 hf; simp only [execOp]; go_simp) (CT.out wa b7) ?_
          rintro r w8 ⟨b8, v8, rfl, ho8⟩
          obtain ⟨a8, c8, rfl⟩ := owns_form ho8
          exact ⟨_, rfl, hK _ _ b8 ⟨a8, c8, rfl, owns_lower ho8 b7.size⟩ hno⟩
        · obtain rfl := Option.some.inj ho
          have h1 : ac.eval (.tmp 26) = .slice ua book.length ud := hF ⟨3, .data⟩ (by simp) rfl 26 rfl; have h2 : ac.eval (.tmp 30) = .slice ba bn bc := hF ⟨7, .data⟩ (by simp) rfl 30 rfl
          obtain ⟨a9, c9, h3, ho9⟩ : ∃ a' c', (ac.eval (.tmp 33)) = .slice a' T.length c' ∧ wa.ownsRow w3.heap.size 84 2 (.slice a' T.length c') T.length (sigV T) := hF ⟨10, .data⟩ (by simp) rfl 33 rfl
          have hf : ac.eval (.func 56) = .func (.func 56) #[] #[] := rfl
          refine made_call rfl rfl 56 #[.slice ua book.length ud, .slice ba bn bc, .slice a9 T.length c9] (by generalize ac.eval = ρ at h1 h2 h3 hf; simp only [execOp]; go_simp) (CD.out wa a9 c9 b7 ho9) ?_
          rintro r w8 ⟨rfl, b8⟩
          exact ⟨_, rfl, hK _ _ b8 rfl hno⟩
      · have e0 : vs 0 = _ := hs 0 (by omega)
        have e1 : vs 1 = _ := hs 1 (by omega); have e2 : vs 2 = _ := hs 2 (by omega); have e3 : vs 3 = _ := hs 3 (by omega); have e4 : vs 4 = _ := hs 4 (by omega); have e5 : vs 5 = _ := hs 5 (by omega); have e6 : vs 6 = _ := hs 6 (by omega); have e7 : vs 7 = _ := hs 7 (by omega); have e8 : vs 8 = _ := hs 8 (by omega); obtain e9 : (vs 9) = .agg ms.toArray := hs 9 (by omega)
        obtain ⟨a9, c9, e10, ho9⟩ : ∃ a' c', (vs 10) = .slice a' T.length c' ∧ w7.ownsRow w3.heap.size 84 2 (.slice a' T.length c') T.length (sigV T) := hs 10 (by omega)
        obtain e11 : (vs 11) = .bool D := hs 11 (by omega)
        show wpList _ _ _ _ ((((((((((((Act.put _ (some 23) (vs 0)).put (some 24) (vs 1)).put (some 25) (vs 2)).put (some 26) (vs 3)).put (some 27) (vs 4)).put (some 28) (vs 5)).put (some 29) (vs 6)).put (some 30) (vs 7)).put (some 31) (vs 8)).put (some 32) (vs 9)).put (some 33) (vs 10)).put (some 34) (vs 11)) _
        rw [e0, e1, e2, e3, e4, e5, e6, e7, e8, e9, e10, e11]; clear e0 e1 e2 e3 e4 e5 e6 e7 e8 e9 e10 e11 hs hne vs; have H7 := Lib.hid (H3.out.old hb7); have HB7 := Lib.hid (bthen HB3.out hb7); have HP7 := Lib.hid (blk_below hp hb7); have HK7 := Lib.hid (blk_below HK3.out hb7); have h77 := owns_old h7 hb7; have h27 := owns_old h2.1 hb7; have h97 := h9.step (Y := fun _ => False) (Keep.of_below hb7) (fun _ _ h => h.elim) (fun _ _ h => h); have h107 := owns_old h10 hb7; clear hb7 h7 h9 h10 hp CT CD HLM HP4 lz3 lp3 HK3 ho9; simp only [List.drop_succ_cons, List.drop_zero, Act.put, List.setIfInBounds_toArray, List.set_cons_succ, List.set_cons_zero]
        cases D with
        | false =>
          have HF := Lib.hid (show RLnPost W M p bad IR book NB (.int .i64 IE) w (.returned (.int .i64 16)) w7 from by
            have he : IE = 16 := by rw [HIE2.out]; rfl
            exact ⟨by rw [he], Keep.of_below HB7.out, M, fun _ h => h, fun _ h => .inl h, by rw [HIR.out, he]; exact H7.out⟩)
          clear h77 h27 h97 h107
          go_wp2_with fail
          go_ret
          exact HF.out
        | true =>
          have H77 := Lib.hid h77; have hcap := H7.out.cap; have HW7 := Lib.hid (Nat.le_trans hW HB7.out.size); have H97 := Lib.hid h97; have H107 := Lib.hid h107; have H27 := Lib.hid h27; clear h77 h27 h97 h107
          have q1 : w7.cell? ⟨p, 1, none⟩ = some (.slice a row.length c) := by rw [blk_cell HP7.out]; rfl
          have lp7 := blk_lt HP7.out
          cases hfull : decide (4096 ≤ row.length) with
          | true =>
            have hfl := of_decide_eq_true hfull
            have hd2 : decide ((4096 : Int) ≤ (row.length : Int)) = true := by simp; omega
            have HF := Lib.hid (show RLnPost W M p bad IR book NB (.int .i64 IE) w (.returned (.int .i64 21)) w7 from by
              have he : IE = 21 := by rw [HIE2.out, if_pos rfl, if_neg (by omega)]
              exact ⟨by rw [he], Keep.of_below HB7.out, M, fun _ h => h, fun _ h => .inl h, by rw [HIR.out, he]; exact H7.out⟩)
            go_wp2_with fail
            go_ret
            exact HF.out
          | false =>
            have hfl := of_decide_eq_false hfull
            have hd2 : decide ((4096 : Int) ≤ (row.length : Int)) = false := by simp; omega
            clear hfull; have HE0 := Lib.hid (show IE = 0 by rw [HIE2.out, if_pos rfl, if_pos (by omega)]); have HR0 := Lib.hid (show IR = row ++ [y] by rw [HIR.out, if_pos HE0.out]); have HP6 := HP7; have HNG := Lib.hid (show ¬ ((Value.slice a row.length c).ownBlock = some p) from own_ne13 H77.out HP7.out (by decide)); have HOLN := Lib.hid (show ∀ z, w7.heap.size ≤ z → ¬ ((Value.slice a row.length c).ownBlock = some z) from fun z hz hc => by have := (H77.out.lt z hc).2; omega)
            have hnb : (Value.slice a row.length c).ownBlock ≠ some w.heap.size := fun hc => by
              have := HL.out.lt _ (h8 _ hc)
              omega
            have hinfo2 : (Tryz.prog.info? 54).map (·.size) = some CS.size := by rw [HCS2.out, List.size_toArray, HCL.out]; kernel_rfl
            have hkb : w7.heap[w.heap.size]? = some (.cells cs.toArray 54 (0, 0)) := HK7.out; have HLP := Lib.hid (show ∀ (wa : World), Keep (fun z => (Value.slice a row.length c).ownBlock = some z) w7 wa → (loadVar 54 ⟨w.heap.size, 0, none⟩).run Tryz.prog wa = .ok (.agg cs.toArray) wa from fun wa hk => run_loadVar_row (P := Tryz.prog) wa w.heap.size 54 54 cs.toArray (0, 0) _ ((hk.block _ (blk_lt hkb) hnb).trans hkb) Tryz.underlying54 rfl (by rw [← HCS2.out]; exact hinfo2)); have HEy := Lib.hid (HE.out.step (Y := fun _ => False) (X' := fun k => W ≤ k) (Keep.of_below HB7.out) (fun _ _ h => h.elim) (fun _ _ h => h))
            have HROW := Lib.hid (fun (w8 : World) (g8 c8 : Nat) (hk : Keep (fun z => (Value.slice a row.length c).ownBlock = some z) w7 w8) (ho : w8.ownsRow W 54 19 (.slice (some ⟨g8, 0, none⟩) (row.length + 1) c8) (row.length + 1) (xs ++ cs)) (hor : (Value.slice a row.length c).ownBlock = some g8 ∨ w7.heap.size ≤ g8) =>
              rln_lay (o := 1) (x := .slice (some ⟨g8, 0, none⟩) (row.length + 1) c8) (row' := row ++ [y]) (book' := book) (NB' := NB) (v' := .slice (some ⟨g8, 0, none⟩) (row.length + 1) c8) (u' := .slice ua book.length ud) H7.out HP7.out ⟨H27.out, h2.2⟩ H77.out h8 H107.out h11 (keep_mono13 hk (fun _ h => .inl h)) (by rw [List.length_append]; exact ho) (hor.elim (fun h => .inr (.inl h.symm)) (fun h => .inr (.inr ⟨g8, rfl, h⟩))) (H97.out.snoc HCL.out HEy.out) (owns_keep H107.out hk (fun z hz hx => rows_ne13 H107.out H77.out (by decide) z hz hx)) (.inr (.inl rfl)) h12 HW7.out (by rw [List.length_append]; simp; omega) H7.out.small (by rw [blk_set ((hk.block p (blk_lt HP7.out) (own_ne13 H77.out HP7.out (by decide))).trans HP7.out) 1 _]; rfl))
            have k5 : row.length + 1 ≤ maxLen := by unfold maxLen; omega
            have k6 : (row.length + 1) * 232 ≤ 140737488355328 := by omega
            have hWw := HW7.out; have H7L := H7; have H7 := H77; clear hkb
            go_upto_region 10 with (fail)
            clear q1
            refine wp_region_kept 10 (fun k => (Value.slice a row.length c).ownBlock = some k) 7 (injA W w7.heap.size p (Value.slice a row.length c).ownBlock a row.length c w.heap.size cs xs) (fun _ _ => none) rfl (by kernel_rfl) (by kernel_rfl) (injA_stab HOLN.out) (fun _ _ _ _ _ h => by cases h) (fun i oo hi ho => ?_) (fun vs w9 hb7' hs hne => ?_)
            · intro ac wa hba hbs hE hF K hK
              have b7 := keep_undrew13 hba
              have hno : ∀ k, (none : Option Nat) = some k → wa.heap.size ≤ k := fun _ h => by cases h
              have hW := b7.size
              have z1 : wa.cell? ⟨p, 1, none⟩ = some (.slice a row.length c) := by rw [blk_cell (show wa.heap[p]? = _ from (b7.block p (blk_lt HP6.out) HNG.out).trans HP6.out)]; rfl
              have hld := HLP.out wa b7
              have hi' : i = 0 ∨ i = 1 ∨ i = 2 ∨ i = 3 ∨ i = 4 ∨ i = 5 ∨ i = 6 ∨ i = 7 ∨ i = 8 ∨ i = 9 := by omega
              rcases hi' with rfl | rfl | rfl | rfl | rfl | rfl | rfl | rfl | rfl | rfl
              · obtain rfl := Option.some.inj ho
                have h1 : ac.eval (.tmp 0) = .pointer (some ⟨p, 0, none⟩) := hE 0 (by decide)
                exact news_val rfl rfl (by generalize ac.eval = ρ at h1; simp only [execOp]; go_simp) (hK _ _ (fun _ => Below.refl _ _) (Keep.refl _ _) rfl hno)
              · obtain rfl := Option.some.inj ho
                have h1 : ac.eval (.tmp 0) = .pointer (some ⟨p, 0, none⟩) := hE 0 (by decide)
                exact news_val rfl rfl (by generalize ac.eval = ρ at h1; simp only [execOp]; go_simp) (hK _ _ (fun _ => Below.refl _ _) (Keep.refl _ _) rfl hno)
              · obtain rfl := Option.some.inj ho
                have h1 : ac.eval (.tmp 43) = .pointer (some ⟨p, 0, none⟩) := hF ⟨1, .data⟩ (by simp) rfl 43 rfl
                exact news_val rfl rfl (by generalize ac.eval = ρ at h1; simp only [execOp]; go_simp) (hK _ _ (fun _ => Below.refl _ _) (Keep.refl _ _) rfl hno)
              · obtain rfl := Option.some.inj ho
                have h1 : ac.eval (.tmp 44) = .pointer (some ⟨p, 0, none⟩) := hF ⟨2, .data⟩ (by simp) rfl 44 rfl
                exact news_val rfl rfl (by generalize ac.eval = ρ at h1; simp only [execOp]; go_simp) (hK _ _ (fun _ => Below.refl _ _) (Keep.refl _ _) rfl hno)
              · obtain rfl := Option.some.inj ho
                have h1 : ac.eval (.tmp 45) = .pointer (some ⟨p, 1, none⟩) := hF ⟨3, .data⟩ (by simp) rfl 45 rfl
                exact news_val rfl rfl (by generalize ac.eval = ρ at h1; simp only [execOp]; go_simp) (hK _ _ (fun _ => Below.refl _ _) (Keep.refl _ _) rfl hno)
              · obtain rfl := Option.some.inj ho
                have h1 : ac.eval (.tmp 3) = .pointer (some ⟨w.heap.size, 0, none⟩) := hE 3 (by decide)
                exact news_load rfl rfl 54 (.tmp 3) rfl w.heap.size 0 h1 hld (hK _ _ (fun _ => Below.refl _ _) (Keep.refl _ _) rfl hno)
              · obtain rfl := Option.some.inj ho
                obtain h1 : (ac.eval (.tmp 47)) = .agg cs.toArray := hF ⟨5, .data⟩ (by simp) rfl 47 rfl
                exact news_val (w' := wa.alloc (.cells cs.toArray 54 (0, 0))) rfl rfl (by rw [HCS.out] at h1 ⊢; simp only [pkCs, mgCs] at h1 ⊢; generalize ac.eval = ρ at h1; simp only [execOp]; go_simp) (hK _ _ (fun _ => below_alloc _ _) (Keep.of_below (below_alloc _ _)) ⟨wa.heap.size, rfl, hW, blk_alloc _ _⟩ hno)
              · obtain rfl := Option.some.inj ho
                have h1 : ac.eval (.tmp 46) = .slice a row.length c := hF ⟨4, .data⟩ (by simp) rfl 46 rfl
                obtain ⟨gb, h2, hgb, hbb⟩ : ∃ h, (ac.eval (.tmp 48)) = .slice (some ⟨h, 0, none⟩) 1 1 ∧ w7.heap.size ≤ h ∧ wa.heap[h]? = some (.cells cs.toArray 54 (0, 0)) := hF ⟨6, .data⟩ (by simp) rfl 48 rfl
                refine wpOp_step rfl fun K' hK' => ?_
                refine step_append_lies _ rfl (.tmp 46) (.tmp 48) 46 rfl W 54 ii (.agg zeroPk.toArray) 19 232 Tryz.underlying46 hii hz0 hz1 hz2 rfl (by decide) (.slice a row.length c) row.length xs h1 (owns_old H7.out (below_undrew (hbs rfl))) ⟨gb, 0, none⟩ 1 1 cs h2 (by rw [HCL.out]) (World.news_of_block hbb) HONE.out (by decide) k5 k6 (Nat.le_trans hWw hW) _ rfl ?_
                intro g8 cap8 w8 hown8 hg8 hor8 hlt8
                exact hK' _ _ (hK _ _ (fun h => (h rfl).elim) ((Keep.refl _ wa).grown hg8 (fun k hk => .inr hk)) ⟨_, _, rfl, hown8, hor8.elim .inl (fun h => .inr (by omega))⟩ hno)
              · obtain rfl := Option.some.inj ho
                have h1 : ac.eval (.tmp 42) = .pointer (some ⟨p, 0, none⟩) := hF ⟨0, .data⟩ (by simp) rfl 42 rfl
                exact news_val rfl rfl (by generalize ac.eval = ρ at h1; simp only [execOp]; go_simp) (hK _ _ (fun _ => Below.refl _ _) (Keep.refl _ _) rfl hno)
              · obtain rfl := Option.some.inj ho
                have h1 : ac.eval (.tmp 50) = .pointer (some ⟨p, 0, none⟩) := hF ⟨8, .data⟩ (by simp) rfl 50 rfl
                exact news_val rfl rfl (by generalize ac.eval = ρ at h1; simp only [execOp]; go_simp) (hK _ _ (fun _ => Below.refl _ _) (Keep.refl _ _) rfl hno)
            · have e0 : vs 0 = _ := hs 0 (by omega)
              have e1 : vs 1 = _ := hs 1 (by omega); have e2 : vs 2 = _ := hs 2 (by omega); have e3 : vs 3 = _ := hs 3 (by omega); have e4 : vs 4 = _ := hs 4 (by omega); obtain e5 : (vs 5) = .agg cs.toArray := hs 5 (by omega)
              obtain ⟨gb, e6, hgb, hbb⟩ : ∃ h, (vs 6) = .slice (some ⟨h, 0, none⟩) 1 1 ∧ w7.heap.size ≤ h ∧ w9.heap[h]? = some (.cells cs.toArray 54 (0, 0)) := hs 6 (by omega)
              obtain ⟨g8, c8, e7, ho8, hor8⟩ : ∃ h d, (vs 7) = .slice (some ⟨h, 0, none⟩) (row.length + 1) d ∧ w9.ownsRow W 54 19 (.slice (some ⟨h, 0, none⟩) (row.length + 1) d) (row.length + 1) (xs ++ cs) ∧ ((Value.slice a row.length c).ownBlock = some h ∨ w7.heap.size ≤ h) := hs 7 (by omega)
              have e8 : vs 8 = _ := hs 8 (by omega); have e9 : vs 9 = _ := hs 9 (by omega)
              show wpList _ _ _ _ ((((((((((Act.put _ (some 42) (vs 0)).put (some 43) (vs 1)).put (some 44) (vs 2)).put (some 45) (vs 3)).put (some 46) (vs 4)).put (some 47) (vs 5)).put (some 48) (vs 6)).put (some 49) (vs 7)).put (some 50) (vs 8)).put (some 51) (vs 9)) _
              rw [e0, e1, e2, e3, e4, e5, e6, e7, e8, e9]; clear e0 e1 e2 e3 e4 e5 e6 e7 e8 e9 hs hne vs; obtain ⟨⟨M', hM1', hM2', hL9⟩, hK9⟩ := HROW.out w9 g8 c8 hb7' ho8 hor8; have hp7 : w9.heap[p]? = _ := (hb7'.block p (blk_lt HP6.out) HNG.out).trans HP6.out
              have m8 : w9.cell? ⟨p, 1, none⟩ = some (.slice a row.length c) := by rw [blk_cell hp7]; rfl
              have m9 := blk_frozen hp7 1; have lp7 := blk_lt hp7; have HF := Lib.hid (show RLnPost W M p bad IR book NB (.int .i64 IE) w (.returned (.int .i64 0)) (w9.setCell ⟨p, 1, none⟩ (.slice (some ⟨g8, 0, none⟩) (row.length + 1) c8)) from ⟨by rw [HE0.out], (Keep.of_below (X := M) HB7.out).trans (X' := M) hK9 (fun _ _ h => h), M', hM1', fun z hz => (hM2' z hz).elim .inl (fun h => .inr (Nat.le_trans HB7.out.size h)), by rw [HR0.out]; exact hL9⟩); clear hM1' hM2' hL9 hK9 hp7 ho8 hor8 hbb hgb hb7'; simp only [List.drop_succ_cons, List.drop_zero, Act.put, List.setIfInBounds_toArray, List.set_cons_succ, List.set_cons_zero]
              go_wp2_with fail
              go_ret
              exact HF.out
    · have hd1 : (ER == 0) = false := by simpa using hE0
      have HF := Lib.hid (show RLnPost W M p bad IR book NB (.int .i64 IE) w (.returned (.int .i64 4)) w3 from by
        have he : IE = 4 := by rw [HIE.out, if_neg hE0]
        exact ⟨by rw [he], Keep.of_below HB3.out, M, fun _ h => h, fun _ h => .inl h, by rw [HIR.out, he]; exact HL.out.old HB3.out⟩)
      go_wp2_with fail
      go_ret
      exact HF.out
end Go.Proofs.YtijeieamodjgbaaGreat
namespace Go.Proofs.YtijeieamodjgbaaGreat
set_option maxRecDepth 100000
open Go.RowKit Go.Deep
set_option linter.unusedVariables false
set_option linter.unusedSimpArgs false
attribute [local go_sem] run_store_float
def rsndA (W W0 p ul o n c k ud g : Nat) (ua : Option Addr) (o1 : Option Nat) (ms : List Value) (T bk : List Sg) : Nat → World → Value → Prop
  | 0 => fun _ v => v = .pointer (some ⟨p, 0, none⟩)
  | 1 => fun _ v => v = .pointer (some ⟨p, 0, none⟩)
  | 2 => fun _ v => v = .pointer (some ⟨p, 0, none⟩)
  | 3 => fun _ v => v = .pointer (some ⟨p, 2, none⟩)
  | 4 => fun _ v => v = .slice ua ul ud
  | 5 => fun _ v => v = .slice (some ⟨g, o, none⟩) n c
  | 6 => fun _ v => v = .int .i64 (k : Int)
  | 7 => fun _ v => v = .pointer (some ⟨g, o + k * 19, none⟩)
  | 8 => fun _ v => v = .pointer (some ⟨g, o + k * 19 + 2, none⟩)
  | 9 => fun w v => v = .agg ms.toArray
  | 10 => fun w v => ∃ a' c', v = .slice a' T.length c' ∧ w.ownsRow W0 84 2 (.slice a' T.length c') T.length (sigV T)
  | 11 => fun w v => ∃ u', v = u' ∧ w.ownsRow W 84 2 u' (noteP bk T).length (flatV (noteP bk T)) ∧ (u'.ownBlock = o1 ∨ ∃ z, u'.ownBlock = some z ∧ W0 ≤ z)
  | 12 => fun _ v => v = .pointer (some ⟨p, 0, none⟩)
  | 13 => fun _ v => v = .pointer (some ⟨p, 2, none⟩)
  | _ => fun _ _ => False
theorem rsndA_stab {W W0 p ul o n c k ud g : Nat} {ua : Option Addr} {o1 : Option Nat} {ms : List Value} {T bk : List Sg} (hY : ∀ k, W0 ≤ k → ¬ (o1 = some k)) : ∀ i w w' v, rsndA W W0 p ul o n c k ud g ua o1 ms T bk i w v → (i = 11 → Below w.heap.size w w') → Keep (fun k => o1 = some k) w w' → rsndA W W0 p ul o n c k ud g ua o1 ms T bk i w' v
  | 0, w, w', v, h, hb, hk => h
  | 1, w, w', v, h, hb, hk => h
  | 2, w, w', v, h, hb, hk => h
  | 3, w, w', v, h, hb, hk => h
  | 4, w, w', v, h, hb, hk => h
  | 5, w, w', v, h, hb, hk => h
  | 6, w, w', v, h, hb, hk => h
  | 7, w, w', v, h, hb, hk => h
  | 8, w, w', v, h, hb, hk => h
  | 9, w, w', v, h, hb, hk => h
  | 10, w, w', v, ⟨a', c', h1, h2⟩, hb, hk => ⟨a', c', h1, owns_keep h2 hk (fun z hz hx => hY z (h2.lt z hz).1 hx)⟩
  | 11, w, w', v, ⟨u', h1, h2, h3⟩, hb, hk => ⟨u', h1, owns_old h2 (hb rfl), h3⟩
  | 12, w, w', v, h, hb, hk => h
  | 13, w, w', v, h, hb, hk => h
  | _ + 14, w, w', v, h, hb, hk => h
def rsndB (W W0 p m d o n c k g : Nat) (a : Option Addr) (o1 : Option Nat) (cs xs : List Value) : Nat → World → Value → Prop
  | 0 => fun _ v => v = .pointer (some ⟨p, 0, none⟩)
  | 1 => fun _ v => v = .pointer (some ⟨p, 0, none⟩)
  | 2 => fun _ v => v = .pointer (some ⟨p, 0, none⟩)
  | 3 => fun _ v => v = .pointer (some ⟨p, 1, none⟩)
  | 4 => fun _ v => v = .slice a m d
  | 5 => fun _ v => v = .slice (some ⟨g, o, none⟩) n c
  | 6 => fun _ v => v = .int .i64 (k : Int)
  | 7 => fun _ v => v = .pointer (some ⟨g, o + k * 19, none⟩)
  | 8 => fun w v => v = .agg cs.toArray
  | 9 => fun w v => ∃ h, v = .slice (some ⟨h, 0, none⟩) 1 1 ∧ W0 ≤ h ∧ w.heap[h]? = some (.cells cs.toArray 54 (0, 0))
  | 10 => fun w v => ∃ h e, v = .slice (some ⟨h, 0, none⟩) (m + 1) e ∧ w.ownsRow W 54 19 (.slice (some ⟨h, 0, none⟩) (m + 1) e) (m + 1) (xs ++ cs) ∧ (o1 = some h ∨ W0 ≤ h)
  | 11 => fun _ v => v = .pointer (some ⟨p, 0, none⟩)
  | 12 => fun _ v => v = .pointer (some ⟨p, 1, none⟩)
  | _ => fun _ _ => False
theorem rsndB_stab {W W0 p m d o n c k g : Nat} {a : Option Addr} {o1 : Option Nat} {cs xs : List Value} (hY : ∀ k, W0 ≤ k → ¬ (o1 = some k)) : ∀ i w w' v, rsndB W W0 p m d o n c k g a o1 cs xs i w v → (i = 10 → Below w.heap.size w w') → Keep (fun k => o1 = some k) w w' → rsndB W W0 p m d o n c k g a o1 cs xs i w' v
  | 0, w, w', v, h, hb, hk => h
  | 1, w, w', v, h, hb, hk => h
  | 2, w, w', v, h, hb, hk => h
  | 3, w, w', v, h, hb, hk => h
  | 4, w, w', v, h, hb, hk => h
  | 5, w, w', v, h, hb, hk => h
  | 6, w, w', v, h, hb, hk => h
  | 7, w, w', v, h, hb, hk => h
  | 8, w, w', v, h, hb, hk => h
  | 9, w, w', v, ⟨h, h1, h2, h3⟩, hb, hk => ⟨h, h1, h2, by rw [hk.block h (blk_lt h3) (hY h h2)]; exact h3⟩
  | 10, w, w', v, ⟨h, e, h1, h2, h3⟩, hb, hk => ⟨h, e, h1, owns_old h2 (hb rfl), h3⟩
  | 11, w, w', v, h, hb, hk => h
  | 12, w, w', v, h, hb, hk => h
  | _ + 13, w, w', v, h, hb, hk => h
def RSendPost (W : Nat) (M : Nat → Prop) (p : Nat) (bad : List Int) (row : List Pk) (book : List Sg) (NB : Nat) (w : World) (r : Ending) (w' : World) : Prop := r = .returned (.tuple #[]) ∧ RPost W M p bad row book NB w w'
set_option maxHeartbeats 8000000 in
theorem rlanesend_any (W : Nat) (M : Nat → Prop) (p : Nat) (bad : List Int) (row : List Pk) (book : List Sg) (NB : Nat) (a0 : Option Addr) (n0 c0 : Nat) (L : List Pk) (w : World) (h : RLn W M w p bad row book NB) (hW : W ≤ w.heap.size) (hP : PksIn W M w a0 n0 c0 L)
    (hcp : n0 ≤ c0 ∧ c0 ≤ 9223372036854775807) (hT : ∀ y ∈ L, (termsP y.m).length * 24 ≤ 140737488355328) (hN : NB + sendN L ≤ 1048576) :
    Calls Tryz.prog 14 #[.pointer (some ⟨p, 0, none⟩), .slice a0 n0 c0] w (RSendPost W M p bad (sendR row L) (sendB book L) (NB + sendN L) w) := by
  obtain ⟨ii, hii, hz0, hz1, hz2⟩ := info_parts info_pk; have HL := Lib.hid h; have HPI := Lib.hid hP; have HTL := Lib.hid hT; have HN := Lib.hid hN; have hlen := hP.len; have hmax := hP.max; clear h hP hT hN
  go_enter Tryz.func14, Tryz.ntmps14
  go_wp2_with fail
  go_loopw [4] (fun i wr => ∃ k : Nat, k ≤ n0 ∧ i = .int .i64 k ∧ Hid (Keep M w wr) ∧ Hid (∃ M' : Nat → Prop, (∀ k, M k → M' k) ∧ (∀ k, M' k → M k ∨ w.heap.size ≤ k) ∧ RLn W M' wr p bad (sendR row (L.take k)) (sendB book (L.take k)) (NB + sendN (L.take k)))) (fun i _ => n0 - (intOf i).toNat)
  case atStart => exact ⟨0, by omega, rfl, Lib.hid (Keep.refl _ _), Lib.hid ⟨M, fun _ h => h, fun _ h => .inl h, by rw [List.take_zero, sendR_nil]; exact HL.out⟩⟩
  case round =>
    obtain ⟨k, hk, rfl, HK, HM⟩ := hrel
    by_cases hlt : k < n0
    · obtain ⟨wl, hwl⟩ : ∃ wl : World, wl = wr := ⟨_, rfl⟩
      subst hwl; obtain ⟨M1, hM1, hM2, hL1⟩ := HM.out
      obtain ⟨y, hy⟩ : ∃ y, L[k]? = some y := ⟨_, List.getElem?_eq_getElem (by omega)⟩
      obtain ⟨g, o, cs, rfl, hbM, hE, hcc⟩ := HPI.out.cell k y hy
      have hWw : W ≤ wl.heap.size := by have := HK.out.size; omega
      have hEw : Rob (fun k => W ≤ k) (fun w' => shPk.E w' y cs) wl := hE.step HK.out (fun k _ hm => HL.out.ge k hm) (fun _ _ h => h); obtain ⟨a1, n1, c1, a2, n2, c2, a3, n3, c3, a4, n4, c4, hcs, hyf, hyt, hmi⟩ := pk_open hEw.self
      have hcl19 : cs.length = 19 := by rw [hcs]; rfl
      have hone := pk_one hEw.self
      have hcw : ∀ j v, cs[j]? = some v → wl.cell? ⟨g, o + k * 19 + j, none⟩ = some v := fun j v hj => by
        rw [← hcc j v hj]
        exact World.cell?_of_block (HK.out.block g (World.block_lt (hcc j v hj)) hbM)
      have hinfo : (Tryz.prog.info? 54).map (·.size) = some cs.length := by rw [hcl19]; kernel_rfl
      have hmlen : (Tryz.prog.info? 35).map (·.size) = some (mgCs y.m a1 n1 c1 a2 n2 c2 a3 n3 c3 a4 n4 c4).length := by kernel_rfl
      have HLP0 := Lib.hid (fun (wa : World) (hb : Below wl.heap.size wl wa) => run_loadVar_mid (P := Tryz.prog) wa g (o + k * 19) 54 cs _ (fun j u hj => below_cell hb (hcw j u hj)) Tryz.underlying54 rfl hinfo)
      have HLD := Lib.hid (fun (wa : World) (hb : Below wl.heap.size wl wa) => run_loadVar_mid (P := Tryz.prog) wa g (o + k * 19 + 2) 35 _ _ (fun j u hj => by
        have h1 := hcw (j + 2) u (by rw [hcs]; simpa [pkCs] using hj); rw [show o + k * 19 + 2 + j = o + k * 19 + (j + 2) by omega]
        exact below_cell hb h1) Tryz.underlying35 rfl hmlen)
      have CT := Lib.hid (fun (wa : World) (hb : Below wl.heap.size wl wa) => rterms_any y.m a1 n1 c1 a2 n2 c2 a3 n3 c3 a4 n4 c4 wa (hmi.old hb) (HTL.out y (List.mem_of_getElem? hy)))
      unfold TermsPost at CT
      have HTO := Lib.hid (show ∀ s ∈ termsP y.m, sgOk s from terms_fine hmi); have HTy := Lib.hid (HTL.out y (List.mem_of_getElem? hy)); have hsn := sendN_snoc hy; have hsl := sendN_le (L := L) (k := k + 1); have HSB := Lib.hid (sendB_snoc (book := book) hy); have HSR := Lib.hid (sendR_snoc (row := row) hy); have hNB := HN.out
      have hgl : g < w.heap.size := by
        obtain ⟨v, hv⟩ : ∃ v, cs[0]? = some v := ⟨_, List.getElem?_eq_getElem (by omega)⟩
        exact World.block_lt (hcc 0 v hv)
      have HGM := Lib.hid (show ¬ M1 g from fun hm => (hM2 g hm).elim hbM (fun h => by omega))
      generalize hms : mgCs y.m a1 n1 c1 a2 n2 c2 a3 n3 c3 a4 n4 c4 = ms at HLD CT
      generalize hTT : termsP y.m = T at *
      generalize hrk : sendR row (L.take k) = rk at *
      generalize hbk : sendB book (L.take k) = bk at *
      generalize hnk : NB + sendN (L.take k) = Nk at *
      have hNk : Nk + T.length ≤ 1048576 := by omega
      have HNK := Lib.hid (show NB + sendN (L.take (k + 1)) = Nk + T.length by omega); have HEw := Lib.hid hEw; have HCL := Lib.hid hcl19; have HONE := Lib.hid hone; obtain ⟨ba, bn, bc, v, xs, u, hp, h2, ⟨h7, h8, h9⟩, h10, h11, h12⟩ := hL1.ex; obtain ⟨a, d, rfl⟩ := owns_form h7; obtain ⟨ua, ud, rfl⟩ := owns_form h10; have HP := Lib.hid hp; have H7w := Lib.hid h7; have H9w := Lib.hid h9; have H10 := Lib.hid h10; have HNQ := Lib.hid (show ¬ ((Value.slice ua bk.length ud).ownBlock = some p) from own_ne13 h10 hp (by decide)); have HOLN := Lib.hid (show ∀ z, wl.heap.size ≤ z → ¬ ((Value.slice ua bk.length ud).ownBlock = some z) from fun z hz hc => by have := (H10.out.lt z hc).2; omega); have hsm := hL1.small; have hcp1 := hL1.cap
      have CN := Lib.hid (fun (wa : World) (a9 : Option Addr) (c9 : Nat) (hb : Below wl.heap.size wl wa) (ho : wa.ownsRow wl.heap.size 84 2 (.slice a9 T.length c9) T.length (sigV T)) =>
        rnoted_any W (.slice ua bk.length ud) bk a9 T.length c9 T wa (owns_old H10.out hb) h12 (Nat.le_trans hWw hb.size) (fun w' hk => sl_owned (show w'.ownsRow wl.heap.size 84 2 (.slice a9 T.length c9) T.length (flatV T) from owns_keep ho hk (fun z hz hx => HOLN.out z (ho.lt z hz).1 hx)) HTO.out HTy.out) (by omega))
      have hk0 : (0 : Int) ≤ (k : Int) := by omega
      have hk1 : (k : Int) < (n0 : Int) := by omega
      have lp0 := blk_lt hp; have HY := Lib.hid hy; have HCW := Lib.hid hcw; clear hms hcs hyf hyt hmi hcw hcc hE hEw hone hmlen h7 h9 h10 hp hbM hy
      go_upto_region 3 with (fail)
      refine wp_region_kept2 14 (fun z => (Value.slice ua bk.length ud).ownBlock = some z) 11 (rsndA W wl.heap.size p bk.length o n0 c0 k ud g ua (Value.slice ua bk.length ud).ownBlock ms T bk) (fun _ _ => none) rfl (by kernel_rfl) (by kernel_rfl) (rsndA_stab HOLN.out) (fun _ _ _ _ _ h => by cases h) (fun i oo hi ho => ?_) (fun vs w9 hb7 hs hne => ?_)
      · intro ac wa hba hbs hE hF K hK
        have b7 := keep_undrew13 hba
        have hno : ∀ k, (none : Option Nat) = some k → wa.heap.size ≤ k := fun _ h => by cases h
        have z2 : wa.cell? ⟨p, 2, none⟩ = some (.slice ua bk.length ud) := by rw [blk_cell (show wa.heap[p]? = _ from (b7.block p (blk_lt HP.out) HNQ.out).trans HP.out)]; rfl
        have hi' : i = 0 ∨ i = 1 ∨ i = 2 ∨ i = 3 ∨ i = 4 ∨ i = 5 ∨ i = 6 ∨ i = 7 ∨ i = 8 ∨ i = 9 ∨ i = 10 ∨ i = 11 ∨ i = 12 ∨ i = 13 := by omega
        rcases hi' with rfl | rfl | rfl | rfl | rfl | rfl | rfl | rfl | rfl | rfl | rfl | rfl | rfl | rfl
        · obtain rfl := Option.some.inj ho
          have h1 : ac.eval (.tmp 0) = .pointer (some ⟨p, 0, none⟩) := hE 0 (by decide)
          exact news_val rfl rfl (by generalize ac.eval = ρ at h1; simp only [execOp]; go_simp) (hK _ _ (fun _ => Below.refl _ _) (Keep.refl _ _) rfl hno)
        · obtain rfl := Option.some.inj ho
          have h1 : ac.eval (.tmp 0) = .pointer (some ⟨p, 0, none⟩) := hE 0 (by decide)
          exact news_val rfl rfl (by generalize ac.eval = ρ at h1; simp only [execOp]; go_simp) (hK _ _ (fun _ => Below.refl _ _) (Keep.refl _ _) rfl hno)
        · obtain rfl := Option.some.inj ho
          have h1 : ac.eval (.tmp 12) = .pointer (some ⟨p, 0, none⟩) := hF ⟨1, .data⟩ (by simp) rfl 12 rfl
          exact news_val rfl rfl (by generalize ac.eval = ρ at h1; simp only [execOp]; go_simp) (hK _ _ (fun _ => Below.refl _ _) (Keep.refl _ _) rfl hno)
        · obtain rfl := Option.some.inj ho
          have h1 : ac.eval (.tmp 13) = .pointer (some ⟨p, 0, none⟩) := hF ⟨2, .data⟩ (by simp) rfl 13 rfl
          exact news_val rfl rfl (by generalize ac.eval = ρ at h1; simp only [execOp]; go_simp) (hK _ _ (fun _ => Below.refl _ _) (Keep.refl _ _) rfl hno)
        · obtain rfl := Option.some.inj ho
          have h1 : ac.eval (.tmp 14) = .pointer (some ⟨p, 2, none⟩) := hF ⟨3, .data⟩ (by simp) rfl 14 rfl
          exact news_val rfl rfl (by generalize ac.eval = ρ at h1; simp only [execOp]; go_simp) (hK _ _ (fun _ => Below.refl _ _) (Keep.refl _ _) rfl hno)
        · obtain rfl := Option.some.inj ho
          have h1 : ac.eval (.tmp 1) = .slice (some ⟨g, o, none⟩) n0 c0 := hE 1 (by decide)
          exact news_val rfl rfl (by generalize ac.eval = ρ at h1; simp only [execOp]; go_simp) (hK _ _ (fun _ => Below.refl _ _) (Keep.refl _ _) rfl hno)
        · obtain rfl := Option.some.inj ho
          have h1 : ac.eval (.tmp 4) = .int .i64 (k : Int) := hE 4 (by decide)
          exact news_val rfl rfl (by generalize ac.eval = ρ at h1; simp only [execOp]; go_simp) (hK _ _ (fun _ => Below.refl _ _) (Keep.refl _ _) rfl hno)
        · obtain rfl := Option.some.inj ho
          have h1 : ac.eval (.tmp 16) = .slice (some ⟨g, o, none⟩) n0 c0 := hF ⟨5, .data⟩ (by simp) rfl 16 rfl; have h2 : ac.eval (.tmp 17) = .int .i64 (k : Int) := hF ⟨6, .data⟩ (by simp) rfl 17 rfl
          exact news_val rfl rfl (by generalize ac.eval = ρ at h1 h2; simp only [execOp]; go_simp) (hK _ _ (fun _ => Below.refl _ _) (Keep.refl _ _) rfl hno)
        · obtain rfl := Option.some.inj ho
          have h1 : ac.eval (.tmp 18) = .pointer (some ⟨g, o + k * 19, none⟩) := hF ⟨7, .data⟩ (by simp) rfl 18 rfl
          exact news_val rfl rfl (by generalize ac.eval = ρ at h1; simp only [execOp]; go_simp) (hK _ _ (fun _ => Below.refl _ _) (Keep.refl _ _) rfl hno)
        · obtain rfl := Option.some.inj ho
          have h1 : ac.eval (.tmp 19) = .pointer (some ⟨g, o + k * 19 + 2, none⟩) := hF ⟨8, .data⟩ (by simp) rfl 19 rfl
          exact news_load rfl rfl 35 (.tmp 19) rfl g (o + k * 19 + 2) h1 (HLD.out wa (below_undrew (hbs (.inr (by kernel_rfl))))) (hK _ _ (fun _ => Below.refl _ _) (Keep.refl _ _) rfl hno)
        · obtain rfl := Option.some.inj ho
          obtain h1 : (ac.eval (.tmp 20)) = .agg ms.toArray := hF ⟨9, .data⟩ (by simp) rfl 20 rfl; have hf : ac.eval (.func 51) = .func (.func 51) #[] #[] := rfl
          refine made_call rfl rfl 51 #[.agg ms.toArray] (by generalize ac.eval = ρ at h1 hf; simp only [execOp]; go_simp) (CT.out wa (below_undrew (hbs (.inr (by kernel_rfl))))) ?_
          rintro r w8 ⟨b8, v8, rfl, ho8⟩
          obtain ⟨a8, c8, rfl⟩ := owns_form ho8
          exact ⟨_, rfl, hK _ _ (fun _ => b8) (Keep.of_below b8) ⟨a8, c8, rfl, owns_lower ho8 b7.size⟩ hno⟩
        · obtain rfl := Option.some.inj ho
          have h1 : ac.eval (.tmp 15) = .slice ua bk.length ud := hF ⟨4, .data⟩ (by simp) rfl 15 rfl
          obtain ⟨a9, c9, h2, ho9⟩ : ∃ a' c', (ac.eval (.tmp 21)) = .slice a' T.length c' ∧ wa.ownsRow wl.heap.size 84 2 (.slice a' T.length c') T.length (sigV T) := hF ⟨10, .data⟩ (by simp) rfl 21 rfl
          have hf : ac.eval (.func 50) = .func (.func 50) #[] #[] := rfl
          refine wpOp_step rfl fun K' hK' => step_calls rfl 50 #[.slice ua bk.length ud, .slice a9 T.length c9] (by generalize ac.eval = ρ at h1 h2 hf; simp only [execOp]; go_simp) (CN.out wa a9 c9 (below_undrew (hbs (.inl rfl))) ho9) ?_
          rintro r w8 ⟨v', rfl, ho', hor', hkk⟩
          exact ⟨_, rfl, hK' _ _ (hK _ _ (fun h => (h rfl).elim) hkk ⟨v', rfl, ho', hor'.imp id (fun ⟨z, h1, h2⟩ => ⟨z, h1, Nat.le_trans b7.size h2⟩)⟩ hno)⟩
        · obtain rfl := Option.some.inj ho
          have h1 : ac.eval (.tmp 11) = .pointer (some ⟨p, 0, none⟩) := hF ⟨0, .data⟩ (by simp) rfl 11 rfl
          exact news_val rfl rfl (by generalize ac.eval = ρ at h1; simp only [execOp]; go_simp) (hK _ _ (fun _ => Below.refl _ _) (Keep.refl _ _) rfl hno)
        · obtain rfl := Option.some.inj ho
          have h1 : ac.eval (.tmp 23) = .pointer (some ⟨p, 0, none⟩) := hF ⟨12, .data⟩ (by simp) rfl 23 rfl
          exact news_val rfl rfl (by generalize ac.eval = ρ at h1; simp only [execOp]; go_simp) (hK _ _ (fun _ => Below.refl _ _) (Keep.refl _ _) rfl hno)
      · have e0 : vs 0 = _ := hs 0 (by omega)
        have e1 : vs 1 = _ := hs 1 (by omega); have e2 : vs 2 = _ := hs 2 (by omega); have e3 : vs 3 = _ := hs 3 (by omega); have e4 : vs 4 = _ := hs 4 (by omega); have e5 : vs 5 = _ := hs 5 (by omega); have e6 : vs 6 = _ := hs 6 (by omega); have e7 : vs 7 = _ := hs 7 (by omega); have e8 : vs 8 = _ := hs 8 (by omega); obtain e9 : (vs 9) = .agg ms.toArray := hs 9 (by omega)
        obtain ⟨a9, c9, e10, ho9⟩ : ∃ a' c', (vs 10) = .slice a' T.length c' ∧ w9.ownsRow wl.heap.size 84 2 (.slice a' T.length c') T.length (sigV T) := hs 10 (by omega)
        obtain ⟨u', e11, ho11, hor11⟩ : ∃ u', (vs 11) = u' ∧ w9.ownsRow W 84 2 u' (noteP bk T).length (flatV (noteP bk T)) ∧ (u'.ownBlock = (Value.slice ua bk.length ud).ownBlock ∨ ∃ z, u'.ownBlock = some z ∧ wl.heap.size ≤ z) := hs 11 (by omega)
        have e12 : vs 12 = _ := hs 12 (by omega); have e13 : vs 13 = _ := hs 13 (by omega)
        show wpList _ _ _ _ ((((((((((((((Act.put _ (some 11) (vs 0)).put (some 12) (vs 1)).put (some 13) (vs 2)).put (some 14) (vs 3)).put (some 15) (vs 4)).put (some 16) (vs 5)).put (some 17) (vs 6)).put (some 18) (vs 7)).put (some 19) (vs 8)).put (some 20) (vs 9)).put (some 21) (vs 10)).put (some 22) (vs 11)).put (some 23) (vs 12)).put (some 24) (vs 13)) _
        rw [e0, e1, e2, e3, e4, e5, e6, e7, e8, e9, e10, e11, e12, e13]; clear e0 e1 e2 e3 e4 e5 e6 e7 e8 e9 e10 e11 e12 e13 hs hne vs; simp only [List.drop_succ_cons, List.drop_zero, List.drop_nil, Act.put, List.setIfInBounds_toArray, List.set_cons_succ, List.set_cons_zero]; obtain ⟨u8, d8, rfl⟩ := owns_form ho11; have hp9 : w9.heap[p]? = _ := (hb7.block p (blk_lt HP.out) HNQ.out).trans HP.out
        have m8 : w9.cell? ⟨p, 2, none⟩ = some (.slice ua bk.length ud) := by rw [blk_cell hp9]; rfl
        have m9 := blk_frozen hp9 2; have lp9 := blk_lt hp9
        obtain ⟨w10, hw10⟩ : ∃ u, u = w9.setCell ⟨p, 2, none⟩ (.slice u8 (noteP bk T).length d8) := ⟨_, rfl⟩
        have hp10 : w10.heap[p]? = some (.cells #[.slice ba bn bc, .slice a rk.length d, .slice u8 (noteP bk T).length d8] 61 (0, 0)) := by rw [hw10, blk_set hp9 2 _]; rfl
        have hlay : (∃ M' : Nat → Prop, (∀ k, M1 k → M' k) ∧ (∀ k, M' k → M1 k ∨ wl.heap.size ≤ k) ∧ RLn W M' w10 p bad rk (noteP bk T) (Nk + T.length)) ∧ Keep M1 wl w10 := by
          rw [hw10] at hp10 ⊢
          exact rln_lay hL1 HP.out h2 H7w.out h8 H10.out h11 (keep_mono13 hb7 (fun _ h => .inr h)) (owns_keep H7w.out hb7 (fun z hz hx => rows_ne13 H7w.out H10.out (by decide) z hz hx)) (.inr (.inl rfl)) H9w.out ho11 (hor11.imp id (fun h => h) |>.elim (fun h => .inr (.inl h)) (fun h => .inr (.inr h))) (noteP_ok h12 HTO.out) hWw hcp1 (Nat.le_trans (noteP_len bk T) (by omega)) hp10
        have hp10c : w10.cell? ⟨p, 1, none⟩ = some (.slice a rk.length d) := by rw [blk_cell hp10]; rfl
        have lp10 := blk_lt hp10; have HKM := Lib.hid hlay.2; obtain ⟨M2, g1, g2, g3⟩ := hlay.1; have HM2 := Lib.hid g3; have HG1 := Lib.hid g1; have HG2 := Lib.hid g2; have HK10 := Lib.hid (HK.out.trans (X' := M1) HKM.out (fun z hz hm => (hM2 z hm).elim id (fun h => by omega))); have HGM2 := Lib.hid (show ¬ M2 g from fun hm => (g2 g hm).elim HGM.out (fun h => by have := HK.out.size; omega)); have HE10 := Lib.hid (HEw.out.step (X' := fun k => W ≤ k) HKM.out (fun z _ hm => hL1.ge z hm) (fun _ _ h => h))
        have HLP := Lib.hid (show ∀ (wa : World), Below w10.heap.size w10 wa → (loadVar 54 ⟨g, o + k * 19, none⟩).run Tryz.prog wa = .ok (.agg cs.toArray) wa from fun wa hb => run_loadVar_mid (P := Tryz.prog) wa g (o + k * 19) 54 cs _ (fun j u hj => by
          rw [World.cell?_of_block (hb.block g (Nat.lt_of_lt_of_le hgl (Nat.le_trans HK.out.size HKM.out.size)))]; rw [World.cell?_of_block (HKM.out.block g (Nat.lt_of_lt_of_le hgl HK.out.size) HGM.out)]
          exact HCW.out j u hj) Tryz.underlying54 rfl hinfo)
        have HP10 := Lib.hid hp10; clear hp9 hp10 hp10c lp10 ho11 hor11 hb7 hlay g1 g2 g3 CN CT HLD HLP0 ho9
        go_upto_region 4 with (fail)
        rw [← hw10]; clear hw10 m8 m9 lp9
        have hp10c : w10.cell? ⟨p, 1, none⟩ = some (.slice a rk.length d) := by rw [blk_cell HP10.out]; rfl
        have lp10 := blk_lt HP10.out; have HBN := HSB
        generalize noteP bk T = bn at *
        have HWL := Lib.hid (show w.heap.size ≤ wl.heap.size ∧ wl.heap.size ≤ w10.heap.size from ⟨HK.out.size, HKM.out.size⟩); have hM1f := hM1; have hM2f := hM2
        by_cases hfull : rk.length < 4096
        · have hd : decide ((rk.length : Int) < 4096) = true := by simp; omega
          have HSP := Lib.hid (show sendR row (L.take (k + 1)) = rk ++ [y] by rw [HSR.out, if_pos hfull]); obtain ⟨ba', bn', bc', v', xs', u', hp', h2', ⟨h7', h8', h9'⟩, h10', h11', h12'⟩ := HM2.out.ex
          rw [HP10.out] at hp'
          injection hp' with hp'; injection hp' with hp'
          simp only [List.toArray_inj, Array.mk.injEq, List.cons.injEq, Value.slice.injEq] at hp'
          obtain ⟨⟨rfl, rfl, rfl⟩, rfl, rfl, _⟩ := hp'; have HP6 := HP10; have H7 := Lib.hid h7'; have HNG := Lib.hid (show ¬ ((Value.slice a rk.length d).ownBlock = some p) from own_ne13 h7' HP10.out (by decide)); have HOLN5 := Lib.hid (show ∀ z, w10.heap.size ≤ z → ¬ ((Value.slice a rk.length d).ownBlock = some z) from fun z hz hc => by have := (H7.out.lt z hc).2; omega)
          have k5 : rk.length + 1 ≤ maxLen := by unfold maxLen; omega
          have k6 : (rk.length + 1) * 232 ≤ 140737488355328 := by omega
          have hWw5 : W ≤ w10.heap.size := by have := HWL.out; omega
          have hHW := hWw5; clear h7' HKM
          go_upto_region 5 with (fail)
          clear hp10c
          refine wp_region_kept2 13 (fun z => (Value.slice a rk.length d).ownBlock = some z) 10 (rsndB W w10.heap.size p rk.length d o n0 c0 k g a (Value.slice a rk.length d).ownBlock cs xs') (fun _ _ => none) rfl (by kernel_rfl) (by kernel_rfl) (rsndB_stab HOLN5.out) (fun _ _ _ _ _ h => by cases h) (fun i oo hi ho => ?_) (fun vs w12 hb7 hs hne => ?_)
          · intro ac wa hba hbs hE hF K hK
            have b7 := keep_undrew13 hba
            have hno : ∀ k, (none : Option Nat) = some k → wa.heap.size ≤ k := fun _ h => by cases h
            have z1 : wa.cell? ⟨p, 1, none⟩ = some (.slice a rk.length d) := by rw [blk_cell (show wa.heap[p]? = _ from (b7.block p (blk_lt HP6.out) HNG.out).trans HP6.out)]; rfl
            have hi' : i = 0 ∨ i = 1 ∨ i = 2 ∨ i = 3 ∨ i = 4 ∨ i = 5 ∨ i = 6 ∨ i = 7 ∨ i = 8 ∨ i = 9 ∨ i = 10 ∨ i = 11 ∨ i = 12 := by omega
            rcases hi' with rfl | rfl | rfl | rfl | rfl | rfl | rfl | rfl | rfl | rfl | rfl | rfl | rfl
            · obtain rfl := Option.some.inj ho
              have h1 : ac.eval (.tmp 0) = .pointer (some ⟨p, 0, none⟩) := hE 0 (by decide)
              exact news_val rfl rfl (by generalize ac.eval = ρ at h1; simp only [execOp]; go_simp) (hK _ _ (fun _ => Below.refl _ _) (Keep.refl _ _) rfl hno)
            · obtain rfl := Option.some.inj ho
              have h1 : ac.eval (.tmp 0) = .pointer (some ⟨p, 0, none⟩) := hE 0 (by decide)
              exact news_val rfl rfl (by generalize ac.eval = ρ at h1; simp only [execOp]; go_simp) (hK _ _ (fun _ => Below.refl _ _) (Keep.refl _ _) rfl hno)
            · obtain rfl := Option.some.inj ho
              have h1 : ac.eval (.tmp 32) = .pointer (some ⟨p, 0, none⟩) := hF ⟨1, .data⟩ (by simp) rfl 32 rfl
              exact news_val rfl rfl (by generalize ac.eval = ρ at h1; simp only [execOp]; go_simp) (hK _ _ (fun _ => Below.refl _ _) (Keep.refl _ _) rfl hno)
            · obtain rfl := Option.some.inj ho
              have h1 : ac.eval (.tmp 33) = .pointer (some ⟨p, 0, none⟩) := hF ⟨2, .data⟩ (by simp) rfl 33 rfl
              exact news_val rfl rfl (by generalize ac.eval = ρ at h1; simp only [execOp]; go_simp) (hK _ _ (fun _ => Below.refl _ _) (Keep.refl _ _) rfl hno)
            · obtain rfl := Option.some.inj ho
              have h1 : ac.eval (.tmp 34) = .pointer (some ⟨p, 1, none⟩) := hF ⟨3, .data⟩ (by simp) rfl 34 rfl
              exact news_val rfl rfl (by generalize ac.eval = ρ at h1; simp only [execOp]; go_simp) (hK _ _ (fun _ => Below.refl _ _) (Keep.refl _ _) rfl hno)
            · obtain rfl := Option.some.inj ho
              have h1 : ac.eval (.tmp 1) = .slice (some ⟨g, o, none⟩) n0 c0 := hE 1 (by decide)
              exact news_val rfl rfl (by generalize ac.eval = ρ at h1; simp only [execOp]; go_simp) (hK _ _ (fun _ => Below.refl _ _) (Keep.refl _ _) rfl hno)
            · obtain rfl := Option.some.inj ho
              have h1 : ac.eval (.tmp 4) = .int .i64 (k : Int) := hE 4 (by decide)
              exact news_val rfl rfl (by generalize ac.eval = ρ at h1; simp only [execOp]; go_simp) (hK _ _ (fun _ => Below.refl _ _) (Keep.refl _ _) rfl hno)
            · obtain rfl := Option.some.inj ho
              have h1 : ac.eval (.tmp 36) = .slice (some ⟨g, o, none⟩) n0 c0 := hF ⟨5, .data⟩ (by simp) rfl 36 rfl; have h2 : ac.eval (.tmp 37) = .int .i64 (k : Int) := hF ⟨6, .data⟩ (by simp) rfl 37 rfl
              exact news_val rfl rfl (by generalize ac.eval = ρ at h1 h2; simp only [execOp]; go_simp) (hK _ _ (fun _ => Below.refl _ _) (Keep.refl _ _) rfl hno)
            · obtain rfl := Option.some.inj ho
              have h1 : ac.eval (.tmp 38) = .pointer (some ⟨g, o + k * 19, none⟩) := hF ⟨7, .data⟩ (by simp) rfl 38 rfl
              exact news_load rfl rfl 54 (.tmp 38) rfl g (o + k * 19) h1 (HLP.out wa (below_undrew (hbs (.inr (by kernel_rfl))))) (hK _ _ (fun _ => Below.refl _ _) (Keep.refl _ _) rfl hno)
            · obtain rfl := Option.some.inj ho
              obtain h1 : (ac.eval (.tmp 39)) = .agg cs.toArray := hF ⟨8, .data⟩ (by simp) rfl 39 rfl
              exact news_val rfl rfl (build_pk1 _ _ (.tmp 39) rfl cs HCL.out h1 wa) (hK _ _ (fun _ => below_alloc _ _) (Keep.of_below (below_alloc _ _)) ⟨wa.heap.size, rfl, b7.size, blk_alloc _ _⟩ hno)
            · obtain rfl := Option.some.inj ho
              have h1 : ac.eval (.tmp 35) = .slice a rk.length d := hF ⟨4, .data⟩ (by simp) rfl 35 rfl
              obtain ⟨gb, h2, hgb, hbb⟩ : ∃ h, (ac.eval (.tmp 40)) = .slice (some ⟨h, 0, none⟩) 1 1 ∧ w10.heap.size ≤ h ∧ wa.heap[h]? = some (.cells cs.toArray 54 (0, 0)) := hF ⟨9, .data⟩ (by simp) rfl 40 rfl
              refine wpOp_step rfl fun K' hK' => ?_
              refine step_append_lies _ rfl (.tmp 35) (.tmp 40) 46 rfl W 54 ii (.agg zeroPk.toArray) 19 232 Tryz.underlying46 hii hz0 hz1 hz2 rfl (by decide) (.slice a rk.length d) rk.length xs' h1 (owns_old H7.out (below_undrew (hbs (.inl rfl)))) ⟨gb, 0, none⟩ 1 1 cs h2 (by rw [HCL.out]) (World.news_of_block hbb) HONE.out (by decide) k5 k6 (Nat.le_trans hWw5 b7.size) _ rfl ?_
              intro g8 cap8 w8 hown8 hg8 hor8 hlt8
              exact hK' _ _ (hK _ _ (fun h => (h rfl).elim) ((Keep.refl _ wa).grown hg8 (fun k hk => .inr hk)) ⟨_, _, rfl, hown8, hor8.elim .inl (fun h => .inr (by have := b7.size; omega))⟩ hno)
            · obtain rfl := Option.some.inj ho
              have h1 : ac.eval (.tmp 31) = .pointer (some ⟨p, 0, none⟩) := hF ⟨0, .data⟩ (by simp) rfl 31 rfl
              exact news_val rfl rfl (by generalize ac.eval = ρ at h1; simp only [execOp]; go_simp) (hK _ _ (fun _ => Below.refl _ _) (Keep.refl _ _) rfl hno)
            · obtain rfl := Option.some.inj ho
              have h1 : ac.eval (.tmp 42) = .pointer (some ⟨p, 0, none⟩) := hF ⟨11, .data⟩ (by simp) rfl 42 rfl
              exact news_val rfl rfl (by generalize ac.eval = ρ at h1; simp only [execOp]; go_simp) (hK _ _ (fun _ => Below.refl _ _) (Keep.refl _ _) rfl hno)
          · have e0 : vs 0 = _ := hs 0 (by omega)
            have e1 : vs 1 = _ := hs 1 (by omega); have e2 : vs 2 = _ := hs 2 (by omega); have e3 : vs 3 = _ := hs 3 (by omega); have e4 : vs 4 = _ := hs 4 (by omega); have e5 : vs 5 = _ := hs 5 (by omega); have e6 : vs 6 = _ := hs 6 (by omega); have e7 : vs 7 = _ := hs 7 (by omega); obtain e8 : (vs 8) = .agg cs.toArray := hs 8 (by omega)
            obtain ⟨gb, e9, hgb, hbb⟩ : ∃ h, (vs 9) = .slice (some ⟨h, 0, none⟩) 1 1 ∧ w10.heap.size ≤ h ∧ w12.heap[h]? = some (.cells cs.toArray 54 (0, 0)) := hs 9 (by omega)
            obtain ⟨g8, c8, e10, ho8, hor8⟩ : ∃ h e, (vs 10) = .slice (some ⟨h, 0, none⟩) (rk.length + 1) e ∧ w12.ownsRow W 54 19 (.slice (some ⟨h, 0, none⟩) (rk.length + 1) e) (rk.length + 1) (xs' ++ cs) ∧ ((Value.slice a rk.length d).ownBlock = some h ∨ w10.heap.size ≤ h) := hs 10 (by omega)
            have e11 : vs 11 = _ := hs 11 (by omega); have e12 : vs 12 = _ := hs 12 (by omega)
            show wpList _ _ _ _ (((((((((((((Act.put _ (some 31) (vs 0)).put (some 32) (vs 1)).put (some 33) (vs 2)).put (some 34) (vs 3)).put (some 35) (vs 4)).put (some 36) (vs 5)).put (some 37) (vs 6)).put (some 38) (vs 7)).put (some 39) (vs 8)).put (some 40) (vs 9)).put (some 41) (vs 10)).put (some 42) (vs 11)).put (some 43) (vs 12)) _
            rw [e0, e1, e2, e3, e4, e5, e6, e7, e8, e9, e10, e11, e12]; clear e0 e1 e2 e3 e4 e5 e6 e7 e8 e9 e10 e11 e12 hs hne vs; simp only [List.drop_succ_cons, List.drop_zero, List.drop_nil, Act.put, List.setIfInBounds_toArray, List.set_cons_succ, List.set_cons_zero]; have hp12 : w12.heap[p]? = _ := (hb7.block p (blk_lt HP6.out) HNG.out).trans HP6.out
            have m8 : w12.cell? ⟨p, 1, none⟩ = some (.slice a rk.length d) := by rw [blk_cell hp12]; rfl
            have m9 := blk_frozen hp12 1; have lp12 := blk_lt hp12; have hlay5 := rln_lay (o := 1) (x := .slice (some ⟨g8, 0, none⟩) (rk.length + 1) c8) (row' := rk ++ [y]) (book' := bn) (NB' := Nk + T.length) (v' := .slice (some ⟨g8, 0, none⟩) (rk.length + 1) c8) (u' := .slice u8 bn.length d8) HM2.out HP10.out h2' H7.out h8' h10' h11' (keep_mono13 hb7 (fun _ h => .inl h)) (by rw [List.length_append]; exact ho8) (hor8.elim (fun h => .inr (.inl h.symm)) (fun h => .inr (.inr ⟨g8, rfl, h⟩))) (h9'.snoc HCL.out HE10.out) (owns_keep h10' hb7 (fun z hz hx => rows_ne13 h10' H7.out (by decide) z hz hx)) (.inr (.inl rfl)) h12' hHW (by rw [List.length_append]; simp; omega) HM2.out.small (by rw [blk_set hp12 1 _]; rfl); obtain ⟨⟨M3, f1, f2, f3⟩, f4⟩ := hlay5
            have HMF := Lib.hid (show ∃ M'' : Nat → Prop, (∀ z, M z → M'' z) ∧ (∀ z, M'' z → M z ∨ w.heap.size ≤ z) ∧ RLn W M'' (w12.setCell ⟨p, 1, none⟩ (.slice (some ⟨g8, 0, none⟩) (rk.length + 1) c8)) p bad (sendR row (L.take (k + 1))) (sendB book (L.take (k + 1))) (NB + sendN (L.take (k + 1))) from
              ⟨M3, fun z hz => f1 z (HG1.out z (hM1f z hz)), fun z hz => (f2 z hz).elim (fun h => (HG2.out z h).elim (hM2f z) (fun h => .inr (by have := HWL.out; omega))) (fun h => .inr (by have := HWL.out; omega)), by rw [HSP.out, HBN.out, HNK.out]; exact f3⟩)
            have HKF := Lib.hid (show Keep M w (w12.setCell ⟨p, 1, none⟩ (.slice (some ⟨g8, 0, none⟩) (rk.length + 1) c8)) from HK10.out.trans (X' := M2) f4 (fun z hz h => (HG2.out z h).elim (fun h => (hM2f z h).elim id (fun h => by omega)) (fun h => by have := HWL.out; omega))); clear f1 f2 f3 f4 hp12 ho8 hor8 hbb hgb hb7
            go_wp2_with fail
            go_roundw
            case rel => exact ⟨k + 1, by omega, by go_num, HKF, HMF⟩
            case measure => simp [intOf]; omega
        · have hd : decide ((rk.length : Int) < 4096) = false := by simp; omega
          have HSP := Lib.hid (show sendR row (L.take (k + 1)) = rk by rw [HSR.out, if_neg hfull])
          have HMF := Lib.hid (show ∃ M'' : Nat → Prop, (∀ z, M z → M'' z) ∧ (∀ z, M'' z → M z ∨ w.heap.size ≤ z) ∧ RLn W M'' w10 p bad (sendR row (L.take (k + 1))) (sendB book (L.take (k + 1))) (NB + sendN (L.take (k + 1))) from
            ⟨M2, fun z hz => HG1.out z (hM1f z hz), fun z hz => (HG2.out z hz).elim (hM2f z) (fun h => .inr (by have := HWL.out; omega)), by rw [HSP.out, HBN.out, HNK.out]; exact HM2.out⟩)
          go_wp2_with fail
          go_roundw
          case rel => exact ⟨k + 1, by omega, by go_num, HK10, HMF⟩
          case measure => simp [intOf]; omega
    · obtain rfl : k = n0 := by omega
      have hd : decide ((k : Int) < (k : Int)) = false := by simp
      have HF := Lib.hid (show RSendPost W M p bad (sendR row L) (sendB book L) (NB + sendN L) w (.returned (.tuple #[])) wr from ⟨rfl, HK.out, by
        have h := HM.out
        rw [List.take_of_length_le (by omega)] at h
        exact h⟩)
      go_wp2_with fail
      go_end0
      exact HF.out
end Go.Proofs.YtijeieamodjgbaaGreat
namespace Go.Proofs.YtijeieamodjgbaaGreat
set_option maxRecDepth 100000
open Go.RowKit Go.Deep
set_option linter.unusedVariables false
set_option linter.unusedSimpArgs false
def LP (w : World) (p q : Nat) (bad : List Int) (rp : List Pk) (bp : List Sg) (NP : Nat) (rq : List Pk) (bq : List Sg) (NQ : Nat) (bx : List (Nat × Obj)) (wr : World) : Prop :=
  ∃ M M' NB, (Ln w.heap.size M wr p bad rp bp NB ∧ NB ≤ NP) ∧ RLn w.heap.size M' wr q bad rq bq NQ ∧ (∀ k, M k → ¬ M' k) ∧ Below w.heap.size w wr ∧ ∀ z ∈ bx, wr.heap[z.1]? = some z.2 ∧ ¬ M z.1 ∧ ¬ M' z.1
section
variable {w wr w' : World} {p q : Nat} {bad : List Int} {rp rq : List Pk} {bp bq : List Sg} {NP NQ : Nat} {bx : List (Nat × Obj)}
theorem heap_lt2 {w : World} {k : Nat} {o : Obj} (h : w.heap[k]? = some o) : k < w.heap.size := by
  rcases Nat.lt_or_ge k w.heap.size with h1 | h1
  · exact h1
  · rw [Array.getElem?_eq_none h1] at h; cases h
theorem LP.below (h : LP w p q bad rp bp NP rq bq NQ bx wr) : Below w.heap.size w wr := by
  obtain ⟨M, M', NB, h1, h2, h3, h4, h5⟩ := h
  exact h4
theorem LP.stepP {M M' M1 : Nat → Prop} {NB NB' NP' : Nat} {rp' : List Pk} {bp' : List Sg} (h1 : Ln w.heap.size M wr p bad rp bp NB) (h2 : RLn w.heap.size M' wr q bad rq bq NQ) (h3 : ∀ k, M k → ¬ M' k) (h4 : Below w.heap.size w wr) (h5 : ∀ z ∈ bx, wr.heap[z.1]? = some z.2 ∧ ¬ M z.1 ∧ ¬ M' z.1)
    (hk : Keep M wr w') (hM : ∀ k, M1 k → M k ∨ wr.heap.size ≤ k) (hL : Ln w.heap.size M1 w' p bad rp' bp' NB') (hN : NB' ≤ NP') : LP w p q bad rp' bp' NP' rq bq NQ bx w' :=
  ⟨M1, M', NB', ⟨hL, hN⟩, h2.keep hk (fun k hm => ⟨h3 k hm, h1.ge k hm⟩), fun k hm hm' => (hM k hm).elim (fun h => h3 k h hm') (fun h => by have := h2.lt k hm'; omega), hk.below h4 h1.ge, fun z hz => by
    obtain ⟨g1, g2, g3⟩ := h5 z hz
    exact ⟨(hk.block _ (heap_lt2 g1) g2).trans g1, fun hm => (hM _ hm).elim g2 (fun h => by have := heap_lt2 g1; omega), g3⟩⟩
theorem LP.stepQ {M M' : Nat → Prop} {NB NQ' : Nat} {rq' : List Pk} {bq' : List Sg} (h1 : Ln w.heap.size M wr p bad rp bp NB) (hN : NB ≤ NP) (h2 : RLn w.heap.size M' wr q bad rq bq NQ) (h3 : ∀ k, M k → ¬ M' k) (h4 : Below w.heap.size w wr) (h5 : ∀ z ∈ bx, wr.heap[z.1]? = some z.2 ∧ ¬ M z.1 ∧ ¬ M' z.1)
    (h : RPost w.heap.size M' q bad rq' bq' NQ' wr w') : LP w p q bad rp bp NP rq' bq' NQ' bx w' := by
  obtain ⟨hk, M1, hM0, hM, hL⟩ := h
  exact ⟨M, M1, NB, ⟨h1.keep hk (fun k hm => ⟨fun hm' => h3 k hm' hm, h2.ge k hm⟩), hN⟩, hL, fun k hm hm' => (hM k hm').elim (h3 k hm) (fun h => by have := h1.lt k hm; omega), hk.below h4 h2.ge, fun z hz => by
    obtain ⟨g1, g2, g3⟩ := h5 z hz
    exact ⟨(hk.block _ (heap_lt2 g1) g3).trans g1, g2, fun hm => (hM _ hm).elim g3 (fun h => by have := heap_lt2 g1; omega)⟩⟩
theorem LP.old (h : LP w p q bad rp bp NP rq bq NQ bx wr) (hb : Below wr.heap.size wr w') : LP w p q bad rp bp NP rq bq NQ bx w' := by
  obtain ⟨M, M', NB, ⟨h1, h2⟩, h3, h4, h5, h6⟩ := h
  exact ⟨M, M', NB, ⟨h1.old hb, h2⟩, h3.old hb, h4, bthen h5 hb, fun z hz => ⟨(hb.block _ (heap_lt2 (h6 z hz).1)).trans (h6 z hz).1, (h6 z hz).2⟩⟩
theorem LP.mono {NP' NQ' : Nat} (h : LP w p q bad rp bp NP rq bq NQ bx wr) (hP : NP ≤ NP') (hQ : NQ ≤ NQ') : LP w p q bad rp bp NP' rq bq NQ' bx wr := by
  obtain ⟨M, M', NB, ⟨h1, h2⟩, h3, h4, h5, h6⟩ := h
  exact ⟨M, M', NB, ⟨h1, by omega⟩, h3.mono hQ, h4, h5, h6⟩
theorem LP.nobox (h : LP w p q bad rp bp NP rq bq NQ bx wr) : LP w p q bad rp bp NP rq bq NQ [] wr := by
  obtain ⟨M, M', NB, h1, h3, h4, h5, h6⟩ := h
  exact ⟨M, M', NB, h1, h3, h4, h5, fun z hz => by cases hz⟩
theorem LP.box (h : LP w p q bad rp bp NP rq bq NQ bx wr) (hb : Below wr.heap.size wr w') {b : Nat} {o : Obj} (hq : wr.heap.size ≤ b) (ho : w'.heap[b]? = some o) : LP w p q bad rp bp NP rq bq NQ ((b, o) :: bx) w' := by
  obtain ⟨M, M', NB, ⟨h1, h2⟩, h3, h4, h5, h6⟩ := h
  refine ⟨M, M', NB, ⟨h1.old hb, h2⟩, h3.old hb, h4, bthen h5 hb, fun z hz => ?_⟩
  rcases List.mem_cons.1 hz with rfl | hz
  · exact ⟨ho, fun hm => by have := h1.lt _ hm; omega, fun hm => by have := h3.lt _ hm; omega⟩
  · exact ⟨(hb.block _ (heap_lt2 (h6 z hz).1)).trans (h6 z hz).1, (h6 z hz).2⟩
theorem LP.at (h : LP w p q bad rp bp NP rq bq NQ bx wr) {b : Nat} {o : Obj} (hz : (b, o) ∈ bx) : wr.heap[b]? = some o := by
  obtain ⟨M, M', NB, h1, h3, h4, h5, h6⟩ := h
  exact (h6 _ hz).1
theorem LP.cap (h : LP w p q bad rp bp NP rq bq NQ bx wr) : rp.length ≤ 4096 := by
  obtain ⟨M, M', NB, ⟨h1, h2⟩, h3, h4, h5, h6⟩ := h
  exact h1.cap
theorem LP.rowQ (h : LP w p q bad rp bp NP rq bq NQ bx wr) (hN : NQ ≤ 1048576) : ∃ ba bn bc a c u d, wr.heap[q]? = some (.cells #[.slice ba bn bc, .slice a rq.length c, .slice u bq.length d] 61 (0, 0)) := by
  obtain ⟨M, M', NB, ⟨h1, h2⟩, h3, h4, h5, h6⟩ := h; obtain ⟨ba, bn, bc, a, c, u, d, hq, _⟩ := h3.view hN
  exact ⟨ba, bn, bc, a, c, u, d, hq⟩
theorem LP.lenP (h : LP w p q bad rp bp NP rq bq NQ bx wr) : Calls Tryz.prog 25 #[.pointer (some ⟨p, 0, none⟩)] wr fun r w' => r = .returned (.int .i64 rp.length) ∧ wr = w' := by
  obtain ⟨M, M', NB, ⟨h1, h2⟩, h3, h4, h5, h6⟩ := h
  exact lanelen_any w.heap.size M p bad rp bp NB wr h1
theorem LP.sendP (h : LP w p q bad rp bp NP rq bq NQ bx wr) {a : Option Addr} {n c : Nat} {L : List Pk} (hs : SlAt shPk w a n c L) (hT : ∀ y ∈ L, (termsP y.m).length * 24 ≤ 140737488355328) (hN : NP + sendN L < 4611686018427387904) :
    Calls Tryz.prog 13 #[.pointer (some ⟨p, 0, none⟩), .slice a n c] wr fun r w' => r = .returned (.tuple #[]) ∧ LP w p q bad (sendR rp L) (sendB bp L) (NP + sendN L) rq bq NQ bx w' := by
  obtain ⟨M, M', NB, ⟨h1, h2⟩, h3, h4, h5, h6⟩ := h
  refine (lanesend_any w.heap.size M p bad rp bp NB a n c L wr h1 h5.size (pks_in h5 h1.ge hs) hT (by omega)).mono ?_
  rintro r w' ⟨g1, hk, M1, hM1, hM2, hL⟩
  exact ⟨g1, LP.stepP h1 h3 h4 h5 h6 hk hM2 hL (by omega)⟩
theorem LP.sendQ (h : LP w p q bad rp bp NP rq bq NQ bx wr) {a : Option Addr} {n c : Nat} {L : List Pk} (hs : SlAt shPk w a n c L) (hT : ∀ y ∈ L, (termsP y.m).length * 24 ≤ 140737488355328) (hN : NQ + sendN L ≤ 1048576) :
    Calls Tryz.prog 14 #[.pointer (some ⟨q, 0, none⟩), .slice a n c] wr fun r w' => r = .returned (.tuple #[]) ∧ LP w p q bad rp bp NP (sendR rq L) (sendB bq L) (NQ + sendN L) bx w' := by
  obtain ⟨M, M', NB, ⟨h1, h2⟩, h3, h4, h5, h6⟩ := h
  refine (rlanesend_any w.heap.size M' q bad rq bq NQ a n c L wr h3 h5.size (pks_in h5 h3.ge hs) ⟨hs.cap, hs.max⟩ hT hN).mono ?_
  rintro r w' ⟨g1, g2⟩
  exact ⟨g1, LP.stepQ h1 h2 h3 h4 h5 h6 g2⟩
theorem LP.injectP (h : LP w p q bad rp bp NP rq bq NQ bx wr) {y : Pk} {cs : List Value} (hE : shPk.E w y cs) (hT : (termsP y.m).length * 24 ≤ 140737488355328) (hN : NP < 4611686018427387904) :
    Calls Tryz.prog 15 #[.pointer (some ⟨p, 0, none⟩), .agg cs.toArray] wr fun r w' => r = .returned (.int .i64 (injE bad rp bp y)) ∧ LP w p q bad (injR bad rp bp y) bp NP rq bq NQ bx w' := by
  obtain ⟨M, M', NB, ⟨h1, h2⟩, h3, h4, h5, h6⟩ := h
  refine (laneinject_any w.heap.size M p bad rp bp NB y cs wr h1 h5.size (rob_old (w := w) (fun w' hb' => shPk.old hE hb') (Keep.of_below h5) (fun k hk => hk)) hT (by omega)).mono ?_
  rintro r w' ⟨g1, hk, M1, hM1, hM2, hL⟩
  exact ⟨g1, LP.stepP h1 h3 h4 h5 h6 hk hM2 hL h2⟩
theorem LP.injectQ (h : LP w p q bad rp bp NP rq bq NQ bx wr) {y : Pk} {cs : List Value} (hE : shPk.E w y cs) (hT : (termsP y.m).length * 24 ≤ 140737488355328) (hN : NQ ≤ 1048576) :
    Calls Tryz.prog 17 #[.pointer (some ⟨q, 0, none⟩), .agg cs.toArray] wr fun r w' => r = .returned (.int .i64 (injE bad rq bq y)) ∧ LP w p q bad rp bp NP (injR bad rq bq y) bq NQ bx w' := by
  obtain ⟨M, M', NB, ⟨h1, h2⟩, h3, h4, h5, h6⟩ := h
  refine (rlaneinject_any w.heap.size M' q bad rq bq NQ y cs wr h3 h5.size (rob_old (w := w) (fun w' hb' => shPk.old hE hb') (Keep.of_below h5) (fun k hk => hk)) hT hN).mono ?_
  rintro r w' ⟨g1, g2⟩
  exact ⟨g1, LP.stepQ h1 h2 h3 h4 h5 h6 g2⟩
theorem LP.dropP (h : LP w p q bad rp bp NP rq bq NQ bx wr) {n : Int} (hn : i64 n) :
    Calls Tryz.prog 21 #[.pointer (some ⟨p, 0, none⟩), .int .i64 n] wr fun r w' => r = .returned (.bool (decide (0 < rp.length))) ∧ LP w p q bad (takeR rp n) bp NP rq bq NQ bx w' := by
  obtain ⟨M, M', NB, ⟨h1, h2⟩, h3, h4, h5, h6⟩ := h
  refine (lanedrop_any w.heap.size M p bad rp bp NB n wr h1 hn h5.size).mono ?_
  rintro r w' ⟨g1, hk, M1, hM1, hM2, hL⟩
  exact ⟨g1, LP.stepP h1 h3 h4 h5 h6 hk hM2 hL h2⟩
theorem LP.dropQ (h : LP w p q bad rp bp NP rq bq NQ bx wr) {n : Int} (hn : i64 n) (hN : NQ ≤ 1048576) :
    Calls Tryz.prog 22 #[.pointer (some ⟨q, 0, none⟩), .int .i64 n] wr fun r w' => r = .returned (.bool (decide (0 < rq.length))) ∧ LP w p q bad rp bp NP (takeR rq n) bq NQ bx w' := by
  obtain ⟨M, M', NB, ⟨h1, h2⟩, h3, h4, h5, h6⟩ := h
  refine (rlanedrop_any w.heap.size M' q bad rq bq NQ n wr h3 hn h5.size hN).mono ?_
  rintro r w' ⟨g1, g2⟩
  exact ⟨g1, LP.stepQ h1 h2 h3 h4 h5 h6 g2⟩
theorem LP.copyP (h : LP w p q bad rp bp NP rq bq NQ bx wr) {n : Int} (hn : i64 n) :
    Calls Tryz.prog 23 #[.pointer (some ⟨p, 0, none⟩), .int .i64 n] wr fun r w' => r = .returned (.bool (decide (0 < rp.length) && decide (rp.length < 4096))) ∧ LP w p q bad (copyR rp n) bp NP rq bq NQ bx w' := by
  obtain ⟨M, M', NB, ⟨h1, h2⟩, h3, h4, h5, h6⟩ := h
  refine (lanecopy_any w.heap.size M p bad rp bp NB n wr h1 hn h5.size).mono ?_
  rintro r w' ⟨g1, hk, M1, hM1, hM2, hL⟩
  exact ⟨g1, LP.stepP h1 h3 h4 h5 h6 hk hM2 hL h2⟩
theorem LP.copyQ (h : LP w p q bad rp bp NP rq bq NQ bx wr) {n : Int} (hn : i64 n) (hN : NQ ≤ 1048576) :
    Calls Tryz.prog 24 #[.pointer (some ⟨q, 0, none⟩), .int .i64 n] wr fun r w' => r = .returned (.bool (decide (0 < rq.length) && decide (rq.length < 4096))) ∧ LP w p q bad rp bp NP (copyR rq n) bq NQ bx w' := by
  obtain ⟨M, M', NB, ⟨h1, h2⟩, h3, h4, h5, h6⟩ := h
  refine (rlanecopy_any w.heap.size M' q bad rq bq NQ n wr h3 hn h5.size hN).mono ?_
  rintro r w' ⟨g1, g2⟩
  exact ⟨g1, LP.stepQ h1 h2 h3 h4 h5 h6 g2⟩
theorem LP.takeP (h : LP w p q bad rp bp NP rq bq NQ bx wr) {n : Int} (hn : i64 n) :
    Calls Tryz.prog 18 #[.pointer (some ⟨p, 0, none⟩), .int .i64 n] wr fun r w' => (∃ cs : List Value, r = .returned (.tuple #[.agg cs.toArray, .bool (decide (0 < rp.length))]) ∧ cs.length = 19 ∧ cs.toArray.all (·.oneCell') = true ∧ Rob (fun k => w.heap.size ≤ k) (fun w' => shPk.E w' (takeV rp n) cs) w') ∧ LP w p q bad (takeR rp n) bp NP rq bq NQ bx w' := by
  obtain ⟨M, M', NB, ⟨h1, h2⟩, h3, h4, h5, h6⟩ := h
  refine (lanetake_any w.heap.size M p bad rp bp NB n wr h1 hn h5.size).mono ?_
  rintro r w' ⟨hk, M1, hM1, hM2, hr⟩
  cases hy : rp[plc n rp.length]? with
  | none =>
    rw [hy] at hr
    obtain ⟨g6, g7⟩ := hr
    have h0 : rp = [] := by
      rcases Nat.eq_zero_or_pos rp.length with h0 | h0
      · exact List.eq_nil_of_length_eq_zero h0
      · rw [List.getElem?_eq_getElem (plc_lt h0)] at hy; cases hy
    subst h0
    exact ⟨⟨zeroPk, g6, rfl, by simp [zeroPk, Value.oneCell'], fun w' _ => pkZ_E w'⟩, LP.stepP h1 h3 h4 h5 h6 hk hM2 g7 h2⟩
  | some y =>
    rw [hy] at hr
    obtain ⟨⟨cs, g6, g8⟩, g7⟩ := hr
    have hl : decide (0 < rp.length) = true := by
      have := (List.getElem?_eq_some_iff.1 hy).1
      simp; omega
    have hv : takeV rp n = y := by unfold takeV; rw [hy]; rfl
    exact ⟨⟨cs, by rw [hl]; exact g6, shPk.len g8.self, all_oneCell_toArray (pk_one g8.self), by rw [hv]; exact g8⟩, LP.stepP h1 h3 h4 h5 h6 hk hM2 g7 h2⟩
theorem LP.takeQ (h : LP w p q bad rp bp NP rq bq NQ bx wr) {n : Int} (hn : i64 n) (hN : NQ ≤ 1048576) :
    Calls Tryz.prog 19 #[.pointer (some ⟨q, 0, none⟩), .int .i64 n] wr fun r w' => (∃ cs : List Value, r = .returned (.tuple #[.agg cs.toArray, .bool (decide (0 < rq.length))]) ∧ cs.length = 19 ∧ cs.toArray.all (·.oneCell') = true ∧ Rob (fun k => w.heap.size ≤ k) (fun w' => shPk.E w' (takeV rq n) cs) w') ∧ Keep (fun k => w.heap.size ≤ k) wr w' ∧ LP w p q bad rp bp NP (takeR rq n) bq NQ bx w' := by
  obtain ⟨M, M', NB, ⟨h1, h2⟩, h3, h4, h5, h6⟩ := h
  refine (rlanetake_any w.heap.size M' q bad rq bq NQ n wr h3 hn h5.size hN).mono ?_
  rintro r w' ⟨g1, g2⟩
  exact ⟨g1, keep_mono13 g2.1 (fun k hk => h3.ge k hk), LP.stepQ h1 h2 h3 h4 h5 h6 g2⟩
theorem lp_new {a : Option Addr} {n c : Nat} (hs : SlAt Sh.int w a n c bad) (h : LS w p bad [] [] 0 wr) : Calls Tryz.prog 11 #[.slice a n c] wr fun r w' => ∃ q, r = .returned (.pointer (some ⟨q, 0, none⟩)) ∧ LP w p q bad [] [] 0 [] [] 0 [] w' := by
  obtain ⟨M, NB, h1, h2, h3⟩ := h
  refine (rlanenew_any w.heap.size a n c bad wr h3.size (hs.old h3)).mono ?_
  rintro r w' ⟨g1, M', q, rfl, g2, g3⟩
  exact ⟨q, rfl, M, M', NB, ⟨h1.old g1, h2⟩, g3, fun k hm hm' => by have := h1.lt k hm; have := g2 k hm'; omega, bthen h3 g1, fun z hz => by cases hz⟩
end
end Go.Proofs.YtijeieamodjgbaaGreat
