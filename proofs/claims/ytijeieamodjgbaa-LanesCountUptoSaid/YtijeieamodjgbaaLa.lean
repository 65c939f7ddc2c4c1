
/- Lanes: packets and lanes in memory. No walk yet but of New, full, Len. -/
import Derived.Test.YtijeieamodjgbaaWt
import Derived.Test.YtijeieamodjgbaaLd
import Derived.Test.YtijeieamodjgbaaBk
import Derived.Test.YtijeieamodjgbaaKp
import Derived.Laws.IdiomCopy
namespace Go.Proofs.Ytijeieamodjgbaa
set_option maxRecDepth 100000
open Go.RowKit Go.Deep
set_option linter.unusedVariables false
set_option linter.unusedSimpArgs false

/-- A packet: from whom, to whom, the message. -/
structure Pk where
  fr : Int
  tt : Int
  m : Mg
def shPk : Sh Pk := ((Sh.int.pair (Sh.int.pair shMsg)).bytes 232).map fun y => (y.fr, y.tt, y.m)
theorem vwPk : Vw Try.prog 56 shPk := vw_map _ (fun y => ⟨y.1, y.2.1, y.2.2⟩) (fun _ => rfl) (vw_struct Try.underlying56 (fsv_cons vwInt (fsv_cons vwInt (fsv_one vwMsg) rfl) rfl) (by kernel_rfl) (by kernel_rfl))
theorem vwPks : Vw Try.prog 50 shPk.slice := vw_slice Try.underlying50 (by kernel_rfl) (by kernel_rfl) vwPk (by decide) (by decide)
def pkCs (y : Pk) (a1 : Option Addr) (n1 c1 : Nat) (a2 : Option Addr) (n2 c2 : Nat) (a3 : Option Addr) (n3 c3 : Nat) (a4 : Option Addr) (n4 c4 : Nat) : List Value := .int .i64 y.fr :: .int .i64 y.tt :: mgCs y.m a1 n1 c1 a2 n2 c2 a3 n3 c3 a4 n4 c4
theorem pk_open {w : World} {y : Pk} {cs : List Value} (h : shPk.E w y cs) : ∃ a1 n1 c1 a2 n2 c2 a3 n3 c3 a4 n4 c4, cs = pkCs y a1 n1 c1 a2 n2 c2 a3 n3 c3 a4 n4 c4 ∧ i64 y.fr ∧ i64 y.tt ∧ MsgIn w y.m a1 n1 c1 a2 n2 c2 a3 n3 c3 a4 n4 c4 := by
  obtain ⟨_, _, rfl, ⟨rfl, h1⟩, _, _, rfl, ⟨rfl, h2⟩, h3⟩ := h
  obtain ⟨a1, n1, c1, a2, n2, c2, a3, n3, c3, a4, n4, c4, rfl, h4⟩ := msg_open h3
  exact ⟨a1, n1, c1, a2, n2, c2, a3, n3, c3, a4, n4, c4, rfl, h1, h2, h4⟩
theorem pk_one {w : World} {y : Pk} {cs : List Value} (h : shPk.E w y cs) : ∀ u ∈ cs, u.oneCell' = true := by
  obtain ⟨a1, n1, c1, a2, n2, c2, a3, n3, c3, a4, n4, c4, rfl, _⟩ := pk_open h
  intro u hu
  simp only [pkCs, mgCs, List.mem_cons, List.not_mem_nil, or_false] at hu
  rcases hu with rfl | rfl | rfl | rfl | rfl | rfl | rfl | rfl | rfl | rfl | rfl | rfl | rfl | rfl | rfl | rfl | rfl | rfl | rfl <;> rfl
section
variable {α : Type} {S : Sh α} {X : Nat → Prop} {w : World}
theorem rowOf.all {Q : Value → Prop} (hS : ∀ y cs, S.E w y cs → ∀ u ∈ cs, Q u) : ∀ {l : List α} {xs : List Value}, rowOf S X w l xs → ∀ u ∈ xs, Q u
  | [], xs, h, u, hu => by rw [show xs = [] from h] at hu; cases hu
  | y :: r, xs, ⟨cs, xs', he, _, hr, h⟩, u, hu => by
    rw [he, List.mem_append] at hu
    rcases hu with hu | hu
    · exact hS y cs hr.self u hu
    · exact rowOf.all hS h u hu
theorem rowOf.erase : ∀ {l : List α} {xs : List Value} {k : Nat}, rowOf S X w l xs → k < l.length → rowOf S X w (l.eraseIdx k) (xs.take (k * S.k) ++ xs.drop ((k + 1) * S.k))
  | y :: r, xs, 0, ⟨cs, xs', he, hc, hr, h⟩, _ => by
    rw [he, Nat.zero_mul, List.take_zero, List.nil_append, Nat.zero_add, Nat.one_mul, List.drop_append_of_le_length (by omega), List.drop_of_length_le (by omega), List.nil_append]
    exact h
  | y :: r, xs, k + 1, ⟨cs, xs', he, hc, hr, h⟩, hk => by
    have ih := rowOf.erase h (k := k) (by simpa using hk)
    refine ⟨cs, _, ?_, hc, hr, ih⟩
    rw [he, List.take_append, List.drop_append, List.take_of_length_le (by rw [hc, Nat.add_mul]; omega), List.drop_of_length_le (l := cs) (by rw [hc, Nat.add_mul, Nat.add_mul]; omega), List.nil_append, hc, List.append_assoc,
      show (k + 1) * S.k - S.k = k * S.k by rw [Nat.add_mul]; omega, show (k + 1 + 1) * S.k - S.k = (k + 1) * S.k by simp only [Nat.add_mul]; omega]
end

/-- A lane: who is bad, what is under way, what was signed; its memory is M, all from W on. -/
structure Ln (W : Nat) (M : Nat → Prop) (w : World) (p : Nat) (bad : List Int) (row : List Pk) (book : List Sg) (NB : Nat) : Prop where
  lt : ∀ k, M k → k < w.heap.size
  ge : ∀ k, M k → W ≤ k
  mine : M p
  cap : row.length ≤ 4096
  ex : ∃ ba bn bc v xs pb m N, w.heap[p]? = some (.cells #[.slice ba bn bc, v, .pointer (some ⟨pb, 0, none⟩)] 137 (0, 0)) ∧
    (w.ownsRow W 3 1 (.slice ba bn bc) bn (intsV bad) ∧ bad.length = bn ∧ (∀ x ∈ bad, i64 x) ∧ bn * 8 ≤ 140737488355328 ∧ ∀ k, (Value.slice ba bn bc).ownBlock = some k → M k) ∧
    (w.ownsRow W 56 19 v row.length xs ∧ (∀ k, v.ownBlock = some k → M k) ∧ rowOf shPk (fun k => W ≤ k) w row xs) ∧ BookAt w pb m book N ∧ N ≤ NB ∧ M pb ∧ M m
theorem Ln.keep {W : Nat} {M Y : Nat → Prop} {w w' : World} {p : Nat} {bad : List Int} {row : List Pk} {book : List Sg} {NB : Nat} (h : Ln W M w p bad row book NB) (hk : Keep Y w w') (hY : ∀ k, Y k → ¬ M k ∧ W ≤ k) : Ln W M w' p bad row book NB := by
  obtain ⟨ba, bn, bc, v, xs, pb, m, N, h1, ⟨h2, h3, h4, h5, h6⟩, ⟨h7, h8, h9⟩, h10, h11, h12, h13⟩ := h.ex
  exact ⟨fun k hm => Nat.lt_of_lt_of_le (h.lt k hm) hk.size, h.ge, h.mine, h.cap, ba, bn, bc, v, xs, pb, m, N, by rw [hk.block p (blk_lt h1) (fun hy => (hY p hy).1 h.mine)]; exact h1, ⟨owns_keep h2 hk (fun k hk' hy => (hY k hy).1 (h6 k hk')), h3, h4, h5, h6⟩,
    ⟨owns_keep h7 hk (fun k hk' hy => (hY k hy).1 (h8 k hk')), h8, h9.step hk (fun k _ hy => (hY k hy).2) (fun _ _ h => h)⟩, h10.keep hk (fun hy => (hY _ hy).1 h12) (fun hy => (hY _ hy).1 h13), h11, h12, h13⟩
theorem Ln.old {W : Nat} {M : Nat → Prop} {w w' : World} {p : Nat} {bad : List Int} {row : List Pk} {book : List Sg} {NB : Nat} (h : Ln W M w p bad row book NB) (hb : Below w.heap.size w w') : Ln W M w' p bad row book NB := h.keep (Y := fun _ => False) (Keep.of_below hb) (fun _ h => h.elim)
def LNewPost (W : Nat) (bad : List Int) (w : World) (r : Ending) (w' : World) : Prop := Below w.heap.size w w' ∧ ∃ M p, r = .returned (.pointer (some ⟨p, 0, none⟩)) ∧ (∀ k, M k → w.heap.size ≤ k) ∧ Ln W M w' p bad [] [] 0

set_option maxHeartbeats 1000000 in
theorem lanenew_any (W : Nat) (a : Option Addr) (n c : Nat) (bad : List Int) (w : World) (hW : W ≤ w.heap.size) (h : SlAt Sh.int w a n c bad) :
    Calls Try.prog 22 #[.slice a n c] w (LNewPost W bad w) := by
  have HI := Lib.hid h
  have hn : a = none → c = 0 ∧ n = 0 := fun hn => ⟨h.nil hn, by have := h.nil hn; have := h.cap; omega⟩
  have hby := h.bytes
  clear h
  go_enter Try.func22, Try.ntmps22
  go_wp2_with fail
  refine (clone_ints a n c bad w (ints_of_sl HI.out) hn hby).mono ?_
  rintro r w1 ⟨v, rfl, ho, b1⟩
  obtain ⟨a1, c1, rfl⟩ := owns_form ho
  have HO := Lib.hid ho; have B1 := Lib.hid b1
  clear ho b1
  go_wp2_with fail
  refine (bnew_any w1).mono ?_
  rintro r w2 ⟨rfl, hbk, b2⟩
  have HB := Lib.hid hbk; have B2 := Lib.hid b2
  clear hbk b2
  have HP := Lib.hid (show LNewPost W bad w (.returned (.pointer (some ⟨w2.heap.size, 0, none⟩))) (w2.alloc (.cells #[.slice a1 n c1, .slice none 0 0, .pointer (some ⟨w1.heap.size + 1, 0, none⟩)] 137 (0, 0))) from by
    have ba := below_alloc w2 (.cells #[.slice a1 n c1, .slice none 0 0, .pointer (some ⟨w1.heap.size + 1, 0, none⟩)] 137 (0, 0))
    have hz := World.size_alloc w2 (.cells #[.slice a1 n c1, .slice none 0 0, .pointer (some ⟨w1.heap.size + 1, 0, none⟩)] 137 (0, 0))
    have hl := HB.out.lt
    have h1 := B1.out.size
    have h2 := B2.out.size
    refine ⟨bthen (bthen B1.out B2.out) ba, fun k => k = w2.heap.size ∨ k = w1.heap.size + 1 ∨ k = w1.heap.size ∨ (Value.slice a1 n c1).ownBlock = some k, w2.heap.size, rfl, fun k hk => ?_, ⟨fun k hk => ?_, fun k hk => ?_, .inl rfl, by decide, a1, n, c1, .slice none 0 0, [], w1.heap.size + 1, w1.heap.size, 0, blk_alloc _ _,
      ⟨owns_lower (owns_old (owns_old HO.out B2.out) ba) hW, HI.out.len, (ints_of_sl HI.out).fit, hby, fun k hk => .inr (.inr (.inr hk))⟩, ⟨World.ownsRow_nil _ _ _ _, fun k hk => (by cases hk), rfl⟩, HB.out.old ba, Nat.le_refl _, .inr (.inl rfl), .inr (.inr (.inl rfl))⟩⟩
    · rcases hk with rfl | rfl | rfl | hk
      · omega
      · omega
      · omega
      · exact (HO.out.lt k hk).1
    · rcases hk with rfl | rfl | rfl | hk
      · omega
      · omega
      · omega
      · have := (HO.out.lt k hk).2; omega
    · rcases hk with rfl | rfl | rfl | hk
      · omega
      · omega
      · omega
      · have := (HO.out.lt k hk).1; omega)
  go_wp2_with fail
  go_ret
  exact HP.out

/-- What a read of a lane meets. -/
theorem Ln.view {W : Nat} {M : Nat → Prop} {w : World} {p : Nat} {bad : List Int} {row : List Pk} {book : List Sg} {NB : Nat} (h : Ln W M w p bad row book NB) :
    ∃ ba bn bc a c pb, w.heap[p]? = some (.cells #[.slice ba bn bc, .slice a row.length c, .pointer (some ⟨pb, 0, none⟩)] 137 (0, 0)) ∧ SlAt Sh.int w ba bn bc bad ∧ SlAt shPk w a row.length c row := by
  obtain ⟨ba, bn, bc, v, xs, pb, m, N, h1, ⟨h2, h3, h4, h5, h6⟩, ⟨h7, h8, h9⟩, h10, h11, h12, h13⟩ := h.ex
  obtain ⟨a, c, rfl⟩ := owns_form h7
  have hcp := h.cap
  exact ⟨ba, bn, bc, a, c, pb, h1, ints_row h2 h3 h4 h5, sl_of_row (B := W) (e := 56) (xs := xs) h7 h9 (by show row.length * 232 ≤ _; omega)⟩
set_option maxHeartbeats 400000 in
theorem full_any (W : Nat) (M : Nat → Prop) (p : Nat) (bad : List Int) (row : List Pk) (book : List Sg) (NB : Nat) (w : World) (h : Ln W M w p bad row book NB) :
    Calls Try.prog 75 #[.pointer (some ⟨p, 0, none⟩)] w fun r w' => r = .returned (.bool (decide (4096 ≤ row.length))) ∧ w = w' := by
  obtain ⟨ba, bn, bc, a, c, pb, hp, _⟩ := h.view
  have x1 : w.cell? ⟨p, 1, none⟩ = some (.slice a row.length c) := by rw [blk_cell hp]; rfl
  have lp := blk_lt hp
  have HD := Lib.hid (show decide ((4096 : Int) ≤ (row.length : Int)) = decide (4096 ≤ row.length) from decide_eq_decide.2 (by omega))
  clear hp h
  generalize row.length = n at *
  go_enter Try.func75, Try.ntmps75
  go_wp2_with fail
  go_ret
  exact ⟨by rw [← HD.out]; rfl, rfl⟩
set_option maxHeartbeats 400000 in
theorem lanelen_any (W : Nat) (M : Nat → Prop) (p : Nat) (bad : List Int) (row : List Pk) (book : List Sg) (NB : Nat) (w : World) (h : Ln W M w p bad row book NB) :
    Calls Try.prog 27 #[.pointer (some ⟨p, 0, none⟩)] w fun r w' => r = .returned (.int .i64 row.length) ∧ w = w' := by
  obtain ⟨ba, bn, bc, a, c, pb, hp, _⟩ := h.view
  have x1 : w.cell? ⟨p, 1, none⟩ = some (.slice a row.length c) := by rw [blk_cell hp]; rfl
  have lp := blk_lt hp
  clear hp h
  generalize row.length = n at *
  go_enter Try.func27, Try.ntmps27
  go_wp2_with fail
  go_ret
  exact ⟨rfl, rfl⟩
end Go.Proofs.Ytijeieamodjgbaa

/- Lanes: what a packet more and a packet less leave; walk of at, Take. -/
namespace Go.Proofs.Ytijeieamodjgbaa
set_option maxRecDepth 100000
open Go.RowKit Go.Deep
set_option linter.unusedVariables false
set_option linter.unusedSimpArgs false
attribute [local go_sem] run_store_float

theorem own_ne13 {w : World} {B e s n g : Nat} {v : Value} {xs : List Value} {cs : Array Value} {t : TypeId} {fr : Nat × Nat} (h : w.ownsRow B e s v n xs) (hg : w.heap[g]? = some (.cells cs t fr)) (hne : e ≠ t) : v.ownBlock ≠ some g := fun hk => by
  rcases h.2 with ⟨h0, _⟩ | ⟨g', cap, cur, h0, _, hg', _⟩
  · rw [h0] at hk; cases hk
  · rw [h0] at hk
    have h1 : g' = g := by simpa [Value.ownBlock] using hk
    rw [h1, hg] at hg'
    injection hg' with hg'
    injection hg' with _ hg' _
    exact hne hg'.symm
theorem own_map13 {w : World} {B e s n p m : Nat} {v : Value} {xs : List Value} {l : List Sg} {N : Nat} (h : w.ownsRow B e s v n xs) (hb : BookAt w p m l N) : v.ownBlock ≠ some m := fun hk => by
  obtain ⟨_, _, ⟨es, clock, hm, _⟩, _⟩ := hb.mp
  rcases h.2 with ⟨h0, _⟩ | ⟨g', cap, cur, h0, _, hg', _⟩
  · rw [h0] at hk; cases hk
  · rw [h0] at hk
    have h1 : g' = m := by simpa [Value.ownBlock] using hk
    rw [h1, hm] at hg'
    cases hg'
theorem blk_map13 {w : World} {p m q : Nat} {l : List Sg} {N : Nat} {cs : Array Value} {t : TypeId} {fr : Nat × Nat} (hq : w.heap[q]? = some (.cells cs t fr)) (hb : BookAt w p m l N) : q ≠ m := fun hk => by
  obtain ⟨_, _, ⟨es, clock, hm, _⟩, _⟩ := hb.mp
  rw [hk, hm] at hq
  cases hq
theorem rows_ne13 {w : World} {B B' e e' s s' n n' : Nat} {v v' : Value} {xs xs' : List Value} (h : w.ownsRow B e s v n xs) (h' : w.ownsRow B' e' s' v' n' xs') (hne : e ≠ e') : ∀ k, v.ownBlock = some k → v'.ownBlock ≠ some k := fun k hk hk' => by
  rcases h'.2 with ⟨h0', _⟩ | ⟨g', cap', cur', h0', _, hg', _⟩
  · rw [h0'] at hk'; cases hk'
  · rw [h0'] at hk'
    have h2 : g' = k := by simpa [Value.ownBlock] using hk'
    rw [h2] at hg'
    exact own_ne13 h hg' hne hk
theorem keep_mono13 {X Y : Nat → Prop} {w w' : World} (h : Keep X w w') (hX : ∀ k, X k → Y k) : Keep Y w w' := ⟨h.os, h.tape, h.output, h.size, fun k hk hy => h.block k hk (fun hx => hy (hX k hx))⟩
/-- Another row is laid into the lane: its own block as before, or new. -/
theorem ln_row {W : Nat} {M : Nat → Prop} {w w8 : World} {p : Nat} {bad : List Int} {row row' : List Pk} {book : List Sg} {NB : Nat} {xs' : List Value} {ba a : Option Addr} {bn bc c pb m N : Nat} {xs : List Value} {v' : Value}
    (h : Ln W M w p bad row book NB) (h1 : w.heap[p]? = some (.cells #[.slice ba bn bc, .slice a row.length c, .pointer (some ⟨pb, 0, none⟩)] 137 (0, 0)))
    (h2 : w.ownsRow W 3 1 (.slice ba bn bc) bn (intsV bad) ∧ bad.length = bn ∧ (∀ x ∈ bad, i64 x) ∧ bn * 8 ≤ 140737488355328 ∧ ∀ k, (Value.slice ba bn bc).ownBlock = some k → M k)
    (h7 : w.ownsRow W 56 19 (.slice a row.length c) row.length xs) (h8 : ∀ k, (Value.slice a row.length c).ownBlock = some k → M k) (h10 : BookAt w pb m book N) (h11 : N ≤ NB) (h12 : M pb) (h13 : M m)
    (hk : Keep (fun k => (Value.slice a row.length c).ownBlock = some k) w w8) (ho : w8.ownsRow W 56 19 v' row'.length xs') (hor : v'.ownBlock = none ∨ v'.ownBlock = (Value.slice a row.length c).ownBlock ∨ ∃ k, v'.ownBlock = some k ∧ w.heap.size ≤ k)
    (hr : rowOf shPk (fun k => W ≤ k) w row' xs') (hW : W ≤ w.heap.size) (hcap : row'.length ≤ 4096) :
    (∃ M' : Nat → Prop, (∀ k, M k → M' k) ∧ (∀ k, M' k → M k ∨ w.heap.size ≤ k) ∧ Ln W M' (w8.setCell ⟨p, 1, none⟩ v') p bad row' book NB) ∧ Keep M w (w8.setCell ⟨p, 1, none⟩ v') := by
  have hpl := blk_lt h1
  have hp8 : w8.heap[p]? = _ := (hk.block p hpl (own_ne13 h7 h1 (by decide))).trans h1
  have K9 : Keep (fun k => k = p ∨ (Value.slice a row.length c).ownBlock = some k) w (w8.setCell ⟨p, 1, none⟩ v') :=
    (show Keep (fun k => k = p ∨ (Value.slice a row.length c).ownBlock = some k) w w8 from ⟨hk.os, hk.tape, hk.output, hk.size, fun k hkk hx => hk.block k hkk (fun hc => hx (.inr hc))⟩).set (p := p) (.inr (.inl rfl)) 1 v'
  have hz : (w8.setCell ⟨p, 1, none⟩ v').heap.size = w8.heap.size := by simp [World.setCell]
  have k2 := blk_set hp8 1 v'
  simp only [List.setIfInBounds_toArray, List.set_cons_zero, List.set_cons_succ] at k2
  have hge : ∀ k, k = p ∨ (Value.slice a row.length c).ownBlock = some k → W ≤ k := fun k hk => by
    rcases hk with rfl | hk
    · exact h.ge _ h.mine
    · exact h.ge _ (h8 k hk)
  refine ⟨⟨fun k => M k ∨ v'.ownBlock = some k, fun k hk => .inl hk, fun k hk => ?_, ⟨fun k hk => ?_, fun k hk => ?_, .inl h.mine, hcap, ba, bn, bc, v', xs', pb, m, N, k2, ⟨?_, h2.2.1, h2.2.2.1, h2.2.2.2.1, fun k hk => .inl (h2.2.2.2.2 k hk)⟩, ⟨?_, fun k hk => .inr hk, ?_⟩, ?_, h11, .inl h12, .inl h13⟩⟩, ?_⟩
  · rcases hk with hk | hk
    · exact .inl hk
    · rcases hor with h0 | h0 | ⟨g, h0, hg⟩
      · rw [h0] at hk; cases hk
      · exact .inl (h8 k (by rw [← h0]; exact hk))
      · rw [h0] at hk; injection hk with hk; exact .inr (by omega)
  · rw [hz]
    rcases hk with hk | hk
    · have := h.lt k hk; have := K9.size; omega
    · exact (ho.lt k hk).2
  · rcases hk with hk | hk
    · exact h.ge k hk
    · exact (ho.lt k hk).1
  · exact owns_keep h2.1 K9 (fun k hk' hx => by
      rcases hx with rfl | hx
      · exact own_ne13 h2.1 h1 (by decide) hk'
      · exact rows_ne13 h2.1 h7 (by decide) k hk' hx)
  · exact owns_setother ho (own_ne13 ho hp8 (by decide)) _ _
  · exact hr.step K9 (fun k _ hy => hge k hy) (fun _ _ h => h)
  · exact h10.keep K9 (fun hx => by
      rcases hx with hx | hx
      · have := h10.box; rw [hx, h1] at this; injection this with this; injection this with _ this _; revert this; decide
      · exact own_ne13 h7 h10.box (by decide) hx) (fun hx => by
      rcases hx with hx | hx
      · exact blk_map13 h1 h10 hx.symm
      · exact own_map13 h7 h10 hx)
  · exact keep_mono13 K9 (fun k hk => by
      rcases hk with rfl | hk
      · exact h.mine
      · exact h8 k hk)

/-- The place of the packet n. -/
def plc (n : Int) (s : Nat) : Nat := (n % (s : Int)).toNat
theorem plc_lt {n : Int} {s : Nat} (h : 0 < s) : plc n s < s := by
  have h1 := Int.emod_nonneg n (show (s : Int) ≠ 0 by omega)
  have h2 := Int.emod_lt_of_pos n (show (0 : Int) < s by omega)
  unfold plc; omega
theorem plc_rem {n : Int} {s : Nat} (h : 0 < s) : (n.tmod (s : Int) + (s : Int)).tmod (s : Int) = (plc n s : Int) := by
  have h1 := Int.emod_nonneg n (show (s : Int) ≠ 0 by omega)
  have h2 := Int.emod_lt_of_pos n (show (0 : Int) < s by omega)
  have h3 : n.tmod (s : Int) = n % (s : Int) ∨ n.tmod (s : Int) = n % (s : Int) - (s : Int) := by
    rw [Int.tmod_eq_emod]
    split
    · exact .inl (by omega)
    · exact .inr (by omega)
  have h4 : (plc n s : Int) = n % (s : Int) := by unfold plc; omega
  rw [h4]
  rcases h3 with h3 | h3
  · rw [h3, Int.tmod_eq_emod_of_nonneg (by omega), Int.add_emod_right, Int.emod_emod_of_dvd _ (Int.dvd_refl _)]
  · rw [h3, Int.sub_add_cancel, Int.tmod_eq_emod_of_nonneg h1, Int.emod_emod_of_dvd _ (Int.dvd_refl _)]

set_option maxHeartbeats 1000000 in
theorem laneat_nil (n : Int) (w : World) : Calls Try.prog 76 #[.pointer none, .int .i64 n] w fun r w' => r = .returned (.tuple #[.int .i64 0, .bool false]) ∧ w = w' := by
  go_enter Try.func76, Try.ntmps76
  go_wp2_with fail
  go_ret2
  exact ⟨rfl, rfl⟩
set_option maxHeartbeats 1000000 in
theorem laneat_any (W : Nat) (M : Nat → Prop) (p : Nat) (bad : List Int) (row : List Pk) (book : List Sg) (NB : Nat) (n : Int) (w : World) (h : Ln W M w p bad row book NB) (hn : i64 n) :
    Calls Try.prog 76 #[.pointer (some ⟨p, 0, none⟩), .int .i64 n] w fun r w' => r = .returned (if row.length = 0 then .tuple #[.int .i64 0, .bool false] else .tuple #[.int .i64 (plc n row.length), .bool true]) ∧ w = w' := by
  obtain ⟨ba, bn, bc, a, c, pb, hp, _⟩ := h.view
  have x1 : w.cell? ⟨p, 1, none⟩ = some (.slice a row.length c) := by rw [blk_cell hp]; rfl
  have lp := blk_lt hp
  have hcap := h.cap
  clear hp h
  generalize row.length = s at *
  by_cases hs : s = 0
  · subst hs
    have hz : ((0 : Int) == 0) = true := rfl
    rw [if_pos rfl]
    go_enter Try.func76, Try.ntmps76
    go_wp2_with fail
    go_ret2
    exact ⟨rfl, rfl⟩
  · have hz : ((s : Int) == 0) = false := by simp; omega
    have hz2 : ¬ (s : Int) = 0 := by omega
    have hb := Int.tmod_eq_emod (a := n) (b := (s : Int))
    have h1 := Int.emod_nonneg n (show (s : Int) ≠ 0 by omega)
    have h2 := Int.emod_lt_of_pos n (show (0 : Int) < s by omega)
    have h3 : -(s : Int) ≤ n.tmod (s : Int) ∧ n.tmod (s : Int) ≤ (s : Int) := by rw [hb]; split <;> omega
    have HR := Lib.hid (show (wrap64 (n.tmod (s : Int) + (s : Int))).tmod (s : Int) = (plc n s : Int) by rw [show wrap64 (n.tmod (s : Int) + (s : Int)) = n.tmod (s : Int) + (s : Int) from IntWalk.wrap64_in _ (by omega)]; exact plc_rem (by omega))
    clear hb h1 h2 h3
    rw [if_neg hs]
    go_enter Try.func76, Try.ntmps76
    go_wp2_with fail
    go_ret2
    exact ⟨by rw [HR.out]; rfl, rfl⟩
end Go.Proofs.Ytijeieamodjgbaa

/- A struct of many cells, stored and loaded at once: run equations to lay ahead of a walk. No program in sight. -/
namespace Go.Proofs.Ytijeieamodjgbaa
set_option maxRecDepth 100000
open Go.RowKit
set_option linter.unusedVariables false
set_option linter.unusedSimpArgs false

theorem st_var {P : Program} {T t : TypeId} {n : Nat} (hs : ∀ w, (sizeOf T).run P w = .ok n w) {w : World} {b : Nat} {cur : Array Value} (vs : List Value) (h : w.heap[b]? = some (.cells cur t (0, 0))) (hl : cur.size = n) (hv : vs.length = n) (h1 : ∀ u ∈ vs, u.oneCell' = true) :
    (storeVar T ⟨b, 0, none⟩ (.agg vs.toArray)).run P w = .ok () (w.setCells b 0 vs) := by
  have hst := run_storeCells_cells (P := P) b 0 vs 0 w (fun j hj => by rw [blk_cell h, Option.isSome_iff_exists]; exact ⟨_, Array.getElem?_eq_getElem (by omega)⟩) (fun j hj => blk_frozen h _) h1
  simp only [Nat.add_zero] at hst
  have hc : (Value.agg vs.toArray).cells = vs.toArray := rfl
  have hn : ¬ (Value.agg vs.toArray).cells.size ≠ n := by rw [hc]; simp [hv]
  simp only [storeVar, Sem.run_bind, hs, Result.andThen_ok, hc, List.size_toArray, hv, ne_eq, not_true_eq_false, if_false, Sem.run_pure]
  exact hst
theorem ld_from {P : Program} {w : World} {b o : Nat} : ∀ (vs : List Value) (i : Nat) (acc : Array Value), (∀ j v, vs[j]? = some v → w.cell? ⟨b, o + i + j, none⟩ = some v) → (loadCellsFrom ⟨b, o, none⟩ i vs.length acc).run P w = .ok (acc ++ vs.toArray) w
  | [], i, acc, h => by simp [loadCellsFrom]
  | v :: r, i, acc, h => by
    have h0 := h 0 v rfl
    have ih := ld_from r (i + 1) (acc.push v) (P := P) (w := w) (b := b) (o := o) (fun j u hj => by have := h (j + 1) u (by simpa using hj); rw [show o + (i + 1) + j = o + i + (j + 1) by omega]; exact this)
    have hadd : (⟨b, o, none⟩ : Addr).add i = ⟨b, o + i, none⟩ := Addr.add_lit ..
    have h0' : w.cell? ⟨b, o + i, none⟩ = some v := by simpa using h0
    have hl : (load (⟨b, o + i, none⟩ : Addr)).run P w = .ok v w := by rw [run_load, h0']
    rw [List.length_cons, loadCellsFrom]
    simp only [Sem.run_bind, hadd, hl, Result.andThen_ok, ih]
    simp
theorem ld_var {P : Program} {T : TypeId} {n : Nat} (hs : ∀ w, (sizeOf T).run P w = .ok n w) (ha : ∀ w, (isAgg T).run P w = .ok true w) {w : World} {b o : Nat} (vs : List Value) (hv : vs.length = n) (hc : ∀ j v, vs[j]? = some v → w.cell? ⟨b, o + j, none⟩ = some v) :
    (loadVar T ⟨b, o, none⟩).run P w = .ok (.agg vs.toArray) w := by
  have h := ld_from (P := P) (w := w) (b := b) (o := o) vs 0 #[] (fun j v hj => hc j v hj)
  simp only [loadVar, Sem.run_bind, ha, Result.andThen_ok, if_true, hs, loadCells, Sem.run_pure]
  rw [← hv]
  simp [h]
end Go.Proofs.Ytijeieamodjgbaa
