
/- Blocks that keep their shape; walk of spoil. -/
import Derived.Test.YtdeomokhjmnfhaaSa
namespace Go.Proofs.Ytdeomokhjmnfhaa
open Go.RowKit
set_option linter.unusedVariables false

/-- Each block of cells has kept its type, its mark and its size. -/
def Shp (w w' : World) : Prop := ∀ (k : Nat) cs t fr, w.heap[k]? = some (.cells cs t fr) → ∃ cs', w'.heap[k]? = some (.cells cs' t fr) ∧ cs'.size = cs.size
theorem Shp.refl (w : World) : Shp w w := fun k cs t fr h => ⟨cs, h, rfl⟩
theorem Shp.trans {w w1 w2 : World} (h : Shp w w1) (h2 : Shp w1 w2) : Shp w w2 := fun k cs t fr hk => by
  obtain ⟨cs1, h1, h3⟩ := h k cs t fr hk
  obtain ⟨cs2, h4, h5⟩ := h2 k cs1 t fr h1
  exact ⟨cs2, h4, h5.trans h3⟩
theorem Shp.of_below {w w' : World} (h : Below w.heap.size w w') : Shp w w' := fun k cs t fr hk => ⟨cs, blk_below hk h, rfl⟩
theorem Shp.set (w : World) (p o : Nat) (v : Value) : Shp w (w.setCell ⟨p, o, none⟩ v) := fun k cs t fr hk => by
  by_cases hp : k = p
  · subst hp; exact ⟨_, blk_set hk o v, by simp⟩
  · exact ⟨cs, blk_set_other hk p o v hp, rfl⟩
theorem ownw_shp {w w' : World} {e B n : Nat} {ao : Option Addr} (h : OwnW w e B ao n) (hs : Shp w w') : OwnW w' e B ao n := by
  rcases h with h | ⟨g, cur, h1, h2, h3, h4⟩
  · exact .inl h
  · obtain ⟨cs', h5, h6⟩ := hs g _ _ _ h3
    exact .inr ⟨g, cs', h1, h2, h5, by omega⟩
theorem owns_ownws {w : World} {B e n n' c s : Nat} {ao : Option Addr} {xs : List Value} (h : w.ownsRow B e s (.slice ao n' c) n xs) : OwnW w e B ao (n * s) := by
  rcases h.2 with ⟨_, h0⟩ | ⟨g, cap, cur, hv, hB, hg, hn, _, hs, _⟩
  · exact .inl (by rw [h0]; simp)
  · injection hv with h1
    exact .inr ⟨g, cur, h1, hB, hg, by rw [hs]; exact Nat.mul_le_mul_right _ hn⟩
/-- What holds whatever is done to X owns no block of X. -/
theorem rob_apart {X : Nat → Prop} {w : World} {B e s n : Nat} {v : Value} {xs : List Value} (h : Rob X (fun w' => w'.ownsRow B e s v n xs) w) : ∀ k, v.ownBlock = some k → ¬ X k := fun k hk hx => by
  have h0 := h.self
  rcases h0.2 with ⟨rfl, _⟩ | ⟨g, cap, cur, rfl, hb, hg, _⟩
  · cases hk
  · have hgk : g = k := by simpa [Value.ownBlock] using hk
    subst hgk
    have hlt := blk_lt hg
    have hK : Keep X w { w with heap := w.heap.set g (.cells cur (e + 1) (0, 0)) hlt } := ⟨rfl, rfl, rfl, by simp, fun j hj hjx => by
      have hne : g ≠ j := fun hc => hjx (hc ▸ hx)
      simp [hne]⟩
    rcases (h _ hK).2 with ⟨hv, _⟩ | ⟨g', cap', cur', hv, _, hg', _⟩
    · cases hv
    · injection hv with h1
      injection h1 with h1
      injection h1 with h1
      subst h1
      simp at hg'

/-- The blocks of two slices. -/
def two (a sa : Option Addr) : Nat → Prop := fun k => a = some ⟨k, 0, none⟩ ∨ sa = some ⟨k, 0, none⟩

set_option maxHeartbeats 1000000 in
theorem spoil_any (B : Nat) (e : Int) (a : Option Addr) (n c : Nat) (sa : Option Addr) (sn sc : Nat) (w : World) (h1 : OwnW w 3 B a n) (h2 : OwnW w 62 B sa (sn * 2)) (hn : n ≤ 9223372036854775807) (hsn : sn ≤ 9223372036854775807)
    (hl1 : ∀ k, a = some ⟨k, 0, none⟩ → k < w.heap.size) (hl2 : ∀ k, sa = some ⟨k, 0, none⟩ → k < w.heap.size) :
    Calls Try.prog 23 #[.agg #[.int .i64 e, .slice a n c, .slice sa sn sc]] w fun r w' => r = .returned (.tuple #[]) ∧ Keep (two a sa) w w' ∧ Shp w w' := by
  obtain ⟨wa, hwa⟩ : ∃ wa, wa = w.alloc (.cells #[.int .i64 e, .slice a n c, .slice sa sn sc] 27) := ⟨_, rfl⟩
  have ba : Below w.heap.size w wa := by rw [hwa]; exact below_alloc _ _
  have kx : wa.heap[w.heap.size]? = some (.cells #[.int .i64 e, .slice a n c, .slice sa sn sc] 27 (0, 0)) := by rw [hwa]; exact blk_alloc _ _
  have H1 := Lib.hid (ownw_shp h1 (.of_below ba)); have H2 := Lib.hid (ownw_shp h2 (.of_below ba))
  have BA := Lib.hid ba; have KX := Lib.hid kx
  have HL := Lib.hid (show ¬ two a sa w.heap.size from fun hc => by
    rcases hc with hc | hc
    · have := hl1 _ hc; omega
    · have := hl2 _ hc; omega)
  have HK0 := Lib.hid (Keep.refl (two a sa) wa)
  have HS0 := Lib.hid (Shp.refl wa)
  clear h1 h2 ba kx hl1 hl2
  go_enter Try.func23, Try.ntmps23
  go_wp2_with fail
  rw [← hwa]
  clear hwa
  go_loopw [2] (fun i wr => ∃ k : Nat, k ≤ n ∧ i = .int .i64 k ∧ Hid (Keep (two a sa) wa wr) ∧ Hid (Shp wa wr)) (fun i _ => n - (intOf i).toNat)
  case atStart => exact ⟨0, by omega, rfl, HK0, HS0⟩
  case round =>
    clear HK0 HS0
    obtain ⟨k, hk, rfl, HK, HS⟩ := hrel
    have kb : wr.heap[w.heap.size]? = some (.cells #[.int .i64 e, .slice a n c, .slice sa sn sc] 27 (0, 0)) := by rw [HK.out.block _ (blk_lt KX.out) HL.out]; exact KX.out
    have x1 : wr.cell? ⟨w.heap.size, 1, none⟩ = some (.slice a n c) := by rw [blk_cell kb]; rfl
    have x2 : wr.cell? ⟨w.heap.size, 2, none⟩ = some (.slice sa sn sc) := by rw [blk_cell kb]; rfl
    clear kb
    by_cases hlt : k < n
    · obtain ⟨g, cur, v, rfl, hB, hc, hf, hg⟩ := ownw_at (ownw_shp H1.out HS.out) k hlt
      have HK2 := Lib.hid (HK.out.set (p := g) (.inr (.inl rfl)) k (.int .i64 (-9)))
      have HS2 := Lib.hid (HS.out.trans (Shp.set wr g k (.int .i64 (-9))))
      have hj0 : (0 : Int) ≤ (k : Int) := by omega
      have hj1 : (k : Int) < (n : Int) := by omega
      clear hg hB HK HS
      go_wp2_with fail
      go_roundw
      case rel => exact ⟨k + 1, by omega, by go_num, HK2, HS2⟩
      case measure => simp [intOf]; omega
    · obtain rfl : n = k := by omega
      go_wp2_with fail
      obtain ⟨wo, rfl⟩ : ∃ wo : World, wo = wr := ⟨_, rfl⟩
      clear x1 x2
      go_loopw [3] (fun i wr => ∃ k : Nat, k ≤ sn ∧ i = .int .i64 k ∧ Hid (Keep (two a sa) wa wr) ∧ Hid (Shp wa wr)) (fun i _ => sn - (intOf i).toNat)
      case atStart => exact ⟨0, by omega, rfl, HK, HS⟩
      case round =>
        clear HK HS hlt
        obtain ⟨k, hk, rfl, HK, HS⟩ := hrel
        have kb : wr.heap[w.heap.size]? = some (.cells #[.int .i64 e, .slice a n c, .slice sa sn sc] 27 (0, 0)) := by rw [HK.out.block _ (blk_lt KX.out) HL.out]; exact KX.out
        have x2 : wr.cell? ⟨w.heap.size, 2, none⟩ = some (.slice sa sn sc) := by rw [blk_cell kb]; rfl
        clear kb
        by_cases hlt : k < sn
        · obtain ⟨g, cur, v, rfl, hB, hc, hf, hg⟩ := ownw_at (ownw_shp H2.out HS.out) (k * 2) (by omega)
          obtain ⟨g', cur', v', hgg, _, hc', hf', _⟩ := ownw_at (ownw_shp H2.out HS.out) (k * 2 + 1) (by omega)
          obtain rfl : g = g' := by injection hgg with h; injection h
          have HK2 := Lib.hid ((HK.out.set (p := g) (.inr (.inr rfl)) (k * 2) (.int .i64 (-9))).set (p := g) (.inr (.inr rfl)) (k * 2 + 1) (.string ⟨#[]⟩))
          have HS2 := Lib.hid ((HS.out.trans (Shp.set wr g (k * 2) (.int .i64 (-9)))).trans (Shp.set _ g (k * 2 + 1) (.string ⟨#[]⟩)))
          have hj0 : (0 : Int) ≤ (k : Int) := by omega
          have hj1 : (k : Int) < (sn : Int) := by omega
          clear hg hB HK HS hgg
          go_wp2_with fail
          go_roundw
          case rel => exact ⟨k + 1, by omega, by go_num, HK2, HS2⟩
          case measure => simp [intOf]; omega
        · have HKF := Lib.hid ((Keep.of_below BA.out).trans HK.out (fun _ _ h => h))
          have HSF := Lib.hid ((Shp.of_below BA.out).trans HS.out)
          clear HK HS
          go_wp2_with fail
          go_end0
          exact ⟨rfl, HKF.out, HSF.out⟩

/-- A row of links with lists of their own, which may be written: the lists lie in blocks of Y, the row itself does not. -/
def ORow (Y : Nat → Prop) (w : World) (a : Option Addr) (n : Nat) : Prop :=
  ∀ i, i < n → ∃ b e a1 n1 c1 sa sn sc, a = some ⟨b, 0, none⟩ ∧ ¬ Y b ∧ (w.cell? ⟨b, i * 3, none⟩ = some (.int .i64 e) ∧ w.cell? ⟨b, i * 3 + 1, none⟩ = some (.slice a1 n1 c1) ∧ w.cell? ⟨b, i * 3 + 2, none⟩ = some (.slice sa sn sc)) ∧
    OwnW w 3 0 a1 n1 ∧ OwnW w 62 0 sa (sn * 2) ∧ n1 ≤ 9223372036854775807 ∧ sn ≤ 9223372036854775807 ∧ ∀ k, two a1 sa k → Y k ∧ k < w.heap.size
/-- While lists of it are written. -/
theorem ORow.step {Y Z : Nat → Prop} {w w' : World} {a : Option Addr} {n : Nat} (h : ORow Y w a n) (hk : Keep Z w w') (hs : Shp w w') (hZ : ∀ k, k < w.heap.size → Z k → Y k) : ORow Y w' a n := fun i hi => by
  obtain ⟨b, e, a1, n1, c1, sa, sn, sc, ha, hb, ⟨c0, c2, c3⟩, h1, h2, h3, h4, h5⟩ := h i hi
  have hbk := hk.block b (World.block_lt c0) (fun hz => hb (hZ b (World.block_lt c0) hz))
  exact ⟨b, e, a1, n1, c1, sa, sn, sc, ha, hb, ⟨by rw [← c0]; exact World.cell?_of_block hbk, by rw [← c2]; exact World.cell?_of_block hbk, by rw [← c3]; exact World.cell?_of_block hbk⟩, ownw_shp h1 hs, ownw_shp h2 hs, h3, h4, fun k hk' => ⟨(h5 k hk').1, Nat.lt_of_lt_of_le (h5 k hk').2 hk.size⟩⟩
theorem ownw_keep {Z : Nat → Prop} {w w' : World} {e B n : Nat} {ao : Option Addr} (h : OwnW w e B ao n) (hk : Keep Z w w') (hz : ∀ k, ao = some ⟨k, 0, none⟩ → ¬ Z k) : OwnW w' e B ao n := by
  rcases h with h | ⟨g, cur, h1, h2, h3, h4⟩
  · exact .inl h
  · exact .inr ⟨g, cur, h1, h2, by rw [hk.block g (blk_lt h3) (hz g h1)]; exact h3, h4⟩
/-- While other blocks are written. -/
theorem ORow.far {Y Z : Nat → Prop} {w w' : World} {a : Option Addr} {n : Nat} (h : ORow Y w a n) (hk : Keep Z w w') (hZ : ∀ k, k < w.heap.size → Z k → ¬ Y k ∧ a ≠ some ⟨k, 0, none⟩) : ORow Y w' a n := fun i hi => by
  obtain ⟨b, e, a1, n1, c1, sa, sn, sc, ha, hb, ⟨c0, c2, c3⟩, h1, h2, h3, h4, h5⟩ := h i hi
  have hbk := hk.block b (World.block_lt c0) (fun hz => (hZ b (World.block_lt c0) hz).2 ha)
  exact ⟨b, e, a1, n1, c1, sa, sn, sc, ha, hb, ⟨by rw [← c0]; exact World.cell?_of_block hbk, by rw [← c2]; exact World.cell?_of_block hbk, by rw [← c3]; exact World.cell?_of_block hbk⟩,
    ownw_keep h1 hk (fun k hk' hz => (hZ k (h5 k (.inl hk')).2 hz).1 (h5 k (.inl hk')).1), ownw_keep h2 hk (fun k hk' hz => (hZ k (h5 k (.inr hk')).2 hz).1 (h5 k (.inr hk')).1), h3, h4, fun k hk' => ⟨(h5 k hk').1, Nat.lt_of_lt_of_le (h5 k hk').2 hk.size⟩⟩
theorem own_apart {X : Nat → Prop} {w : World} {B e s n c : Nat} {a : Option Addr} {xs : List Value} (h : Rob X (fun w' => w'.ownsRow B e s (.slice a n c) n xs) w) : ∀ k, a = some ⟨k, 0, none⟩ → ¬ X k ∧ B ≤ k ∧ k < w.heap.size := fun k hk => by
  subst hk
  exact ⟨rob_apart h k rfl, h.self.lt k rfl⟩
/-- Out of a row of links with lists of their own. -/
theorem orow_of {B n c : Nat} {a : Option Addr} {L : List Lk} {xs : List Value} {w : World} (ho : w.ownsRow B 27 3 (.slice a n c) n xs) (hn : L.length = n)
    (hr : rowOf (shOLink B) (fun j => j < B ∨ (Value.slice a n c).ownBlock = some j) w L xs) : ORow (fun k => B ≤ k ∧ k < w.heap.size ∧ (Value.slice a n c).ownBlock ≠ some k) w a n := fun i hi => by
  obtain ⟨y, hy⟩ : ∃ y, L[i]? = some y := ⟨_, List.getElem?_eq_getElem (by omega)⟩
  obtain ⟨cs, hc, hR, hx⟩ := hr.get hy
  obtain ⟨a1, n1, c1, sa, sn, sc, rfl, he, o1, l1, f1, b1, o2, l2, f2, b2⟩ := hR.self
  have r1 : Rob (fun j => j < B ∨ (Value.slice a n c).ownBlock = some j) (fun w' => w'.ownsRow B 3 1 (.slice a1 n1 c1) n1 (intsV y.1.2)) w := hR.mono fun w' hw' => by
    obtain ⟨a1', n1', c1', sa', sn', sc', h1, _, h2, _⟩ := hw'
    simp at h1
    obtain ⟨⟨rfl, rfl, rfl⟩, _⟩ := h1
    exact h2
  have r2 : Rob (fun j => j < B ∨ (Value.slice a n c).ownBlock = some j) (fun w' => w'.ownsRow B 62 2 (.slice sa sn sc) sn (sigV y.2)) w := hR.mono fun w' hw' => by
    obtain ⟨a1', n1', c1', sa', sn', sc', h1, _, _, _, _, _, h2, _⟩ := hw'
    simp at h1
    obtain ⟨_, rfl, rfl, rfl⟩ := h1
    exact h2
  rcases ho.2 with ⟨_, h0⟩ | ⟨g, cap, cur, hv, hB, hg, hnc, hcm, hs, ht⟩
  · omega
  · injection hv with h1 h2 h3
    subst h1
    have hcell : ∀ j v, [Value.int .i64 y.1.1, .slice a1 n1 c1, .slice sa sn sc][j]? = some v → w.cell? ⟨g, i * 3 + j, none⟩ = some v := fun j v hv => by
      have := ho.cells (g := g) rfl _ _ (hx j v hv)
      rwa [Addr.add_lit, Nat.zero_add] at this
    refine ⟨g, y.1.1, a1, n1, c1, sa, sn, sc, rfl, fun hc => hc.2.2 rfl, ⟨hcell 0 _ rfl, hcell 1 _ rfl, hcell 2 _ rfl⟩, ?_, owns_ownws (owns_lower o2 (Nat.zero_le _)), by omega, by omega, fun k hk => ?_⟩
    · have := owns_ownws (owns_lower o1 (Nat.zero_le _))
      rwa [Nat.mul_one] at this
    · rcases hk with hk | hk
      · obtain ⟨h1, h2, h3⟩ := own_apart r1 k hk
        exact ⟨⟨h2, h3, fun hc => h1 (.inr hc)⟩, h3⟩
      · obtain ⟨h1, h2, h3⟩ := own_apart r2 k hk
        exact ⟨⟨h2, h3, fun hc => h1 (.inr hc)⟩, h3⟩

/-- A tracker, and blocks that may be written without its being touched. -/
def OSt (F : Nat → Prop) (B p : Nat) (c0 : Cf) (L : List Lk) (w : World) : Prop :=
  ∃ X oc os, Trk X w B p oc os (c0 :: L.map (·.1)) (L.map (·.2)) ∧ ∀ k, F k → X k ∧ ¬ trX p oc os k
section
variable {F F' Y : Nat → Prop} {B p : Nat} {c0 : Cf} {L : List Lk} {w w' : World}
theorem OSt.keep (h : OSt F B p c0 L w) (hk : Keep Y w w') (hY : ∀ k, k < w.heap.size → Y k → F k) : OSt F B p c0 L w' := by
  obtain ⟨X, oc, os, ht, hF⟩ := h
  exact ⟨X, oc, os, ht.keep hk (fun k h1 h2 => hF k (hY k h1 h2)), hF⟩
theorem OSt.more (h : OSt F B p c0 L w) : OSt (fun k => F k ∨ w.heap.size ≤ k) B p c0 L w := by
  obtain ⟨X, oc, os, ht, hF⟩ := h
  refine ⟨X, oc, os, ht, fun k hk => ?_⟩
  rcases hk with hk | hk
  · exact hF k hk
  · exact ⟨ht.new k hk, fun hc => by have := trX_lt ht k hc; omega⟩
theorem OSt.less (h : OSt F B p c0 L w) (hF : ∀ k, F' k → F k) : OSt F' B p c0 L w := by
  obtain ⟨X, oc, os, ht, hF0⟩ := h
  exact ⟨X, oc, os, ht, fun k hk => hF0 k (hF k hk)⟩
end

/-- Behind Take: what is known, and which blocks may be written. -/
theorem ost_take {X : Nat → Prop} {w0 w4 w5 w6 : World} {p : Nat} {oc : Option Nat} {c0 : Cf} {chain : List Lk} {x : Int} {r : Ending} (ht4 : Trk X w4 w0.heap.size p oc none [c0] []) (hX : ∀ k, k < w0.heap.size → X k) (hb : Below w4.heap.size w4 w5) (h : TakePost X w0.heap.size p oc none c0 chain x w5 r w6) :
    (∃ L', OSt (fun k => k < w0.heap.size ∨ (w4.heap.size ≤ k ∧ k < w5.heap.size)) w0.heap.size p c0 L' w6 ∧ (x = 0 → L' = chain) ∧ (x ≠ 0 → L' = [])) ∧ Keep (trX p oc none) w5 w6 := by
  obtain ⟨_, h1, h2⟩ := h
  have hF : ∀ k, (k < w0.heap.size ∨ (w4.heap.size ≤ k ∧ k < w5.heap.size)) → X k ∧ ¬ trX p oc none k ∧ k < w5.heap.size := fun k hk => by
    have hz : w0.heap.size ≤ p := ht4.hB
    have hp := ht4.lt.1
    have hs := hb.size
    rcases hk with hk | ⟨hk, hk'⟩
    · exact ⟨hX k hk, fun hc => by have := trX_ge ht4 k hc; omega, by omega⟩
    · exact ⟨ht4.new k hk, fun hc => by have := trX_lt ht4 k hc; omega, hk'⟩
  by_cases hx : x = 0
  · obtain ⟨X', oc', os', h3, h4, h5, h6⟩ := h2 hx
    refine ⟨⟨chain, ⟨X', oc', os', h5, fun k hk => ?_⟩, fun _ => rfl, fun hc => (hc hx).elim⟩, h6⟩
    obtain ⟨g1, g2, g3⟩ := hF k hk
    refine ⟨h4.2 k g3 g1, fun hc => ?_⟩
    rcases h3 k hc with g4 | g4
    · exact g2 g4
    · omega
  · have b6 := h1 hx
    refine ⟨⟨[], ⟨X, oc, none, (ht4.old hb).old b6, fun k hk => ?_⟩, fun hc => (hx hc).elim, fun _ => rfl⟩, Keep.of_below b6⟩
    obtain ⟨g1, g2, _⟩ := hF k hk
    exact ⟨g1, g2⟩

theorem OSt.chain {F : Nat → Prop} {B p : Nat} {c0 : Cf} {L : List Lk} {w : World} (h : OSt F B p c0 L w) (hL : L.length ≤ 64) : Calls Try.prog 13 #[.pointer (some ⟨p, 0, none⟩)] w (ChainPost L w) := by
  obtain ⟨X, oc, os, ht, _⟩ := h
  have := chain_any X B p oc os _ _ w ht (by simp) (by simp; omega)
  rwa [chainL_map] at this
theorem OSt.epoch {F : Nat → Prop} {B p : Nat} {c0 : Cf} {L : List Lk} {w : World} (h : OSt F B p c0 L w) (hL : L.length ≤ 64) : Calls Try.prog 14 #[.pointer (some ⟨p, 0, none⟩)] w fun r w' => r = .returned (.int .i64 L.length) ∧ w = w' := by
  obtain ⟨X, oc, os, ht, _⟩ := h
  have := epoch_any X B p oc os _ _ w ht (by simp; omega) (by simp; omega)
  rwa [List.length_map] at this
/-- The first configuration. -/
def At0Post (e : Int) (l : List Int) (w : World) (r : Ending) (w' : World) : Prop :=
  Below w.heap.size w w' ∧ ∃ a n c, r = .returned (.tuple #[.agg #[.int .i64 e, .slice a n c], .bool true]) ∧ w'.ownsRow w.heap.size 3 1 (.slice a n c) n (intsV l) ∧ l.length = n ∧ (∀ y ∈ l, i64 y) ∧ n * 8 ≤ 140737488355328
theorem OSt.at0 {F : Nat → Prop} {B p : Nat} {e0 : Int} {l0 : List Int} {L : List Lk} {w : World} (h : OSt F B p (e0, l0) L w) (hL : L.length ≤ 64) : Calls Try.prog 24 #[.pointer (some ⟨p, 0, none⟩), .int .i64 0] w (At0Post e0 l0 w) := by
  obtain ⟨X, oc, os, ht, _⟩ := h
  refine (at_any X B p oc os _ _ 0 w ht (by simp; omega) (by simp; omega)).mono ?_
  rintro r w' ⟨hb, h⟩
  rcases h with ⟨k, e, l, a, n, c, hx, hc, rfl, ho, hl, _, hf, hby⟩ | ⟨hbad, _⟩
  · obtain rfl : k = 0 := by omega
    obtain ⟨rfl, rfl⟩ : e0 = e ∧ l0 = l := by simpa using hc
    exact ⟨hb, a, n, c, rfl, ho, hl, hf, hby⟩
  · simp at hbad; omega
end Go.Proofs.Ytdeomokhjmnfhaa
