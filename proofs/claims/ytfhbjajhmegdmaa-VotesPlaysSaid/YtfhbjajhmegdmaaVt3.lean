
/- The program's tally: what it is in memory; New, Count. -/
import Derived.Test.YtfhbjajhmegdmaaVtP
import Derived.Test.YtfhbjajhmegdmaaMp
import Derived.Test.YtfhbjajhmegdmaaKp
import Derived.Test.YtfhbjajhmegdmaaNews2
import Derived.Deep.RegionHeld3
import Derived.Deep.DeepCutAuto
namespace Go.Proofs.Ytfhbjajhmegdmaa
set_option maxRecDepth 100000
open Go.RowKit Go.Maps
set_option linter.unusedVariables false
set_option linter.unusedSimpArgs false

/-- A value is its own reading. -/
def rawE : Value → Option (DataW Value × List MemPlace) := fun v => some (.held v, [])
def whV (s c : ByteArray) : Value := .agg #[.string s, .string c]
def whL (s c : ByteArray) : Lit := .string (keyBytes [.string s.data.toList, .string c.data.toList])
def voteV (s c t : ByteArray) (a : Option Addr) (n d : Nat) : Value := .agg #[.string s, .string c, .string t, .slice a n d]
theorem whRow : (79 : TypeId) < Try.prog.types.size := of_decide_eq_true (by kernel_rfl)
theorem whWide : (match Try.prog.underlying 79 with | some (.array _ _) | some (.struct _) => true | _ => false) = true := by rw [Try.underlying79]
theorem whLaw : Go.WideMaps.KeyLaw Try.prog 79 := deep_law_laid laidOut9 (m := 2) (by omega) whRow (by kernel_rfl) whWide
theorem whK : Keyed Try.prog 79 := Keyed.of_law whLaw
theorem whKeyType : Try.prog.keyType 79 = true := by kernel_rfl
theorem whCells : Try.prog.cellsOf 79 = 2 := by kernel_rfl
theorem keyOf_strs {P : Program} {k ts : TypeId} {f1 f2 : Field} (hk : P.underlying k = some (.struct #[f1, f2])) (h1 : f1.type = ts ∧ f1.offset = 0 ∧ f1.name ≠ "_") (h2 : f2.type = ts ∧ f2.offset = 1 ∧ f2.name ≠ "_") (hs : P.underlying ts = some .string)
    (hkt : P.keyType k = true) (hc : P.cellsOf k = 2) (hc2 : P.cellsOf ts = 1) (hsz : ∃ m, P.types.size = m + 1) (s c : ByteArray) (hss : s.size ≤ maxLen) (hcs : c.size ≤ maxLen) :
    keyOf P k (.agg #[.string s, .string c]) = some (.string (keyBytes [.string s.data.toList, .string c.data.toList])) := by
  obtain ⟨m, hm⟩ := hsz
  have hf : (Value.agg #[.string s, .string c]).formed P k = true := by simp [Value.formed, hk, hc]
  simp [keyOf, hk, hkt, hf, hm, Program.keyLits, h1, h2, hs, hc, hc2, hss, hcs, Value.cells]
def whOk (s c : ByteArray) : Prop := s.size ≤ 1125899906842624 ∧ c.size ≤ 1125899906842624
theorem whKey {s c : ByteArray} (h : whOk s c) : keyOf Try.prog 79 (whV s c) = some (whL s c) :=
  keyOf_strs Try.underlying79 ⟨rfl, rfl, by decide⟩ ⟨rfl, rfl, by decide⟩ Try.underlying9 whKeyType whCells strCells typesSize s c (Nat.le_trans h.1 (by unfold maxLen; omega)) (Nat.le_trans h.2 (by unfold maxLen; omega))
theorem whL_inj {s c s' c' : ByteArray} (h : whOk s c) (h' : whOk s' c') (he : whL s c = whL s' c') : (s, c) = (s', c') := by
  have h1 := whKey h
  have h2 := whKey h'
  rw [← he] at h2
  have h3 := whK.inj h1 h2
  simpa [whV] using h3
theorem zeroVote (w : World) : (zeroValue 81).run Try.prog w = .ok (voteV ⟨#[]⟩ ⟨#[]⟩ ⟨#[]⟩ none 0 0) w := by kernel_rfl
theorem intKey15 (x : Int) (h : i64 x) : keyOf Try.prog 3 (.int .i64 x) = some (.int .i64 x) := keyOf_int_mk Try.underlying3 (Go.WalkArith.wf_i64 h)

/-- What may be done to blocks, the tally's parts left as they are. -/
def Free (M : Nat → Prop) (p mv mc : Nat) : Nat → Prop := fun k => ¬ M k ∨ k = p ∨ k = mv ∨ k = mc
structure VMap (X : Nat → Prop) (w : World) (e : Int) (V : List Vt) (D : DataW Value) : Prop where
  size : Maps.size D = V.length
  has : ∀ x, i64 x → Maps.has D (.int .i64 x) = V.any (fun v => v.1 == x)
  get : ∀ v ∈ V, ∃ a n d, (∀ z, D.atKey (.int .i64 v.1) z = .held (voteV (whatOf e v).1 (whatOf e v).2 v.2.1 a n d)) ∧ Rob X (fun w' => SlAt Sh.int w' a n d v.2.2) w
def CMap (e : Int) (V : List Vt) (D : DataW Unit) : Prop := ∀ s c, whOk s c → D.atKey (whL s c) (li 0) = li (cntW e V s c)
structure TalAt (M : Nat → Prop) (w : World) (p mv mc : Nat) (e : Int) (l : List Int) (V : List Vt) : Prop where
  lt : ∀ k, M k → k < w.heap.size
  mine : M p ∧ M mv ∧ M mc
  ne : p ≠ mv ∧ p ≠ mc ∧ mv ≠ mc
  ep : i64 e
  box : ∃ a n c, w.heap[p]? = some (.cells #[.int .i64 e, .slice a n c, .map (some mv), .map (some mc)] 77 (0, 0)) ∧ Rob (Free M p mv mc) (fun w' => SlAt Sh.int w' a n c l) w
  vm : ∃ n D, w.ownsMap Try.prog 3 rawE mv n D ∧ n ≤ V.length ∧ VMap (Free M p mv mc) w e V D
  cm : ∃ n D, w.ownsMap Try.prog 79 intE mc n D ∧ n ≤ V.length ∧ CMap e V D
theorem raw_block {w w' : World} {k : TypeId} {b n : Nat} {D : DataW Value} (h : w.ownsMap Try.prog k rawE b n D) (hb : w'.heap[b]? = w.heap[b]?) : w'.ownsMap Try.prog k rawE b n D := by
  obtain ⟨es, clock, h1, r⟩ := h
  exact ⟨es, clock, by rw [hb]; exact h1, r⟩
theorem TalAt.keep {M Y : Nat → Prop} {w w' : World} {p mv mc : Nat} {e : Int} {l : List Int} {V : List Vt} (h : TalAt M w p mv mc e l V) (hk : Keep Y w w') (hY : ∀ k, Y k → ¬ M k) : TalAt M w' p mv mc e l V := by
  obtain ⟨a, n, c, hb, hr⟩ := h.box
  obtain ⟨n1, D1, o1, hn1, v1⟩ := h.vm
  obtain ⟨n2, D2, o2, hn2, v2⟩ := h.cm
  refine ⟨fun k hm => Nat.lt_of_lt_of_le (h.lt k hm) hk.size, h.mine, h.ne, h.ep, ⟨a, n, c, ?_, hr.step hk (fun k _ hy => .inl (hY k hy)) (fun k _ hx => hx)⟩, ⟨n1, D1, ?_, hn1, v1.size, v1.has, fun v hv => ?_⟩, ⟨n2, D2, ?_, hn2, v2⟩⟩
  · rw [hk.block p (blk_lt hb) (fun hy => hY _ hy h.mine.1)]; exact hb
  · exact raw_block o1 (hk.block _ o1.lt (fun hy => hY _ hy h.mine.2.1))
  · obtain ⟨a, n, d, g1, g2⟩ := v1.get v hv
    exact ⟨a, n, d, g1, g2.step hk (fun k _ hy => .inl (hY k hy)) (fun k _ hx => hx)⟩
  · exact owns_block o2 (hk.block _ o2.lt (fun hy => hY _ hy h.mine.2.2))
theorem TalAt.old {M : Nat → Prop} {w w' : World} {p mv mc : Nat} {e : Int} {l : List Int} {V : List Vt} (h : TalAt M w p mv mc e l V) (hb : Below w.heap.size w w') : TalAt M w' p mv mc e l V :=
  h.keep (Y := fun _ => False) (Keep.of_below hb) (fun _ hf => hf.elim)

set_option maxHeartbeats 400000 in
theorem vcount_any (M : Nat → Prop) (p mv mc : Nat) (e : Int) (l : List Int) (V : List Vt) (w : World) (h : TalAt M w p mv mc e l V) :
    Calls Try.prog 17 #[.pointer (some ⟨p, 0, none⟩)] w fun r w' => r = .returned (.int .i64 V.length) ∧ w = w' := by
  obtain ⟨a, n, c, hb, hr⟩ := h.box
  obtain ⟨n1, D1, o1, hn1, v1⟩ := h.vm
  have hlen := fun ty => o1.len Try.underlying74 ty
  have p1 : w.cell? ⟨p, 2, none⟩ = some (.map (some mv)) := by rw [blk_cell hb]; rfl
  rw [v1.size] at hlen
  clear h hb hr o1 hn1 v1
  go_enter Try.func17, Try.ntmps17
  go_wp2_with fail
  go_ret
  exact ⟨rfl, rfl⟩
theorem vcount_nil (w : World) : Calls Try.prog 17 #[.pointer none] w fun r w' => r = .returned (.int .i64 0) ∧ w = w' := by
  go_enter Try.func17, Try.ntmps17
  go_wp2_with fail
  go_ret
  exact ⟨rfl, rfl⟩
def VNewPost (e : Int) (l : List Int) (w : World) (r : Ending) (w' : World) : Prop :=
  Below w.heap.size w w' ∧ ((rightB e l = true ∧ ∃ M p mv mc, r = .returned (.tuple #[.pointer (some ⟨p, 0, none⟩), .int .i64 0]) ∧ (∀ k, M k → w.heap.size ≤ k) ∧ TalAt M w' p mv mc e l []) ∨
    (rightB e l = false ∧ r = .returned (.tuple #[.pointer none, .int .i64 1])))
theorem tal_new {w' : World} {p mv mc B : Nat} {e : Int} {l : List Int} {a : Option Addr} {n c : Nat} (he : i64 e) (hp : B ≤ p) (hmv : B ≤ mv) (hmc : B ≤ mc) (ho : w'.ownsRow B 3 1 (.slice a n c) n (intsV l)) (hl : l.length = n) (hf : ∀ x ∈ l, i64 x) (hb : n * 8 ≤ 140737488355328)
    (hbx : w'.heap[p]? = some (.cells #[.int .i64 e, .slice a n c, .map (some mv), .map (some mc)] 77 (0, 0))) (h1 : w'.heap[mv]? = some (.map #[] 0)) (h2 : w'.heap[mc]? = some (.map #[] 0)) (hne : mv ≠ mc) :
    ∃ M p' mv' mc', some (⟨p, 0, none⟩ : Addr) = some ⟨p', 0, none⟩ ∧ (∀ k, M k → B ≤ k) ∧ TalAt M w' p' mv' mc' e l [] := by
  have hpv : p ≠ mv := fun h => by rw [h, h1] at hbx; cases hbx
  have hpc : p ≠ mc := fun h => by rw [h, h2] at hbx; cases hbx
  have hog : ∀ k, (Value.slice a n c).ownBlock = some k → k ≠ p ∧ k ≠ mv ∧ k ≠ mc := fun k hk => by
    rcases ho.2 with ⟨h0, _⟩ | ⟨g, cap, cur, h0, _, hg, _⟩
    · rw [h0] at hk; cases hk
    · rw [h0] at hk
      have hgk : g = k := by simpa [Value.ownBlock] using hk
      subst hgk
      refine ⟨fun h => ?_, fun h => ?_, fun h => ?_⟩
      · rw [h, hbx] at hg
        injection hg with hg
        injection hg with _ hg _
        revert hg; decide
      · rw [h, h1] at hg; cases hg
      · rw [h, h2] at hg; cases hg
  refine ⟨fun k => k = p ∨ k = mv ∨ k = mc ∨ (Value.slice a n c).ownBlock = some k, p, mv, mc, rfl, fun k hk => ?_, ⟨fun k hk => ?_, ⟨.inl rfl, .inr (.inl rfl), .inr (.inr (.inl rfl))⟩, ⟨hpv, hpc, hne⟩, he, ⟨a, n, c, hbx, ?_⟩, ⟨0, .map [], ?_, Nat.le_refl _, ⟨rfl, fun x hx => rfl, fun v hv => (by cases hv)⟩⟩, ⟨0, .map [], ?_, Nat.le_refl _, fun s c h => rfl⟩⟩⟩
  · rcases hk with rfl | rfl | rfl | hk
    · exact hp
    · exact hmv
    · exact hmc
    · exact (ho.lt k hk).1
  · rcases hk with rfl | rfl | rfl | hk
    · exact blk_lt hbx
    · exact blk_lt h1
    · exact blk_lt h2
    · exact (ho.lt k hk).2
  · intro w'' hk
    refine ints_row (owns_keep ho hk (fun k hk' hx => ?_)) hl hf hb
    obtain ⟨g1, g2, g3⟩ := hog k hk'
    rcases hx with hx | hx | hx | hx
    · exact hx (.inr (.inr (.inr hk')))
    · exact g1 hx
    · exact g2 hx
    · exact g3 hx
  · exact ⟨#[], 0, h1, ⟨by simp, MapKept.stamped_empty 0, by simp⟩, Nat.le_refl _, rfl⟩
  · exact ⟨#[], 0, h2, ⟨by simp, MapKept.stamped_empty 0, by simp⟩, Nat.le_refl _, rfl⟩

def mapBl : Value → Option Nat
  | .map (some k) => some k
  | _ => none
def newR (W : Nat) (e : Int) (a : Option Addr) (n c : Nat) (l : List Int) : Nat → World → Value → Prop
  | 0 => fun _ v => v = .pointer (some ⟨W, 0, none⟩)
  | 1 => fun _ v => v = .int .i64 e
  | 2 => fun _ v => v = .pointer (some ⟨W, 1, none⟩)
  | 3 => fun _ v => v = .slice a n c
  | 4 => fun w v => ∃ a' c', v = .slice a' n c' ∧ w.ownsRow W 3 1 (.slice a' n c') n (intsV l)
  | 5 => fun w v => ∃ a' c', v = .agg #[.int .i64 e, .slice a' n c'] ∧ w.ownsRow W 3 1 (.slice a' n c') n (intsV l)
  | 6 => fun w v => ∃ k, v = .map (some k) ∧ W ≤ k ∧ w.heap[k]? = some (.map #[] 0)
  | 7 => fun w v => ∃ k, v = .map (some k) ∧ W ≤ k ∧ w.heap[k]? = some (.map #[] 0)
  | _ => fun _ _ => False
def newBl : Nat → Value → Option Nat
  | 6 => mapBl
  | 7 => mapBl
  | _ => fun _ => none
theorem newR_stab {W : Nat} {e : Int} {a : Option Addr} {n c : Nat} {l : List Int} : ∀ i w w' v, newR W e a n c l i w v → Below w.heap.size w w' → newR W e a n c l i w' v
  | 0, w, w', v, h, hb => h
  | 1, w, w', v, h, hb => h
  | 2, w, w', v, h, hb => h
  | 3, w, w', v, h, hb => h
  | 4, w, w', v, ⟨a', c', h1, h2⟩, hb => ⟨a', c', h1, owns_old h2 hb⟩
  | 5, w, w', v, ⟨a', c', h1, h2⟩, hb => ⟨a', c', h1, owns_old h2 hb⟩
  | 6, w, w', v, ⟨k, h1, h2, h3⟩, hb => ⟨k, h1, h2, blk_below h3 hb⟩
  | 7, w, w', v, ⟨k, h1, h2, h3⟩, hb => ⟨k, h1, h2, blk_below h3 hb⟩
  | _ + 8, w, w', v, h, hb => h
theorem newR_lt {W : Nat} {e : Int} {a : Option Addr} {n c : Nat} {l : List Int} : ∀ i w v k, newR W e a n c l i w v → newBl i v = some k → k < w.heap.size
  | 6, w, v, k, ⟨k', h1, h2, h3⟩, h => by subst h1; injection h with h; subst h; exact blk_lt h3
  | 7, w, v, k, ⟨k', h1, h2, h3⟩, h => by subst h1; injection h with h; subst h; exact blk_lt h3
  | 0, w, v, k, _, h => by cases h
  | 1, w, v, k, _, h => by cases h
  | 2, w, v, k, _, h => by cases h
  | 3, w, v, k, _, h => by cases h
  | 4, w, v, k, _, h => by cases h
  | 5, w, v, k, _, h => by cases h
  | _ + 8, w, v, k, h, _ => h.elim

set_option maxHeartbeats 2000000 in
theorem vnew_any (e : Int) (a : Option Addr) (n c : Nat) (l : List Int) (w : World) (h : IntsAt w a n l) (hn : a = none → c = 0 ∧ n = 0) (hb : n * 8 ≤ 140737488355328) (he : i64 e) :
    Calls Try.prog 12 #[.agg #[.int .i64 e, .slice a n c]] w (VNewPost e l w) := by
  have hmm := @run_makeMap Try.prog
  obtain ⟨w1, hw1⟩ : ∃ w1, w1 = w.alloc (.cells #[.int .i64 e, .slice a n c] 24) := ⟨_, rfl⟩
  have b1 : Below w.heap.size w w1 := by rw [hw1]; exact below_alloc _ _
  have k1 : w1.heap[w.heap.size]? = some (.cells #[.int .i64 e, .slice a n c] 24 (0, 0)) := by rw [hw1]; exact blk_alloc _ _
  have x0 : w1.cell? ⟨w.heap.size, 0, none⟩ = some (.int .i64 e) := by rw [blk_cell k1]; rfl
  have x1 : w1.cell? ⟨w.heap.size, 1, none⟩ = some (.slice a n c) := by rw [blk_cell k1]; rfl
  have CR := Lib.hid (right_any e a n c l w1 (h.below b1))
  have HB := Lib.hid b1
  have CO := Lib.hid (fun (w' : World) (hb' : Below w.heap.size w w') => clone_ints a n c l w' (h.below hb') hn hb)
  have HL := Lib.hid h.len
  have HF := Lib.hid h.fit
  clear h hn b1
  go_enter Try.func12, Try.ntmps12
  go_wp2_with fail
  rw [← hw1]
  clear hw1 k1
  refine CR.out.mono ?_
  rintro r w2 ⟨rfl, b2⟩
  have y0 := below_cell b2 x0
  have y1 := below_cell b2 x1
  have HB2 := Lib.hid (bthen HB.out b2)
  clear b2 x0 x1 CR HB
  cases hr : rightB e l with
  | false =>
    go_wp2_with fail
    go_ret2
    exact ⟨HB2.out, .inr ⟨hr, rfl⟩⟩
  | true =>
    go_upto_region 3 with (fail)
    refine wp_region_made 8 (newR w.heap.size e a n c l) newBl rfl (by kernel_rfl) (by kernel_rfl) newR_stab newR_lt (fun i o hi ho => ?_) (fun vs w3 hb3 hs hne => ?_)
    · intro ac wa hba hE hF K hK
      have b2 := below_undrew hba
      have z0 := below_cell b2 y0
      have z1 := below_cell b2 y1
      have hi' : i = 0 ∨ i = 1 ∨ i = 2 ∨ i = 3 ∨ i = 4 ∨ i = 5 ∨ i = 6 ∨ i = 7 := by omega
      have hW := (bthen HB2.out b2).size
      rcases hi' with rfl | rfl | rfl | rfl | rfl | rfl | rfl | rfl
      · obtain rfl := Option.some.inj ho
        have h1 : ac.eval (.tmp 1) = .pointer (some ⟨w.heap.size, 0, none⟩) := hE 1 (by decide)
        exact news_val rfl rfl (by generalize ac.eval = ρ at h1; simp only [execOp]; go_simp) (hK _ _ (Below.refl _ _) rfl (fun _ h => by cases h))
      · obtain rfl := Option.some.inj ho
        have h1 : ac.eval (.tmp 7) = .pointer (some ⟨w.heap.size, 0, none⟩) := hF ⟨0, .data⟩ (by simp) rfl 7 rfl
        exact news_val rfl rfl (by generalize ac.eval = ρ at h1; simp only [execOp]; go_simp) (hK _ _ (Below.refl _ _) rfl (fun _ h => by cases h))
      · obtain rfl := Option.some.inj ho
        have h1 : ac.eval (.tmp 1) = .pointer (some ⟨w.heap.size, 0, none⟩) := hE 1 (by decide)
        exact news_val rfl rfl (by generalize ac.eval = ρ at h1; simp only [execOp]; go_simp) (hK _ _ (Below.refl _ _) rfl (fun _ h => by cases h))
      · obtain rfl := Option.some.inj ho
        have h1 : ac.eval (.tmp 9) = .pointer (some ⟨w.heap.size, 1, none⟩) := hF ⟨2, .data⟩ (by simp) rfl 9 rfl
        exact news_val rfl rfl (by generalize ac.eval = ρ at h1; simp only [execOp]; go_simp) (hK _ _ (Below.refl _ _) rfl (fun _ h => by cases h))
      · obtain rfl := Option.some.inj ho
        have h1 : ac.eval (.tmp 10) = .slice a n c := hF ⟨3, .data⟩ (by simp) rfl 10 rfl
        have h2 : ac.eval (.func 35) = .func (.func 35) #[] #[] := rfl
        refine made_call rfl rfl 35 #[.slice a n c] (by generalize ac.eval = ρ at h1 h2; simp only [execOp]; go_simp) (CO.out _ (bthen HB2.out b2)) ?_
        rintro r w6 ⟨v6, rfl, ho6, b6⟩
        obtain ⟨a6, c6, rfl⟩ := owns_form ho6
        exact ⟨_, rfl, hK _ _ b6 ⟨a6, c6, rfl, owns_lower ho6 hW⟩ (fun _ h => by cases h)⟩
      · obtain rfl := Option.some.inj ho
        have h1 : ac.eval (.tmp 8) = .int .i64 e := hF ⟨1, .data⟩ (by simp) rfl 8 rfl
        obtain ⟨a6, c6, h2, h3⟩ : ∃ a' c', ac.eval (.tmp 11) = .slice a' n c' ∧ wa.ownsRow w.heap.size 3 1 (.slice a' n c') n (intsV l) := hF ⟨4, .data⟩ (by simp) rfl 11 rfl
        exact news_val rfl rfl (by generalize ac.eval = ρ at h1 h2; simp only [execOp]; go_simp) (hK _ _ (Below.refl _ _) ⟨a6, c6, rfl, h3⟩ (fun _ h => by cases h))
      · obtain rfl := Option.some.inj ho
        exact news_val rfl rfl (by generalize ac.eval = ρ; simp only [execOp]; go_simp) (hK _ _ (below_alloc _ _) ⟨wa.heap.size, rfl, hW, blk_alloc _ _⟩ (fun k h => by injection h with h; omega))
      · obtain rfl := Option.some.inj ho
        exact news_val rfl rfl (by generalize ac.eval = ρ; simp only [execOp]; go_simp) (hK _ _ (below_alloc _ _) ⟨wa.heap.size, rfl, hW, blk_alloc _ _⟩ (fun k h => by injection h with h; omega))
    · have e0 : vs 0 = _ := hs 0 (by omega)
      have e1 : vs 1 = _ := hs 1 (by omega)
      have e2 : vs 2 = _ := hs 2 (by omega)
      have e3 : vs 3 = _ := hs 3 (by omega)
      obtain ⟨a4, c4, e4, -⟩ : ∃ a' c', vs 4 = .slice a' n c' ∧ w3.ownsRow w.heap.size 3 1 (.slice a' n c') n (intsV l) := hs 4 (by omega)
      obtain ⟨a5, c5, e5, ho5⟩ : ∃ a' c', vs 5 = .agg #[.int .i64 e, .slice a' n c'] ∧ w3.ownsRow w.heap.size 3 1 (.slice a' n c') n (intsV l) := hs 5 (by omega)
      obtain ⟨mv, e6, hmv, kmv⟩ : ∃ k, vs 6 = .map (some k) ∧ w.heap.size ≤ k ∧ w3.heap[k]? = some (.map #[] 0) := hs 6 (by omega)
      obtain ⟨mc, e7, hmc, kmc⟩ : ∃ k, vs 7 = .map (some k) ∧ w.heap.size ≤ k ∧ w3.heap[k]? = some (.map #[] 0) := hs 7 (by omega)
      have hmm' : mv ≠ mc := fun h => hne 6 7 mv (by omega) (by omega) (by omega) (by rw [e6]; rfl) (by rw [e7, h]; rfl)
      show wpList _ _ _ _ ((((((((Act.put _ (some 7) (vs 0)).put (some 8) (vs 1)).put (some 9) (vs 2)).put (some 10) (vs 3)).put (some 11) (vs 4)).put (some 12) (vs 5)).put (some 13) (vs 6)).put (some 14) (vs 7)) _
      rw [e0, e1, e2, e3, e4, e5, e6, e7]
      clear e0 e1 e2 e3 e4 e5 e6 e7 hs hne vs y0 y1
      have B3 := Lib.hid (bthen HB2.out hb3)
      have HT := Lib.hid (tal_new (w' := w3.alloc (.cells #[.int .i64 e, .slice a5 n c5, .map (some mv), .map (some mc)] 77 (0, 0))) he B3.out.size hmv hmc (owns_old ho5 (below_alloc _ _)) HL.out HF.out hb (blk_alloc _ _) (blk_below kmv (below_alloc _ _)) (blk_below kmc (below_alloc _ _)) hmm')
      clear hb3 ho5 kmv kmc
      simp only [List.drop_succ_cons, List.drop_zero, Act.put, List.setIfInBounds_toArray, List.set_cons_succ, List.set_cons_zero]
      go_wp2_with fail
      go_ret2
      obtain ⟨M, p', mv', mc', hp', hM, hT⟩ := HT.out
      refine ⟨bthen B3.out (below_alloc _ _), .inl ⟨hr, M, p', mv', mc', ?_, hM, hT⟩⟩
      rw [← hp']; rfl
end Go.Proofs.Ytfhbjajhmegdmaa
