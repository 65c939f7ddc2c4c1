
/- Walks of slices.Clone at ints and at signatures. -/
import Derived.Test.YtijeieamodjgbabVw
import Derived.Test.YtijeieamodjgbabOwn
import Derived.Test.YtijeieamodjgbabKp
import Derived.Test.YtijeieamodjgbabQuiet

namespace Go.Proofs.Ytijeieamodjgbab
set_option maxRecDepth 100000
open Go.RowKit
set_option linter.unusedVariables false

theorem info_int' : (Try.prog.info? 3).map (fun i => (i.zero, i.size, i.bytes)) = some (some (.int .i64 0), 1, 8) := by kernel_rfl
theorem info_sig' : (Try.prog.info? 108).map (fun i => (i.zero, i.size, i.bytes)) = some (some (.agg #[.int .i64 0, .string ⟨#[]⟩]), 2, 24) := by kernel_rfl

def sigV (l : List Sg) : List Value := l.flatMap fun s => [.int .i64 s.1, .string s.2]
theorem sigV_len (l : List Sg) : (sigV l).length = l.length * 2 := by
  induction l with
  | nil => rfl
  | cons s r ih => rw [show sigV (s :: r) = .int .i64 s.1 :: .string s.2 :: sigV r from rfl, List.length_cons, List.length_cons, List.length_cons, ih]; omega
theorem sigV_one (l : List Sg) : ∀ u ∈ sigV l, u.oneCell' = true := by
  intro u hu
  rw [sigV, List.mem_flatMap] at hu
  obtain ⟨v, _, hu⟩ := hu
  simp at hu
  rcases hu with rfl | rfl <;> rfl
theorem sigV_get : ∀ (l : List Sg) (i : Nat) (x : Int) (t : ByteArray), l[i]? = some (x, t) → (sigV l)[i * 2]? = some (.int .i64 x) ∧ (sigV l)[i * 2 + 1]? = some (.string t) := by
  intro l
  induction l with
  | nil => intro i x t h; simp at h
  | cons s r ih =>
    intro i x t h
    have e : sigV (s :: r) = .int .i64 s.1 :: .string s.2 :: sigV r := rfl
    cases i with
    | zero => simp at h; subst h; rw [e]; exact ⟨rfl, rfl⟩
    | succ i =>
      have := ih i x t (by simpa using h)
      rw [e]
      exact ⟨by rw [show (i + 1) * 2 = i * 2 + 2 by omega]; exact this.1, by rw [show (i + 1) * 2 + 1 = i * 2 + 1 + 2 by omega]; exact this.2⟩
theorem sigV_at (l : List Sg) (j : Nat) (u : Value) (h : (sigV l)[j]? = some u) : ∃ i x t, l[i]? = some (x, t) ∧ ((j = i * 2 ∧ u = .int .i64 x) ∨ (j = i * 2 + 1 ∧ u = .string t)) := by
  have hj : j < l.length * 2 := by rw [← sigV_len]; exact (List.getElem?_eq_some_iff.1 h).1
  obtain ⟨⟨x, t⟩, hs⟩ : ∃ s, l[j / 2]? = some s := ⟨_, List.getElem?_eq_getElem (by omega)⟩
  obtain ⟨h1, h2⟩ := sigV_get l _ x t hs
  refine ⟨j / 2, x, t, hs, ?_⟩
  by_cases hm : j % 2 = 0
  · have : j = j / 2 * 2 := by omega
    rw [← this, h] at h1
    exact .inl ⟨this, by injection h1⟩
  · have : j = j / 2 * 2 + 1 := by omega
    rw [← this, h] at h2
    exact .inr ⟨this, by injection h2⟩

theorem empty_owned (w : World) (e k : Nat) (t : TypeId) (hk : e = t) : (w.alloc (.cells #[] t)).ownsRow w.heap.size e k (.slice (some ⟨w.heap.size, 0, none⟩) 0 0) 0 [] := by
  subst hk
  exact ⟨by simp, .inr ⟨w.heap.size, 0, #[], rfl, Nat.le_refl _, blk_alloc w _, Nat.le_refl _, by decide, by simp, by simp⟩⟩

set_option maxHeartbeats 1000000 in
theorem clone_ints (a : Option Addr) (n c : Nat) (l : List Int) (w : World) (h : IntsAt w a n l) (hn : a = none → c = 0 ∧ n = 0) (hb : n * 8 ≤ 140737488355328) :
    Calls Try.prog 71 #[.slice a n c] w fun r w' => ∃ v, r = .returned v ∧ w'.ownsRow w.heap.size 3 1 v n (intsV l) ∧ Below w.heap.size w w' := by
  obtain ⟨ii, hi, hz0, hz1, hz2⟩ := info_parts info_int'
  have hnil := fun (w : World) => Lib.run_eql_slice_nil (P := Try.prog) w 22 3 a n c 0 0 Try.underlying22
  have hlen := h.len
  cases ha : a with
  | none =>
    subst ha
    obtain ⟨rfl, rfl⟩ := hn rfl
    obtain rfl : l = [] := List.eq_nil_of_length_eq_zero hlen
    clear h hlen
    go_enter Try.func71, Try.ntmps71
    go_wp2_with fail
    go_ret
    exact ⟨_, rfl, World.ownsRow_nil _ _ _ _, Below.refl _ _⟩
  | some ad =>
    subst ha
    have H := Lib.hid h
    have k1 : 0 + n ≤ maxLen := by simp only [maxLen]; omega
    have k2 : (0 + n) * 8 ≤ 140737488355328 := by omega
    have hcell : ∀ ad', (some ad : Option Addr) = some ad' → ∀ j u, (intsV l)[j]? = some u → (w.alloc (.cells #[] 3)).cell? (ad'.add j) = some u := fun ad' had j u hu => by
      injection had with had; subst had
      have hj : j < n := by rw [← hlen]; have := (List.getElem?_eq_some_iff.1 hu).1; simpa [intsV] using this
      obtain ⟨b, o, hab, hc⟩ := ((h.alloc (.cells #[] 3))).cell j hj
      injection hab with hab; subst hab
      rw [Addr.add_lit, hc, ← hu]
      simp [intsV, List.getD]
      rw [List.getElem?_eq_getElem (by omega)]
      simp
    have kl := Lib.hid (show (intsV l).length = n * 1 by simp [intsV, hlen])
    replace hcell := Lib.hid hcell
    have Hown := Lib.hid (empty_owned w 3 1 3 rfl)
    clear h hn hlen
    go_enter Try.func71, Try.ntmps71
    go_wp2_with (refine wpList_append_any _ rfl (.tmp 5) (.tmp 6) 22 rfl w.heap.size 3 ii (.int .i64 0) 1 8 Try.underlying22 hi hz0 hz1 hz2 rfl (by decide) _ 0 [] rfl Hown.out (some ad) n c (intsV l) rfl kl.out (fun h => by cases h) hcell.out (intsV_one l) k1 k2 (by simp) ?_)
    intro v' w2 hown2 hg2 _
    have HB := Lib.hid (show Below w.heap.size w w2 from (below_alloc w _).grown hg2 (by simp) (fun k hk => Nat.le_of_eq (by simpa [Value.ownBlock] using hk)))
    obtain ⟨a', c', rfl⟩ := owns_slice hown2
    have HO := Lib.hid hown2
    clear hown2 hg2 hcell Hown hnil
    go_wp2_with fail
    go_ret
    exact ⟨_, rfl, HO.out, HB.out⟩

set_option maxHeartbeats 1000000 in
theorem clone_sigs (a : Option Addr) (n c : Nat) (l : List Sg) (w : World) (h : SlAt shSig w a n c l) :
    Calls Try.prog 49 #[.slice a n c] w fun r w' => ∃ v, r = .returned v ∧ w'.ownsRow w.heap.size 108 2 v n (sigV l) ∧ Below w.heap.size w w' := by
  obtain ⟨ii, hi, hz0, hz1, hz2⟩ := info_parts info_sig'
  have hnil := fun (w : World) => Lib.run_eql_slice_nil (P := Try.prog) w 46 108 a n c 0 0 Try.underlying46
  have hlen := h.len
  have hn := h.nil
  have hcap := h.cap
  have hmax := h.max
  have hby : n * 24 ≤ 140737488355328 := h.bytes
  cases ha : a with
  | none =>
    subst ha
    obtain rfl := hn rfl
    obtain rfl : n = 0 := by omega
    obtain rfl : l = [] := List.eq_nil_of_length_eq_zero hlen
    clear h hlen hn hcap hmax hby
    go_enter Try.func49, Try.ntmps49
    go_wp2_with fail
    go_ret
    exact ⟨_, rfl, World.ownsRow_nil _ _ _ _, Below.refl _ _⟩
  | some ad =>
    subst ha
    have k1 : 0 + n ≤ maxLen := by simp only [maxLen]; omega
    have k2 : (0 + n) * 24 ≤ 140737488355328 := by omega
    have hcell : ∀ ad', (some ad : Option Addr) = some ad' → ∀ j u, (sigV l)[j]? = some u → (w.alloc (.cells #[] 108)).cell? (ad'.add j) = some u := fun ad' had j u hu => by
      injection had with had; subst had
      obtain ⟨i, x, t, hit, hju⟩ := sigV_at l j u hu
      obtain ⟨b, o, x', t', hab, hit', c0, c1, _⟩ := sig_cells (h.old (below_alloc w (.cells #[] 108))) (show i < n by rw [← hlen]; exact (List.getElem?_eq_some_iff.1 hit).1)
      rw [hit] at hit'
      obtain ⟨rfl, rfl⟩ : x = x' ∧ t = t' := by simpa using hit'
      injection hab with hab; subst hab
      rcases hju with ⟨rfl, rfl⟩ | ⟨rfl, rfl⟩
      · rw [Addr.add_lit, c0]
      · rw [Addr.add_lit, ← Nat.add_assoc, c1]
    have kl := Lib.hid (show (sigV l).length = n * 2 by rw [sigV_len, hlen])
    replace hcell := Lib.hid hcell
    have Hown := Lib.hid (empty_owned w 108 2 108 rfl)
    clear h hn hlen hby hcap hmax
    go_enter Try.func49, Try.ntmps49
    go_wp2_with (refine wpList_append_any _ rfl (.tmp 5) (.tmp 6) 46 rfl w.heap.size 108 ii (.agg #[.int .i64 0, .string ⟨#[]⟩]) 2 24 Try.underlying46 hi hz0 hz1 hz2 rfl (by decide) _ 0 [] rfl Hown.out (some ad) n c (sigV l) rfl kl.out (fun h => by cases h) hcell.out (sigV_one l) k1 k2 (by simp) ?_)
    intro v' w2 hown2 hg2 _
    have HB := Lib.hid (show Below w.heap.size w w2 from (below_alloc w _).grown hg2 (by simp) (fun k hk => Nat.le_of_eq (by simpa [Value.ownBlock] using hk)))
    have hform : ∃ a' c', v' = .slice a' n c' := by
      rcases hown2.2 with ⟨rfl, rfl⟩ | ⟨g, cap, cur, rfl, _⟩
      · exact ⟨_, _, rfl⟩
      · exact ⟨_, _, rfl⟩
    obtain ⟨a', c', rfl⟩ := hform
    have HO := Lib.hid hown2
    clear hown2 hg2 hcell Hown hnil
    go_wp2_with fail
    go_ret
    exact ⟨_, rfl, HO.out, HB.out⟩
end Go.Proofs.Ytijeieamodjgbab

/- The program's tracker: what it is in memory; walks of own, Epoch. -/
namespace Go.Proofs.Ytijeieamodjgbab
set_option maxRecDepth 100000
open Go.RowKit
set_option linter.unusedVariables false

theorem ints_row {w : World} {B n c : Nat} {a : Option Addr} {l : List Int} (h : w.ownsRow B 3 1 (.slice a n c) n (intsV l)) (hl : l.length = n) (hf : ∀ x ∈ l, i64 x) (hb : n * 8 ≤ 140737488355328) : SlAt Sh.int w a n c l := by
  subst hl
  have hm : maxLen = 9223372036854775807 := rfl
  obtain ⟨a', c', hv, hi⟩ := owns_ints h hf (by omega)
  injection hv with h1 h2 h3
  subst h1 h3
  rcases h.2 with ⟨hv, h0⟩ | ⟨g, cap, cur, hv, hB, hg, hnc, hcm, _, _⟩
  · injection hv with h1 h2 h3
    exact sl_of_ints hi (by omega) (by omega) hb (fun _ => h3)
  · injection hv with h1 h2 h3
    subst h3
    exact sl_of_ints hi hnc (by omega) hb (fun h => by rw [h1] at h; cases h)
theorem sigs_row {w : World} {B n c : Nat} {a : Option Addr} {l : List Sg} (h : w.ownsRow B 108 2 (.slice a n c) n (sigV l)) (hl : l.length = n) (hf : ∀ s ∈ l, i64 s.1 ∧ s.2.size ≤ 1125899906842624) (hb : n * 24 ≤ 140737488355328) : SlAt shSig w a n c l := by
  subst hl
  have hr : ∀ (l : List Sg), (∀ s ∈ l, i64 s.1 ∧ s.2.size ≤ 1125899906842624) → rowOf shSig (fun _ => False) w l (sigV l) := by
    intro l
    induction l with
    | nil => intro _; rfl
    | cons s r ih =>
      intro hf
      refine ⟨[.int .i64 s.1, .string s.2], sigV r, rfl, rfl, fun w' _ => ?_, ih (fun x hx => hf x (List.mem_cons_of_mem _ hx))⟩
      obtain ⟨h1, h2⟩ := hf s (List.mem_cons_self ..)
      exact ⟨[.int .i64 s.1], [.string s.2], rfl, ⟨rfl, h1⟩, rfl, h2⟩
  exact sl_of_row (S := shSig) h (hr l hf) hb
theorem sl_fit {w : World} {a : Option Addr} {n c : Nat} {l : List Sg} (h : SlAt shSig w a n c l) : ∀ s ∈ l, i64 s.1 ∧ s.2.size ≤ 1125899906842624 := fun s hs => by
  obtain ⟨i, hi, rfl⟩ := List.getElem_of_mem hs
  obtain ⟨b, o, x, t, _, hit, _, _, h1, h2⟩ := sig_cells h (by rw [← h.len]; exact hi)
  have : l[i]? = some l[i] := List.getElem?_eq_getElem hi
  rw [this] at hit
  injection hit with hit
  rw [hit]; exact ⟨h1, h2⟩

/-- A configuration's cells with members of its own: whatever is done to older blocks. -/
theorem conf_rob {X : Nat → Prop} {w : World} {B n c : Nat} {a : Option Addr} {e : Int} {l : List Int} (h : w.ownsRow B 3 1 (.slice a n c) n (intsV l)) (hl : l.length = n) (hX : ∀ k, (Value.slice a n c).ownBlock = some k → ¬ X k) (he : i64 e) (hf : ∀ x ∈ l, i64 x) (hb : n * 8 ≤ 140737488355328) :
    Rob X (fun w' => shConf.E w' (e, l) [.int .i64 e, .slice a n c]) w := fun w' hk => by
  have h2 := owns_keep h hk hX
  exact ⟨[.int .i64 e], [.slice a n c], rfl, ⟨rfl, he⟩, a, n, c, rfl, ints_row h2 hl hf hb⟩
theorem sigs_rob {X : Nat → Prop} {w : World} {B n c : Nat} {a : Option Addr} {l : List Sg} (h : w.ownsRow B 108 2 (.slice a n c) n (sigV l)) (hl : l.length = n) (hX : ∀ k, (Value.slice a n c).ownBlock = some k → ¬ X k) (hf : ∀ s ∈ l, i64 s.1 ∧ s.2.size ≤ 1125899906842624) (hb : n * 24 ≤ 140737488355328) :
    Rob X (fun w' => shSig.slice.E w' l [.slice a n c]) w := fun w' hk => by
  have h2 := owns_keep h hk hX
  exact ⟨a, n, c, rfl, sigs_row h2 hl hf hb⟩

/-- What own answers: a configuration with members of its own. -/
def OwnPost (e0 : Int) (n : Nat) (l : List Int) (w : World) (r : Ending) (w' : World) : Prop :=
  ∃ a' c', r = .returned (.agg #[.int .i64 e0, .slice a' n c']) ∧ w'.ownsRow w.heap.size 3 1 (.slice a' n c') n (intsV l) ∧ Below w.heap.size w w'

set_option maxHeartbeats 1000000 in
theorem own_any (e0 : Int) (a : Option Addr) (n c : Nat) (l : List Int) (w : World) (h : IntsAt w a n l) (hn : a = none → c = 0 ∧ n = 0) (hb : n * 8 ≤ 140737488355328) :
    Calls Try.prog 40 #[.agg #[.int .i64 e0, .slice a n c]] w (OwnPost e0 n l w) := by
  obtain ⟨w1, hw1⟩ : ∃ w1, w1 = (w.alloc (.cells #[.int .i64 e0, .slice a n c] 24)).alloc (.cells #[.int .i64 0, .slice none 0 0] 24) := ⟨_, rfl⟩
  have b1 := below_alloc w (.cells #[.int .i64 e0, .slice a n c] 24)
  have b2 := below_alloc (w.alloc (.cells #[.int .i64 e0, .slice a n c] 24)) (.cells #[.int .i64 0, .slice none 0 0] 24)
  have B1 : Below w.heap.size w w1 := by rw [hw1]; exact bthen b1 b2
  have hz : w1.heap.size = w.heap.size + 2 := by rw [hw1]; simp
  have k0 : w1.heap[w.heap.size]? = some (.cells #[.int .i64 e0, .slice a n c] 24 (0, 0)) := by rw [hw1]; exact blk_below (blk_alloc _ _) b2
  have k1 : w1.heap[w.heap.size + 1]? = some (.cells #[.int .i64 0, .slice none 0 0] 24 (0, 0)) := by
    have := blk_alloc (w.alloc (.cells #[.int .i64 e0, .slice a n c] 24)) (.cells #[.int .i64 0, .slice none 0 0] 24)
    rw [World.size_alloc] at this
    rw [hw1]; exact this
  have CC := Lib.hid (fun (w' : World) (hh : w'.heap = w1.heap) => clone_ints a n c l w' (by
    have hx := h.below B1
    exact ⟨hx.len, hx.max, fun i hi => by
      obtain ⟨b, o, ha, hc⟩ := hx.cell i hi
      exact ⟨b, o, ha, by rw [← hc]; exact World.cell?_of_block (by rw [hh])⟩, hx.fit⟩) hn hb)
  have K0 := Lib.hid k0; have K1 := Lib.hid k1; have BB := Lib.hid B1
  clear h b1 b2 B1 hn
  go_enter Try.func40, Try.ntmps40
  go_wp2_with fail
  rw [← hw1]
  clear hw1
  have x0 : w1.cell? ⟨w.heap.size, 0, none⟩ = some (.int .i64 e0) := by rw [blk_cell k0]; rfl
  have x1 : w1.cell? ⟨w.heap.size, 1, none⟩ = some (.slice a n c) := by rw [blk_cell k0]; rfl
  have y0 : w1.cell? ⟨w.heap.size + 1, 0, none⟩ = some (.int .i64 0) := by rw [blk_cell k1]; rfl
  have y1 : w1.cell? ⟨w.heap.size + 1, 1, none⟩ = some (.slice none 0 0) := by rw [blk_cell k1]; rfl
  have z1 : ∀ o, w1.frozen? ⟨w.heap.size + 1, o, none⟩ = false := fun o => blk_frozen k1 o
  clear k0 k1
  go_region_law (refine step_at 71 rfl ?_; refine step_calls rfl 71 #[.slice a n c] (by go_simp) (CC.out _ rfl) ?_; rintro e w6 ⟨v6, rfl, ho6, b6⟩; obtain ⟨a6, c6, rfl⟩ := owns_slice ho6; refine ⟨_, rfl, ?_⟩; have q0 := below_cell b6 (w := w1.drew) (b := w.heap.size) (o := 0) (v := .int .i64 e0) (by simpa using x0); have q1 := below_cell b6 (w := w1.drew) (b := w.heap.size + 1) (o := 0) (v := .int .i64 0) (by simpa using y0); have q2 := below_cell b6 (w := w1.drew) (b := w.heap.size + 1) (o := 1) (v := .slice none 0 0) (by simpa using y1); have q3 : ∀ o, w6.frozen? ⟨w.heap.size + 1, o, none⟩ = false := (fun o => by rw [b6.frozen (p := ⟨w.heap.size + 1, o, none⟩) (by show _ < w1.drew.heap.size; simp; omega)]; simpa using z1 o))
  all_goals
    have B6 := Lib.hid (bthen BB.out (bthen (below_drewN (Below.refl _ _) 1) b6))
    have hk6 : w6.heap[w.heap.size + 1]? = some (.cells #[.int .i64 0, .slice none 0 0] 24 (0, 0)) := by
      rw [b6.block _ (by show _ < w1.drew.heap.size; simp; omega)]; exact K1.out
    have hs := blk_set (blk_set hk6 0 (.int .i64 e0)) 1 (.slice a6 n c6)
    have d0 : ((w6.setCell ⟨w.heap.size + 1, 0, none⟩ (.int .i64 e0)).setCell ⟨w.heap.size + 1, 1, none⟩ (.slice a6 n c6)).cell? ⟨w.heap.size + 1, 0, none⟩ = some (.int .i64 e0) := by rw [blk_cell hs]; rfl
    have d1 : ((w6.setCell ⟨w.heap.size + 1, 0, none⟩ (.int .i64 e0)).setCell ⟨w.heap.size + 1, 1, none⟩ (.slice a6 n c6)).cell? ⟨w.heap.size + 1, 1, none⟩ = some (.slice a6 n c6) := by rw [blk_cell hs]; rfl
    have hz1 : w1.drew.heap.size = w.heap.size + 2 := by simpa using hz
    rw [hz1] at ho6
    have HO := Lib.hid (owns_lower (owns_setlow (owns_setlow ho6 (show w.heap.size + 1 < w.heap.size + 2 by omega) 0 (.int .i64 e0)) (show w.heap.size + 1 < w.heap.size + 2 by omega) 1 (.slice a6 n c6)) (show w.heap.size ≤ w.heap.size + 2 by omega))
    have HB := Lib.hid ((B6.out.setCell (p := ⟨w.heap.size + 1, 0, none⟩) (Nat.le_succ _) (.int .i64 e0)).setCell (p := ⟨w.heap.size + 1, 1, none⟩) (Nat.le_succ _) (.slice a6 n c6))
    clear hs hk6 ho6 b6 q0 q1 q2 q3
    go_wp2_with fail
    exact bodyPost_ret (v := .agg #[.int .i64 e0, .slice a6 n c6]) (by simp [results, Try.results40, go_sem, d0, d1]) rfl ⟨a6, c6, rfl, HO.out, HB.out⟩
end Go.Proofs.Ytijeieamodjgbab
