
/- Walks of slices.Clone at ints and at signatures. -/
import Derived.Test.YtijeieamodjgbaaGreatVw
import Derived.Test.YtijeieamodjgbaaGreatOwn
import Derived.Test.YtijeieamodjgbaaGreatKp
import Derived.Test.YtijeieamodjgbaaGreatQuiet
namespace Go.Proofs.YtijeieamodjgbaaGreat
set_option maxRecDepth 100000
open Go.RowKit
set_option linter.unusedVariables false
theorem info_int' : (Tryz.prog.info? 3).map (fun i => (i.zero, i.size, i.bytes)) = some (some (.int .i64 0), 1, 8) := by kernel_rfl
theorem info_sig' : (Tryz.prog.info? 84).map (fun i => (i.zero, i.size, i.bytes)) = some (some (.agg #[.int .i64 0, .string ⟨#[]⟩]), 2, 24) := by kernel_rfl
def sigV (l : List Sg) : List Value := l.flatMap fun s => [.int .i64 s.1, .string s.2]
theorem sigV_len (l : List Sg) : (sigV l).length = l.length * 2 := by
  induction l with
  | nil => rfl
  | cons s r ih => rw [show sigV (s :: r) = .int .i64 s.1 :: .string s.2 :: sigV r from rfl, List.length_cons, List.length_cons, List.length_cons, ih]; omega
theorem sigV_one (l : List Sg) : ∀ u ∈ sigV l, u.oneCell' = true := by
  intro u hu
  rw [sigV, List.mem_flatMap] at hu
  obtain ⟨v, _, hu⟩ := hu
  simp at hu
  rcases hu with rfl | rfl <;> rfl
theorem sigV_get : ∀ (l : List Sg) (i : Nat) (x : Int) (t : ByteArray), l[i]? = some (x, t) → (sigV l)[i * 2]? = some (.int .i64 x) ∧ (sigV l)[i * 2 + 1]? = some (.string t) := by
  intro l
  induction l with
  | nil => intro i x t h; simp at h
  | cons s r ih =>
    intro i x t h; have e : sigV (s :: r) = .int .i64 s.1 :: .string s.2 :: sigV r := rfl
    cases i with
    | zero => simp at h; subst h; rw [e]; exact ⟨rfl, rfl⟩
    | succ i =>
      have := ih i x t (by simpa using h); rw [e]
      exact ⟨by rw [show (i + 1) * 2 = i * 2 + 2 by omega]; exact this.1, by rw [show (i + 1) * 2 + 1 = i * 2 + 1 + 2 by omega]; exact this.2⟩
theorem sigV_at (l : List Sg) (j : Nat) (u : Value) (h : (sigV l)[j]? = some u) : ∃ i x t, l[i]? = some (x, t) ∧ ((j = i * 2 ∧ u = .int .i64 x) ∨ (j = i * 2 + 1 ∧ u = .string t)) := by
  have hj : j < l.length * 2 := by rw [← sigV_len]; exact (List.getElem?_eq_some_iff.1 h).1
  obtain ⟨⟨x, t⟩, hs⟩ : ∃ s, l[j / 2]? = some s := ⟨_, List.getElem?_eq_getElem (by omega)⟩
  obtain ⟨h1, h2⟩ := sigV_get l _ x t hs
  refine ⟨j / 2, x, t, hs, ?_⟩
  by_cases hm : j % 2 = 0
  · have : j = j / 2 * 2 := by omega
    rw [← this, h] at h1
    exact .inl ⟨this, by injection h1⟩
  · have : j = j / 2 * 2 + 1 := by omega
    rw [← this, h] at h2
    exact .inr ⟨this, by injection h2⟩
theorem empty_owned (w : World) (e k : Nat) (t : TypeId) (hk : e = t) : (w.alloc (.cells #[] t)).ownsRow w.heap.size e k (.slice (some ⟨w.heap.size, 0, none⟩) 0 0) 0 [] := by
  subst hk
  exact ⟨by simp, .inr ⟨w.heap.size, 0, #[], rfl, Nat.le_refl _, blk_alloc w _, Nat.le_refl _, by decide, by simp, by simp⟩⟩
set_option maxHeartbeats 1000000 in
theorem clone_ints (a : Option Addr) (n c : Nat) (l : List Int) (w : World) (h : IntsAt w a n l) (hn : a = none → c = 0 ∧ n = 0) (hb : n * 8 ≤ 140737488355328) :
    Calls Tryz.prog 45 #[.slice a n c] w fun r w' => ∃ v, r = .returned v ∧ w'.ownsRow w.heap.size 3 1 v n (intsV l) ∧ Below w.heap.size w w' := by
  obtain ⟨ii, hi, hz0, hz1, hz2⟩ := info_parts info_int'
  have hnil := fun (w : World) => Lib.run_eql_slice_nil (P := Tryz.prog) w 30 3 a n c 0 0 Tryz.underlying30
  have hlen := h.len
  cases ha : a with
  | none =>
    subst ha; obtain ⟨rfl, rfl⟩ := hn rfl; obtain rfl : l = [] := List.eq_nil_of_length_eq_zero hlen; clear h hlen
    go_enter Tryz.func45, Tryz.ntmps45
    go_wp2_with fail
    go_ret
    exact ⟨_, rfl, World.ownsRow_nil _ _ _ _, Below.refl _ _⟩
  | some ad =>
    subst ha; have H := Lib.hid h
    have k1 : 0 + n ≤ maxLen := by simp only [maxLen]; omega
    have k2 : (0 + n) * 8 ≤ 140737488355328 := by omega
    have hcell : ∀ ad', (some ad : Option Addr) = some ad' → ∀ j u, (intsV l)[j]? = some u → (w.alloc (.cells #[] 3)).cell? (ad'.add j) = some u := fun ad' had j u hu => by
      injection had with had; subst had
      have hj : j < n := by rw [← hlen]; have := (List.getElem?_eq_some_iff.1 hu).1; simpa [intsV] using this
      obtain ⟨b, o, hab, hc⟩ := ((h.alloc (.cells #[] 3))).cell j hj; injection hab with hab; subst hab; rw [Addr.add_lit, hc, ← hu]
      simp [intsV, List.getD]
      rw [List.getElem?_eq_getElem (by omega)]
      simp
    have kl := Lib.hid (show (intsV l).length = n * 1 by simp [intsV, hlen])
    replace hcell := Lib.hid hcell
    have Hown := Lib.hid (empty_owned w 3 1 3 rfl); clear h hn hlen
    go_enter Tryz.func45, Tryz.ntmps45
    go_wp2_with (refine wpList_append_any _ rfl (.tmp 5) (.tmp 6) 30 rfl w.heap.size 3 ii (.int .i64 0) 1 8 Tryz.underlying30 hi hz0 hz1 hz2 rfl (by decide) _ 0 [] rfl Hown.out (some ad) n c (intsV l) rfl kl.out (fun h => by cases h) hcell.out (intsV_one l) k1 k2 (by simp) ?_)
    intro v' w2 hown2 hg2 _; have HB := Lib.hid (show Below w.heap.size w w2 from (below_alloc w _).grown hg2 (by simp) (fun k hk => Nat.le_of_eq (by simpa [Value.ownBlock] using hk))); obtain ⟨a', c', rfl⟩ := owns_slice hown2; have HO := Lib.hid hown2; clear hown2 hg2 hcell Hown hnil
    go_wp2_with fail
    go_ret
    exact ⟨_, rfl, HO.out, HB.out⟩
end Go.Proofs.YtijeieamodjgbaaGreat
/- The program's tracker: what it is in memory; walks of own, Epoch. -/
namespace Go.Proofs.YtijeieamodjgbaaGreat
set_option maxRecDepth 100000
open Go.RowKit
set_option linter.unusedVariables false
theorem ints_row {w : World} {B n c : Nat} {a : Option Addr} {l : List Int} (h : w.ownsRow B 3 1 (.slice a n c) n (intsV l)) (hl : l.length = n) (hf : ∀ x ∈ l, i64 x) (hb : n * 8 ≤ 140737488355328) : SlAt Sh.int w a n c l := by
  subst hl; have hm : maxLen = 9223372036854775807 := rfl; obtain ⟨a', c', hv, hi⟩ := owns_ints h hf (by omega); injection hv with h1 h2 h3; subst h1 h3
  rcases h.2 with ⟨hv, h0⟩ | ⟨g, cap, cur, hv, hB, hg, hnc, hcm, _, _⟩
  · injection hv with h1 h2 h3
    exact sl_of_ints hi (by omega) (by omega) hb (fun _ => h3)
  · injection hv with h1 h2 h3
    subst h3
    exact sl_of_ints hi hnc (by omega) hb (fun h => by rw [h1] at h; cases h)
theorem sigs_row {w : World} {B n c : Nat} {a : Option Addr} {l : List Sg} (h : w.ownsRow B 84 2 (.slice a n c) n (sigV l)) (hl : l.length = n) (hf : ∀ s ∈ l, i64 s.1 ∧ s.2.size ≤ 1125899906842624) (hb : n * 24 ≤ 140737488355328) : SlAt shSig w a n c l := by
  subst hl
  have hr : ∀ (l : List Sg), (∀ s ∈ l, i64 s.1 ∧ s.2.size ≤ 1125899906842624) → rowOf shSig (fun _ => False) w l (sigV l) := by
    intro l
    induction l with
    | nil => intro _; rfl
    | cons s r ih =>
      intro hf
      refine ⟨[.int .i64 s.1, .string s.2], sigV r, rfl, rfl, fun w' _ => ?_, ih (fun x hx => hf x (List.mem_cons_of_mem _ hx))⟩
      obtain ⟨h1, h2⟩ := hf s (List.mem_cons_self ..)
      exact ⟨[.int .i64 s.1], [.string s.2], rfl, ⟨rfl, h1⟩, rfl, h2⟩
  exact sl_of_row (S := shSig) h (hr l hf) hb
theorem sl_fit {w : World} {a : Option Addr} {n c : Nat} {l : List Sg} (h : SlAt shSig w a n c l) : ∀ s ∈ l, i64 s.1 ∧ s.2.size ≤ 1125899906842624 := fun s hs => by
  obtain ⟨i, hi, rfl⟩ := List.getElem_of_mem hs; obtain ⟨b, o, x, t, _, hit, _, _, h1, h2⟩ := sig_cells h (by rw [← h.len]; exact hi); have : l[i]? = some l[i] := List.getElem?_eq_getElem hi
  rw [this] at hit
  injection hit with hit; rw [hit]; exact ⟨h1, h2⟩
end Go.Proofs.YtijeieamodjgbaaGreat
