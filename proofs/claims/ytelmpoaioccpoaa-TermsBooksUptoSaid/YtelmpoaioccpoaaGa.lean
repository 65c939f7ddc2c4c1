
/- terms.signers, terms.Gather, terms.Count. -/
import Derived.Test.YtelmpoaioccpoaaMp
import Derived.Test.YtelmpoaioccpoaaSo
import Derived.Test.YtelmpoaioccpoaaCoW
import Derived.Deep.DeepCutAuto
import Derived.Laws.CopyOwn
import Derived.Deep.AppendLies
namespace Go.Proofs.Ytelmpoaioccpoaa
set_option maxRecDepth 100000
open Go.RowKit Go.Maps
set_option linter.unusedVariables false
set_option linter.unusedSimpArgs false

/-- Which ints have a count above nought. -/
def PosD (D : DataW Unit) (pos : Int → Prop) (N : Nat) : Prop := ∀ x, i64 x → ∃ c : Nat, D.atKey (.int .i64 x) (li 0) = li c ∧ (0 < c ↔ pos x) ∧ c ≤ N
theorem PosD.mono {D : DataW Unit} {pos pos' : Int → Prop} {N N' : Nat} (h : PosD D pos N) (hp : ∀ x, pos x ↔ pos' x) (hN : N ≤ N') : PosD D pos' N' := fun x hx => by
  obtain ⟨c, h1, h2, h3⟩ := h x hx
  exact ⟨c, h1, by rw [h2, hp], by omega⟩
theorem intKey (x : Int) (h : i64 x) : keyOf Try.prog 3 (.int .i64 x) = some (.int .i64 x) := keyOf_int_mk Try.underlying3 (Go.WalkArith.wf_i64 h)
theorem PosD.put {D : DataW Unit} {pos : Int → Prop} {N c : Nat} {x : Int} (h : PosD D pos N) (T : IsMap D) (hx : i64 x) (hc : D.atKey (.int .i64 x) (li 0) = li c) : PosD (D.put (.int .i64 x) (li ((c : Int) + 1))) (fun y => y = x ∨ pos y) (N + 1) := fun y hy => by
  have hk : WideAt.IsKeyLit (.int .i64 x) := intK.key (intKey x hx)
  obtain ⟨c', h1, h2, h3⟩ := h y hy
  by_cases he : y = x
  · subst he
    rw [hc] at h1
    have hcc : c = c' := by
      have h1' : ((c : Nat) : Int) = c' := by simpa using h1
      omega
    refine ⟨c + 1, ?_, by simp, by omega⟩
    rw [atKey_put_same T hk]; rfl
  · refine ⟨c', ?_, by rw [h2]; simp [he], by omega⟩
    rw [atKey_put_other (by intro e; injection e with _ e; exact he e)]; exact h1
theorem PosD.del {D : DataW Unit} {pos : Int → Prop} {N : Nat} (h : PosD D pos N) (x : Int) : PosD (D.del (.int .i64 x)) (fun y => pos y ∧ y ≠ x) N := fun y hy => by
  obtain ⟨c', h1, h2, h3⟩ := h y hy
  by_cases he : y = x
  · subst he
    exact ⟨0, by rw [atKey_del_same]; rfl, by simp, by omega⟩
  · exact ⟨c', by rw [atKey_del_other (by intro e; injection e with _ e; exact he e)]; exact h1, by rw [h2]; simp [he], h3⟩

set_option maxHeartbeats 2000000 in
theorem signers_any (text : ByteArray) (a : Option Addr) (n c : Nat) (sigs : List Sg) (w : World) (hS : SlAt shSig w a n c sigs) (hN : n < 4611686018427387904) :
    Calls Try.prog 33 #[.string text, .slice a n c] w fun e w' => ∃ D, e = .returned (.map (some w.heap.size)) ∧ w'.ownsMap Try.prog 3 intE w.heap.size n D ∧ PosD D (fun x => (x, text) ∈ sigs) n ∧ Below w.heap.size w w' := by
  have hlen := hS.len
  have hmm := @run_makeMap Try.prog
  have HS := Lib.hid hS
  have HO := Lib.hid (World.ownsMap_made (H := Unit) w Try.prog 3 intE)
  have HP0 := Lib.hid (show PosD (.map []) (fun x => (x, text) ∈ sigs.take 0) 0 from fun x hx => ⟨0, rfl, by simp, Nat.le_refl _⟩)
  have HW0 := Lib.hid (below_alloc w (.map #[] 0))
  clear hS
  go_enter Try.func33, Try.ntmps33
  go_wp2_with fail
  go_loopw [11] (fun i wr => ∃ k : Nat, k ≤ n ∧ i = .int .i64 k ∧ (∃ D, Hid (wr.ownsMap Try.prog 3 intE w.heap.size k D ∧ PosD D (fun x => (x, text) ∈ sigs.take k) k)) ∧ Hid (Below w.heap.size w wr)) (fun i _ => n - (intOf i).toNat)
  case atStart => exact ⟨0, by omega, rfl, ⟨_, Lib.hid ⟨HO.out, HP0.out⟩⟩, HW0⟩
  case round =>
    obtain ⟨k, hk, rfl, ⟨D, HD⟩, HW⟩ := hrel
    by_cases hlt : k < n
    · have hd : decide ((k : Int) < (n : Int)) = true := by simp; omega
      obtain ⟨bb, o, x, t, rfl, hy, x0, x1, h1, h2⟩ := sig_cells (HS.out.old HW.out) hlt
      have hba := below_alloc wr (.cells #[.int .i64 x, .string t] 34 (0, 0))
      have W4 := Lib.hid (bthen HW.out hba)
      have HT := Lib.hid (show sigs.take (k + 1) = sigs.take k ++ [(x, t)] by rw [List.take_add_one, hy]; rfl)
      have q0 : (wr.alloc (.cells #[.int .i64 x, .string t] 34 (0, 0))).cell? ⟨wr.heap.size, 0, none⟩ = some (.int .i64 x) := by rw [blk_cell (blk_alloc _ _)]; rfl
      have q1 : (wr.alloc (.cells #[.int .i64 x, .string t] 34 (0, 0))).cell? ⟨wr.heap.size, 1, none⟩ = some (.string t) := by rw [blk_cell (blk_alloc _ _)]; rfl
      have ho4 : (wr.alloc (.cells #[.int .i64 x, .string t] 34 (0, 0))).ownsMap Try.prog 3 intE w.heap.size k D := HD.out.1.alloc _
      have hpd := HD.out.2
      by_cases ht : t = text
      · subst ht
        have hq : (t.toList == t.toList) = true := by simp
        obtain ⟨c0, hl, hat, -⟩ := ho4.lookup_int intK Try.underlying55 Try.underlying3 (zeroInt _) (intKey x h1)
        obtain ⟨cN, hcN, -, hcN2⟩ := hpd x h1
        have hc0 : c0 = (cN : Int) := by rw [hat] at hcN; simpa using hcN
        subst hc0
        have hwr : IntKind.i64.wrap ((cN : Int) + 1) = (cN : Int) + 1 := IntWalk.i64_in _ (by omega)
        obtain ⟨w6, hup, ho6, hg6⟩ := ho4.update intK Try.underlying55 (by unfold maxLen; omega) (intKey x h1) (plainElem_int (H := Unit) Try.underlying3 (a := (cN : Int) + 1) (Go.WalkArith.wf_i64 (by omega)))
        have HD6 := Lib.hid (show w6.ownsMap Try.prog 3 intE w.heap.size (k + 1) (D.put (.int .i64 x) (li ((cN : Int) + 1))) ∧ PosD (D.put (.int .i64 x) (li ((cN : Int) + 1))) (fun y => (y, t) ∈ sigs.take (k + 1)) (k + 1) from
          ⟨ho6, (hpd.put ho4.isMap h1 hat).mono (fun y => by rw [HT.out, List.mem_append, List.mem_singleton, Prod.mk.injEq]; simp [or_comm]) (by omega)⟩)
        have W6 := Lib.hid (grown_below W4.out hg6 (fun j hj => by injection hj with hj; omega))
        clear hba ho4 hpd hat hcN hcN2 ho6 hg6 hy
        go_wp2_with fail
        go_roundw
        case rel => exact ⟨k + 1, by omega, by go_num, ⟨_, HD6⟩, W6⟩
        case measure => simp [intOf]; omega
      · have hq : (t.toList == text.toList) = false := str_neq ht
        have HD6 := Lib.hid (show (wr.alloc (.cells #[.int .i64 x, .string t] 34 (0, 0))).ownsMap Try.prog 3 intE w.heap.size (k + 1) D ∧ PosD D (fun y => (y, text) ∈ sigs.take (k + 1)) (k + 1) from
          ⟨ho4.mono (by omega), hpd.mono (fun y => by rw [HT.out, List.mem_append, List.mem_singleton, Prod.mk.injEq]; simp [Ne.symm ht]) (by omega)⟩)
        clear hba ho4 hpd hy
        go_wp2_with fail
        go_roundw
        case rel => exact ⟨k + 1, by omega, by go_num, ⟨_, HD6⟩, W4⟩
        case measure => simp [intOf]; omega
    · have hkn : k = n := by omega
      subst hkn
      have hd : decide ((k : Int) < (k : Int)) = false := by simp
      have HT := Lib.hid (show sigs.take k = sigs by rw [List.take_of_length_le (by omega)])
      go_wp2_with fail
      go_ret
      exact ⟨D, rfl, HD.out.1, by have := HD.out.2; rwa [HT.out] at this, HW.out⟩

/-- Which members signed the text, in the members' order. -/
def gatU (text : ByteArray) (sigs : List Sg) (ms : List Int) : List Sg := ms.foldl (fun out id => if (id, text) ∈ sigs ∧ (id, text) ∉ out then out ++ [(id, text)] else out) []
theorem gatU_snoc (text : ByteArray) (sigs : List Sg) (ms : List Int) (x : Int) : gatU text sigs (ms ++ [x]) = if (x, text) ∈ sigs ∧ (x, text) ∉ gatU text sigs ms then gatU text sigs ms ++ [(x, text)] else gatU text sigs ms := by rw [gatU, List.foldl_append]; rfl
theorem snoc_ind {α : Type} {p : List α → Prop} (h0 : p []) (h1 : ∀ l x, p l → p (l ++ [x])) : ∀ l, p l := fun l => by
  have : ∀ n (l : List α), l.length = n → p l := fun n => by
    induction n with
    | zero => intro l hl; rw [List.eq_nil_of_length_eq_zero hl]; exact h0
    | succ n ih =>
      intro l hl
      have hne : l ≠ [] := fun e => by rw [e] at hl; cases hl
      rw [← List.dropLast_concat_getLast hne]
      exact h1 _ _ (ih _ (by rw [List.length_dropLast, hl]; rfl))
  exact this _ l rfl
theorem gatU_fact (text : ByteArray) (sigs : List Sg) (ms : List Int) : (gatU text sigs ms).Nodup ∧ ∀ s, s ∈ gatU text sigs ms ↔ s ∈ sigs ∧ s.2 = text ∧ s.1 ∈ ms := by
  induction ms using snoc_ind with
  | h0 => exact ⟨List.nodup_nil, fun s => by simp [gatU]⟩
  | h1 l x ih =>
    obtain ⟨h1, h2⟩ := ih
    rw [gatU_snoc]
    by_cases hc : (x, text) ∈ sigs ∧ (x, text) ∉ gatU text sigs l
    · rw [if_pos hc]
      refine ⟨?_, fun s => ?_⟩
      · rw [List.nodup_append]
        refine ⟨h1, by simp, fun a ha b hb => ?_⟩
        rw [List.mem_singleton] at hb
        subst hb
        exact fun e => hc.2 (e ▸ ha)
      · rw [List.mem_append, h2, List.mem_singleton, List.mem_append, List.mem_singleton]
        constructor
        · rintro (⟨a, b, c⟩ | rfl)
          · exact ⟨a, b, .inl c⟩
          · exact ⟨hc.1, rfl, .inr rfl⟩
        · rintro ⟨a, b, c | c⟩
          · exact .inl ⟨a, b, c⟩
          · right; rw [← c, ← b]
    · rw [if_neg hc]
      refine ⟨h1, fun s => ?_⟩
      rw [h2, List.mem_append, List.mem_singleton]
      constructor
      · rintro ⟨a, b, c⟩; exact ⟨a, b, .inl c⟩
      · rintro ⟨a, b, c | c⟩
        · exact ⟨a, b, c⟩
        · obtain ⟨s1, s2⟩ := s
          dsimp only at b c
          subst b; subst c
          have hin : (s1, s2) ∈ gatU s2 sigs l := by
            by_cases hi : (s1, s2) ∈ gatU s2 sigs l
            · exact hi
            · exact absurd ⟨a, hi⟩ hc
          exact (h2 _).1 hin
theorem nodup_le {α : Type} : ∀ {l l' : List α}, l.Nodup → (∀ x ∈ l, x ∈ l') → l.length ≤ l'.length
  | [], _, _, _ => by simp
  | x :: r, l', hn, hs => by
    obtain ⟨s, t, rfl⟩ := List.append_of_mem (hs x (by simp))
    obtain ⟨h1, h2⟩ := List.nodup_cons.1 hn
    have := nodup_le (l := r) (l' := s ++ t) h2 (fun y hy => by
      have := hs y (by simp [hy])
      rw [List.mem_append, List.mem_cons] at this
      rw [List.mem_append]
      rcases this with h | rfl | h
      · exact .inl h
      · exact absurd hy h1
      · exact .inr h)
    simp at this ⊢; omega
theorem gatU_le (text : ByteArray) (sigs : List Sg) (ms : List Int) : (gatU text sigs ms).length ≤ sigs.length := nodup_le (gatU_fact text sigs ms).1 (fun s hs => (((gatU_fact text sigs ms).2 s).1 hs).1)
/-- What is gathered. -/
def gatP (text : ByteArray) (sigs : List Sg) (ms : List Int) : List Sg := (gatU text sigs ms).mergeSort (fun x y => decide (x.1 ≤ y.1))
theorem gatP_perm (text : ByteArray) (sigs : List Sg) (ms : List Int) : (gatP text sigs ms).Perm (gatU text sigs ms) := List.mergeSort_perm _ _
theorem gatP_sorted (text : ByteArray) (sigs : List Sg) (ms : List Int) : (gatP text sigs ms).Pairwise (fun x y => ¬ y.1 < x.1) := by
  have := List.pairwise_mergeSort (le := fun (x y : Sg) => decide (x.1 ≤ y.1)) (fun a b c h1 h2 => by simp at *; omega) (fun a b => by simp; omega) (gatU text sigs ms)
  exact this.imp (fun h => by simp at h; omega)
theorem gat_unique {text : ByteArray} {sigs : List Sg} {ms : List Int} {l : List Sg} (hp : l.Perm (gatU text sigs ms)) (hs : l.Pairwise (fun x y => ¬ y.1 < x.1)) : l = gatP text sigs ms := by
  refine List.Perm.eq_of_pairwise (le := fun x y => ¬ y.1 < x.1) (fun a b ha hb h1 h2 => ?_) hs (gatP_sorted text sigs ms) (hp.trans (gatP_perm text sigs ms).symm)
  have h3 := ((gatU_fact text sigs ms).2 a).1 (hp.mem_iff.1 ha)
  have h4 := ((gatU_fact text sigs ms).2 b).1 ((gatP_perm text sigs ms).mem_iff.1 hb)
  obtain ⟨a1, a2⟩ := a
  obtain ⟨b1, b2⟩ := b
  simp only at *
  have : a1 = b1 := by omega
  rw [this, h3.2.1, h4.2.1]
end Go.Proofs.Ytelmpoaioccpoaa
