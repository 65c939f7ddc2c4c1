
/- So many votes alike as a quorum settle: plain; where. -/
import Derived.Test.YtfhbjajhmegdmaaVw15
namespace Go.Proofs.Ytfhbjajhmegdmaa
set_option maxRecDepth 100000
open Go.RowKit
set_option linter.unusedVariables false
set_option linter.unusedSimpArgs false

theorem bset {w w' : World} (h : Below w.heap.size w w') {b : Nat} (hb : w.heap.size ≤ b) (o : Nat) (v : Value) : Below w.heap.size w (w'.setCell ⟨b, o, none⟩ v) := h.setCell hb v
def freshB (l : List Int) (V : List Vt) (x : Int) : Bool := hasB l x && !(V.any fun v => v.1 == x)
theorem addE_fresh {e : Int} {l : List Int} {V : List Vt} {x : Int} {t : ByteArray} {nx : List Int} (hG : vGood e l t nx = true) : (addE e l V x t nx (sgOf 0 x (vS e l t nx) (vC e l t nx)) == 0) = freshB l V x := by
  rw [addE_honest hG, freshB]
  cases hasB l x <;> cases V.any (fun v => v.1 == x) <;> rfl
theorem addV_fresh {e : Int} {l : List Int} {V : List Vt} {x : Int} {t : ByteArray} {nx : List Int} (hG : vGood e l t nx = true) : addV e l V x t nx (sgOf 0 x (vS e l t nx) (vC e l t nx)) = if freshB l V x = true then V ++ [(x, t, nx)] else V := by
  rw [addV, ← addE_fresh hG]
  simp
theorem win_iff {e : Int} {l : List Int} {V : List Vt} (h : VOk e l V) (y : ByteArray × List Int) : winner l V = some y ↔ quorumP l.length ≤ (cntC V y : Int) := by
  constructor
  · intro hw; exact (winner_some hw).1
  · intro hq
    have h10 := risingB_len (rightB_rising h.right).2.2
    have hp := quorum_pos (n := l.length) (by omega)
    have h0 : 0 < cntC V y := by omega
    unfold cntC at h0
    obtain ⟨v, hv⟩ := List.exists_mem_of_length_pos h0
    rw [List.mem_filter, decide_eq_true_eq] at hv
    obtain ⟨hv, rfl⟩ := hv
    exact (winner_of h hv).1 hq
def askT (t : ByteArray) : ByteArray := t ++ ⟨#[63]⟩
def enT (t : ByteArray) (k : Nat) : ByteArray := if k % 4 = 3 then askT t else t
theorem askT_size (t : ByteArray) : (askT t).size = t.size + 1 := by rw [askT, ByteArray.size_append]; rfl
theorem askT_ne (t : ByteArray) : askT t ≠ t := fun h => by have := askT_size t; rw [h] at this; omega
structure EnOk (e : Int) (l : List Int) (t : ByteArray) (V : List Vt) : Prop where
  ok : VOk e l V
  two : ∀ v ∈ V, v.2 = (t, l) ∨ v.2 = (askT t, l)
theorem two_cnt {t : ByteArray} {l : List Int} : ∀ {V : List Vt}, (∀ v ∈ V, v.2 = (t, l) ∨ v.2 = (askT t, l)) → cntC V (t, l) + cntC V (askT t, l) = V.length
  | [], _ => rfl
  | v :: r, h => by
    have ih := two_cnt (V := r) (fun u hu => h u (by simp [hu]))
    have h1 : ∀ u, cntC (v :: r) u = (if v.2 = u then 1 else 0) + cntC r u := fun u => by
      unfold cntC
      by_cases h : v.2 = u
      · simp [h]; omega
      · simp [h]
    rw [h1, h1, List.length_cons]
    rcases h v (by simp) with hv | hv
    · rw [if_pos hv, if_neg (by rw [hv]; intro hc; injection hc with hc; exact askT_ne t hc.symm)]; omega
    · rw [if_pos hv, if_neg (by rw [hv]; intro hc; injection hc with hc; exact askT_ne t hc)]; omega
theorem EnOk.step {e : Int} {l : List Int} {t : ByteArray} {V : List Vt} (h : EnOk e l t V) (k : Nat) (x : Int) (hs : (enT t k).size ≤ 140737488355328) (hG : vGood e l (enT t k) l = true) : EnOk e l t (if freshB l V x = true then V ++ [(x, enT t k, l)] else V) := by
  rw [← addV_fresh hG]
  refine ⟨h.ok.add hs, fun v hv => ?_⟩
  rw [addV_fresh hG] at hv
  split at hv
  · rw [List.mem_append, List.mem_singleton] at hv
    rcases hv with hv | rfl
    · exact h.two v hv
    · unfold enT
      split
      · exact .inr rfl
      · exact .inl rfl
  · exact h.two v hv
theorem en_cnt {l : List Int} {t : ByteArray} {V : List Vt} (k : Nat) (x : Int) : cntC (if freshB l V x = true then V ++ [(x, enT t k, l)] else V) (t, l) = cntC V (t, l) + if freshB l V x = true ∧ k % 4 ≠ 3 then 1 else 0 := by
  by_cases hf : freshB l V x = true
  · rw [if_pos hf, cntC_snoc]
    unfold enT
    by_cases h3 : k % 4 = 3
    · rw [if_pos h3, if_neg (fun hc => by injection hc with hc; exact askT_ne t hc), if_neg (fun hc => hc.2 h3)]
    · rw [if_neg h3, if_pos rfl, if_pos ⟨hf, h3⟩]
  · rw [if_neg hf, if_neg (fun hc => hf hc.1)]; omega
theorem en_app {l : List Int} {t : ByteArray} {V : List Vt} (k : Nat) (x : Int) : (k % 4 = 3 → cntC (V ++ [(x, enT t k, l)]) (t, l) = cntC V (t, l)) ∧ (¬ k % 4 = 3 → cntC (V ++ [(x, enT t k, l)]) (t, l) = cntC V (t, l) + 1) := by
  rw [cntC_snoc]
  unfold enT
  refine ⟨fun h3 => ?_, fun h3 => ?_⟩
  · rw [if_pos h3, if_neg (fun hc => by injection hc with hc; exact askT_ne t hc), Nat.add_zero]
  · rw [if_neg h3, if_pos rfl]
theorem right_next {e : Int} {l : List Int} (h : rightB e l = true) (h60 : e < 60) : rightB (e + 1) l = true := by
  obtain ⟨h1, h2, h3⟩ := rightB_rising h
  rw [rightB_3 _ _ (by omega) (by omega)]; exact h3
theorem good_next {e : Int} {l : List Int} {t : ByteArray} (h : rightB e l = true) (h60 : e < 60) (ht : t.size ≠ 0) (k : Nat) : vGood e l (enT t k) l = true := by
  unfold vGood
  rw [h, right_next h h60, Bool.true_and, Bool.and_true, decide_eq_true_eq]
  unfold enT
  split
  · rw [askT_size]; omega
  · exact ht
theorem enT_size (t : ByteArray) (k : Nat) : (enT t k).size ≤ t.size + 1 := by
  unfold enT
  split
  · rw [askT_size]; omega
  · omega
theorem any_idx {V : List Vt} {x : Int} : decide (idxFrom 0 (V.map (·.1)) x < 0) = !(V.any fun v => v.1 == x) := by
  have h1 := idxFrom_has (V.map (·.1)) x 0
  have h2 : hasB (V.map (·.1)) x = V.any fun v => v.1 == x := by
    rw [Bool.eq_iff_iff, hasB_iff15, any_iff]
  rw [← h2, ← h1]
  by_cases h : (0 : Int) ≤ idxFrom 0 (V.map (·.1)) x
  · rw [decide_eq_true h, decide_eq_false (by omega)]; rfl
  · rw [decide_eq_false h, decide_eq_true (by omega)]; rfl

set_option maxHeartbeats 400000 in
theorem where15_any (a : Option Addr) (n c : Nat) (l : List Int) (id : Int) (w : World) (h : IntsAt w a n l) :
    Calls Try.prog 23 #[.slice a n c, .int .i64 id] w fun e w' => e = .returned (.int .i64 (idxFrom 0 l id)) ∧ w = w' := by
  have hmax := h.max
  have Hlen := Lib.hid h.len
  have H := Lib.hid h; clear h
  go_enter Try.func23, Try.ntmps23
  go_wp2_with fail
  go_loop [5] (fun i => ∃ k : Nat, k ≤ n ∧ i = .int .i64 k ∧ Hid (idxFrom 0 l id = idxFrom k (l.drop k) id)) (fun i => n - (intOf i).toNat)
  case atStart => exact ⟨0, by omega, rfl, Lib.hid (by simp)⟩
  case round =>
    obtain ⟨k, hk, rfl, hup⟩ := hrel
    by_cases hlt : k < n
    · have hd0 : decide ((k : Int) < (n : Int)) = true := by simp; omega
      obtain ⟨b, o, x, rfl, hc, b0, b1, hd, _⟩ := H.out.elem k hlt
      by_cases hs : id = x
      · have hf := Lib.hid (show idxFrom 0 l id = k by rw [hup.out, hd.out, idxFrom_stop k x id _ hs])
        have hb : (x == id) = true := by simp [hs]
        clear hs
        go_wp2_with fail
        go_ret
        exact ⟨by rw [hf.out]; rfl, rfl⟩
      · have hg := Lib.hid (show idxFrom 0 l id = idxFrom (k + 1) (l.drop (k + 1)) id by rw [hup.out, hd.out, idxFrom_go k x id _ hs])
        have hb : (x == id) = false := by simp; exact fun h => hs h.symm
        clear hs
        go_wp2_with fail
        go_round
        case rel => exact ⟨k + 1, by omega, by go_num, hg⟩
        case measure => simp [intOf]; omega
    · have hd0 : decide ((k : Int) < (n : Int)) = false := by simp; omega
      have hg := Lib.hid (show idxFrom 0 l id = -1 by rw [hup.out, List.drop_eq_nil_of_le (by rw [Hlen.out]; omega)]; rfl)
      clear hup
      go_wp2_with fail
      go_ret
      exact ⟨by rw [hg.out]; rfl, rfl⟩
end Go.Proofs.Ytfhbjajhmegdmaa
