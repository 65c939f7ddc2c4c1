
/- So many votes alike as a quorum settle: plain; where. -/
import Derived.Test.YtfhbjajhmegdmaaLv15
namespace Go.Proofs.Ytfhbjajhmegdmaa
set_option maxRecDepth 100000
open Go.RowKit
set_option linter.unusedVariables false
set_option linter.unusedSimpArgs false

theorem bset {w w' : World} (h : Below w.heap.size w w') {b : Nat} (hb : w.heap.size ≤ b) (o : Nat) (v : Value) : Below w.heap.size w (w'.setCell ⟨b, o, none⟩ v) := h.setCell hb v
def freshB (l : List Int) (V : List Vt) (x : Int) : Bool := hasB l x && !(V.any fun v => v.1 == x)
theorem addE_fresh {e : Int} {l : List Int} {V : List Vt} {x : Int} {t : ByteArray} {nx : List Int} (hG : vGood e l t nx = true) : (addE e l V x t nx (sgOf 0 x (vS e l t nx) (vC e l t nx)) == 0) = freshB l V x := by
  rw [addE_honest hG, freshB]
  cases hasB l x <;> cases V.any (fun v => v.1 == x) <;> rfl
theorem addV_fresh {e : Int} {l : List Int} {V : List Vt} {x : Int} {t : ByteArray} {nx : List Int} (hG : vGood e l t nx = true) : addV e l V x t nx (sgOf 0 x (vS e l t nx) (vC e l t nx)) = if freshB l V x = true then V ++ [(x, t, nx)] else V := by
  rw [addV, ← addE_fresh hG]
  simp
theorem win_iff {e : Int} {l : List Int} {V : List Vt} (h : VOk e l V) (y : ByteArray × List Int) : winner l V = some y ↔ quorumP l.length ≤ (cntC V y : Int) := by
  constructor
  · intro hw; exact (winner_some hw).1
  · intro hq
    have h10 := risingB_len (rightB_rising h.right).2.2
    have hp := quorum_pos (n := l.length) (by omega)
    have h0 : 0 < cntC V y := by omega
    unfold cntC at h0
    obtain ⟨v, hv⟩ := List.exists_mem_of_length_pos h0
    rw [List.mem_filter, decide_eq_true_eq] at hv
    obtain ⟨hv, rfl⟩ := hv
    exact (winner_of h hv).1 hq
def askT (t : ByteArray) : ByteArray := t ++ ⟨#[63]⟩
def enT (t : ByteArray) (k : Nat) : ByteArray := if k % 4 = 3 then askT t else t
theorem askT_size (t : ByteArray) : (askT t).size = t.size + 1 := by rw [askT, ByteArray.size_append]; rfl
theorem askT_ne (t : ByteArray) : askT t ≠ t := fun h => by have := askT_size t; rw [h] at this; omega
structure EnOk (e : Int) (l : List Int) (t : ByteArray) (V : List Vt) : Prop where
  ok : VOk e l V
  two : ∀ v ∈ V, v.2 = (t, l) ∨ v.2 = (askT t, l)
theorem two_cnt {t : ByteArray} {l : List Int} : ∀ {V : List Vt}, (∀ v ∈ V, v.2 = (t, l) ∨ v.2 = (askT t, l)) → cntC V (t, l) + cntC V (askT t, l) = V.length
  | [], _ => rfl
  | v :: r, h => by
    have ih := two_cnt (V := r) (fun u hu => h u (by simp [hu]))
    have h1 : ∀ u, cntC (v :: r) u = (if v.2 = u then 1 else 0) + cntC r u := fun u => by
      unfold cntC
      by_cases h : v.2 = u
      · simp [h]; omega
      · simp [h]
    rw [h1, h1, List.length_cons]
    rcases h v (by simp) with hv | hv
    · rw [if_pos hv, if_neg (by rw [hv]; intro hc; injection hc with hc; exact askT_ne t hc.symm)]; omega
    · rw [if_pos hv, if_neg (by rw [hv]; intro hc; injection hc with hc; exact askT_ne t hc)]; omega
theorem EnOk.step {e : Int} {l : List Int} {t : ByteArray} {V : List Vt} (h : EnOk e l t V) (k : Nat) (x : Int) (hs : (enT t k).size ≤ 140737488355328) (hG : vGood e l (enT t k) l = true) : EnOk e l t (if freshB l V x = true then V ++ [(x, enT t k, l)] else V) := by
  rw [← addV_fresh hG]
  refine ⟨h.ok.add hs, fun v hv => ?_⟩
  rw [addV_fresh hG] at hv
  split at hv
  · rw [List.mem_append, List.mem_singleton] at hv
    rcases hv with hv | rfl
    · exact h.two v hv
    · unfold enT
      split
      · exact .inr rfl
      · exact .inl rfl
  · exact h.two v hv
theorem en_cnt {l : List Int} {t : ByteArray} {V : List Vt} (k : Nat) (x : Int) : cntC (if freshB l V x = true then V ++ [(x, enT t k, l)] else V) (t, l) = cntC V (t, l) + if freshB l V x = true ∧ k % 4 ≠ 3 then 1 else 0 := by
  by_cases hf : freshB l V x = true
  · rw [if_pos hf, cntC_snoc]
    unfold enT
    by_cases h3 : k % 4 = 3
    · rw [if_pos h3, if_neg (fun hc => by injection hc with hc; exact askT_ne t hc), if_neg (fun hc => hc.2 h3)]
    · rw [if_neg h3, if_pos rfl, if_pos ⟨hf, h3⟩]
  · rw [if_neg hf, if_neg (fun hc => hf hc.1)]; omega
theorem en_app {l : List Int} {t : ByteArray} {V : List Vt} (k : Nat) (x : Int) : (k % 4 = 3 → cntC (V ++ [(x, enT t k, l)]) (t, l) = cntC V (t, l)) ∧ (¬ k % 4 = 3 → cntC (V ++ [(x, enT t k, l)]) (t, l) = cntC V (t, l) + 1) := by
  rw [cntC_snoc]
  unfold enT
  refine ⟨fun h3 => ?_, fun h3 => ?_⟩
  · rw [if_pos h3, if_neg (fun hc => by injection hc with hc; exact askT_ne t hc), Nat.add_zero]
  · rw [if_neg h3, if_pos rfl]
theorem right_next {e : Int} {l : List Int} (h : rightB e l = true) (h60 : e < 60) : rightB (e + 1) l = true := by
  obtain ⟨h1, h2, h3⟩ := rightB_rising h
  rw [rightB_3 _ _ (by omega) (by omega)]; exact h3
theorem good_next {e : Int} {l : List Int} {t : ByteArray} (h : rightB e l = true) (h60 : e < 60) (ht : t.size ≠ 0) (k : Nat) : vGood e l (enT t k) l = true := by
  unfold vGood
  rw [h, right_next h h60, Bool.true_and, Bool.and_true, decide_eq_true_eq]
  unfold enT
  split
  · rw [askT_size]; omega
  · exact ht
theorem enT_size (t : ByteArray) (k : Nat) : (enT t k).size ≤ t.size + 1 := by
  unfold enT
  split
  · rw [askT_size]; omega
  · omega
theorem any_idx {V : List Vt} {x : Int} : decide (idxFrom 0 (V.map (·.1)) x < 0) = !(V.any fun v => v.1 == x) := by
  have h1 := idxFrom_has (V.map (·.1)) x 0
  have h2 : hasB (V.map (·.1)) x = V.any fun v => v.1 == x := by
    rw [Bool.eq_iff_iff, hasB_iff15, any_iff]
  rw [← h2, ← h1]
  by_cases h : (0 : Int) ≤ idxFrom 0 (V.map (·.1)) x
  · rw [decide_eq_true h, decide_eq_false (by omega)]; rfl
  · rw [decide_eq_false h, decide_eq_true (by omega)]; rfl

set_option maxHeartbeats 400000 in
theorem where15_any (a : Option Addr) (n c : Nat) (l : List Int) (id : Int) (w : World) (h : IntsAt w a n l) :
    Calls Try.prog 23 #[.slice a n c, .int .i64 id] w fun e w' => e = .returned (.int .i64 (idxFrom 0 l id)) ∧ w = w' := by
  have hmax := h.max
  have Hlen := Lib.hid h.len
  have H := Lib.hid h; clear h
  go_enter Try.func23, Try.ntmps23
  go_wp2_with fail
  go_loop [5] (fun i => ∃ k : Nat, k ≤ n ∧ i = .int .i64 k ∧ Hid (idxFrom 0 l id = idxFrom k (l.drop k) id)) (fun i => n - (intOf i).toNat)
  case atStart => exact ⟨0, by omega, rfl, Lib.hid (by simp)⟩
  case round =>
    obtain ⟨k, hk, rfl, hup⟩ := hrel
    by_cases hlt : k < n
    · have hd0 : decide ((k : Int) < (n : Int)) = true := by simp; omega
      obtain ⟨b, o, x, rfl, hc, b0, b1, hd, _⟩ := H.out.elem k hlt
      by_cases hs : id = x
      · have hf := Lib.hid (show idxFrom 0 l id = k by rw [hup.out, hd.out, idxFrom_stop k x id _ hs])
        have hb : (x == id) = true := by simp [hs]
        clear hs
        go_wp2_with fail
        go_ret
        exact ⟨by rw [hf.out]; rfl, rfl⟩
      · have hg := Lib.hid (show idxFrom 0 l id = idxFrom (k + 1) (l.drop (k + 1)) id by rw [hup.out, hd.out, idxFrom_go k x id _ hs])
        have hb : (x == id) = false := by simp; exact fun h => hs h.symm
        clear hs
        go_wp2_with fail
        go_round
        case rel => exact ⟨k + 1, by omega, by go_num, hg⟩
        case measure => simp [intOf]; omega
    · have hd0 : decide ((k : Int) < (n : Int)) = false := by simp; omega
      have hg := Lib.hid (show idxFrom 0 l id = -1 by rw [hup.out, List.drop_eq_nil_of_le (by rw [Hlen.out]; omega)]; rfl)
      clear hup
      go_wp2_with fail
      go_ret
      exact ⟨by rw [hg.out]; rfl, rfl⟩
end Go.Proofs.Ytfhbjajhmegdmaa

/- What is settled, in one form. -/
namespace Go.Proofs.Ytfhbjajhmegdmaa
set_option maxRecDepth 100000
open Go.RowKit
set_option linter.unusedVariables false
set_option linter.unusedSimpArgs false

/-- What is settled, in one form. -/
structure SetG (e : Int) (l : List Int) (V : List Vt) (X : Nat → Prop) (w : World) (tx : ByteArray) (a1 : Option Addr) (n1 c1 : Nat) (ep : Int) (a2 : Option Addr) (n2 c2 : Nat) (a3 : Option Addr) (n3 c3 : Nat) : Prop where
  none : winner l V = none → n1 = 0
  some : ∀ y, winner l V = some y → tx = y.1 ∧ ep = e + 1 ∧ Rob X (fun w' => SlAt shSig w' a1 n1 c1 ((who l V y).map fun x => (x, stS e y.1)) ∧ SlAt Sh.int w' a2 n2 c2 y.2 ∧ SlAt shSig w' a3 n3 c3 ((who l V y).map fun x => (x, textS (e + 1) y.2))) w
theorem SetG.step {e : Int} {l : List Int} {V : List Vt} {X X' Y : Nat → Prop} {w w' : World} {tx : ByteArray} {a1 : Option Addr} {n1 c1 : Nat} {ep : Int} {a2 : Option Addr} {n2 c2 : Nat} {a3 : Option Addr} {n3 c3 : Nat} (h : SetG e l V X w tx a1 n1 c1 ep a2 n2 c2 a3 n3 c3)
    (hk : Keep Y w w') (hY : ∀ k, k < w.heap.size → Y k → X k) (hX : ∀ k, k < w.heap.size → X' k → X k) : SetG e l V X' w' tx a1 n1 c1 ep a2 n2 c2 a3 n3 c3 :=
  ⟨h.none, fun y hy => ⟨(h.some y hy).1, (h.some y hy).2.1, (h.some y hy).2.2.step hk hY hX⟩⟩
theorem set_gen {e : Int} {l : List Int} {V : List Vt} {w w' : World} {r : Ending} (h : SetPost e l V w r w') : Below w.heap.size w w' ∧ ∃ tx a1 n1 c1 ep a2 n2 c2 a3 n3 c3, r = .returned (.tuple #[.agg #[.string tx, .slice a1 n1 c1, .int .i64 ep, .slice a2 n2 c2, .slice a3 n3 c3], .bool (winner l V).isSome]) ∧
    SetG e l V (fun k => k < w.heap.size) w' tx a1 n1 c1 ep a2 n2 c2 a3 n3 c3 := by
  obtain ⟨hb, h⟩ := h
  refine ⟨hb, ?_⟩
  cases hw : winner l V with
  | none =>
    rw [hw] at h
    exact ⟨_, none, 0, 0, _, none, 0, 0, none, 0, 0, h, ⟨fun _ => rfl, fun y hy => (by rw [hw] at hy; cases hy)⟩⟩
  | some y =>
    rw [hw] at h
    obtain ⟨a1, c1, a2, n2, c2, a3, c3, h1, h2⟩ := h
    exact ⟨_, a1, _, c1, _, a2, n2, c2, a3, _, c3, h1, ⟨fun hn => (by rw [hw] at hn; cases hn), fun z hz => by
      rw [hw] at hz
      injection hz with hz
      subst hz
      exact ⟨rfl, rfl, h2⟩⟩⟩
end Go.Proofs.Ytfhbjajhmegdmaa

/- No two tallies settle unlike things: plain; a pair of scripts. -/
namespace Go.Proofs.Ytfhbjajhmegdmaa
set_option maxRecDepth 100000
open Go.ChangeShapes Go.WideShapes Go.ChangeAt Go.RowKit Go.Deep
set_option linter.unusedVariables false
set_option linter.unusedSimpArgs false

/-- What an honest one voted for stands among the first. -/
def Told (bad : List Int) (F : List Hv) (V : List Vt) : Prop := ∀ v ∈ V, hasB bad v.1 = false → ∃ f ∈ F, f.1 = v.1 ∧ (f.2.1, f.2.2.1) = v.2
theorem Told.nil (bad : List Int) (F : List Hv) : Told bad F [] := fun v hv => by cases hv
theorem Told.more {bad : List Int} {F : List Hv} {V : List Vt} (h : Told bad F V) (f : Hv) : Told bad (F ++ [f]) V := fun v hv hb => by
  obtain ⟨g, hg, h1⟩ := h v hv hb
  exact ⟨g, by simp [hg], h1⟩
theorem Told.add {bad : List Int} {F : List Hv} {V : List Vt} {e : Int} {l : List Int} (h : Told bad F V) {f : Hv} (hf : hasB bad f.1 = true ∨ f ∈ F) (sigs : List Sg) : Told bad F (addV e l V f.1 f.2.1 f.2.2.1 sigs) := by
  unfold addV
  split
  · intro v hv hb
    rw [List.mem_append, List.mem_singleton] at hv
    rcases hv with hv | rfl
    · exact h v hv hb
    · rcases hf with hf | hf
      · have hb : hasB bad f.1 = false := hb
        rw [hf] at hb; cases hb
      · exact ⟨f, hf, rfl, rfl⟩
  · exact h
theorem nodup_map_eq {F : List Hv} (hn : (F.map (·.1)).Nodup) {f g : Hv} (hf : f ∈ F) (hg : g ∈ F) (h : f.1 = g.1) : f = g := by
  induction F with
  | nil => cases hf
  | cons z r ih =>
    rw [List.map_cons, List.nodup_cons] at hn
    rw [List.mem_cons] at hf hg
    rcases hf with rfl | hf
    · rcases hg with rfl | hg
      · rfl
      · exact absurd (List.mem_map.2 ⟨g, hg, h.symm⟩) hn.1
    · rcases hg with rfl | hg
      · exact absurd (List.mem_map.2 ⟨f, hf, h⟩) hn.1
      · exact ih hn.2 hf hg
theorem both_le (p q : Int → Bool) : ∀ l : List Int, (l.filter p).length + (l.filter q).length ≤ l.length + (l.filter fun x => p x && q x).length
  | [] => by simp
  | x :: l => by
    have ih := both_le p q l
    cases hp : p x <;> cases hq : q x <;> simp [List.filter_cons, hp, hq] <;> omega
theorem filter_le {p q : Int → Bool} : ∀ l : List Int, (∀ x ∈ l, p x = true → q x = true) → (l.filter p).length ≤ (l.filter q).length
  | [], _ => by simp
  | x :: l, h => by
    have ih := filter_le (p := p) (q := q) l (fun y hy => h y (by simp [hy]))
    have hx := h x (by simp)
    cases hp : p x
    · cases hq : q x <;> simp [List.filter_cons, hp, hq] <;> omega
    · simp [List.filter_cons, hp, hx hp]; omega
theorem agree {e : Int} {l : List Int} {bad : List Int} {F : List Hv} {V U : List Vt} (hV : VOk e l V) (hU : VOk e l U) (hn : (F.map (·.1)).Nodup) (tV : Told bad F V) (tU : Told bad F U) (hw : ((l.filter (hasB bad)).length : Int) ≤ faultsP l.length)
    {y z : ByteArray × List Int} (hy : winner l V = some y) (hz : winner l U = some z) : y = z := by
  have hln := right_nodup hV.right
  have h10 := risingB_len (rightB_rising hV.right).2.2
  have h1 := who_len hV hln y
  have h2 := who_len hU hln z
  have h3 := (winner_some hy).1
  have h4 := (winner_some hz).1
  have h5 := both_le (fun x => decide ((x, y) ∈ V)) (fun x => decide ((x, z) ∈ U)) l
  have hf := faultsP_bd (l.length : Int) (by omega)
  rw [quorumP_hi _ (by omega)] at h3 h4
  unfold who at h1 h2
  rw [h1, h2] at h5
  by_cases hall : ∀ x ∈ l, (decide ((x, y) ∈ V) && decide ((x, z) ∈ U)) = true → hasB bad x = true
  · have := filter_le l hall
    omega
  · have : ∃ x, x ∈ l ∧ (x, y) ∈ V ∧ (x, z) ∈ U ∧ hasB bad x = false := by
      false_or_by_contra
      rename_i hno
      exact hall (fun x hx hp => by
        rw [Bool.and_eq_true, decide_eq_true_eq, decide_eq_true_eq] at hp
        cases hb : hasB bad x with
        | true => rfl
        | false => exact absurd ⟨x, hx, hp.1, hp.2, hb⟩ hno)
    obtain ⟨x, _, hxy, hxz, hb⟩ := this
    obtain ⟨f, hf1, hf2, hf3⟩ := tV _ hxy hb
    obtain ⟨g, hg1, hg2, hg3⟩ := tU _ hxz hb
    have hfg := nodup_map_eq hn hf1 hg1 (hf2.trans hg2.symm)
    subst hfg
    exact hf3.symm.trans hg3

/-- An array of two. -/
def Sh.two {α : Type} (S : Sh α) : Sh (α × α) := (S.pair S).bytes (2 * S.bs)
theorem vw_two {P : Program} {t e : TypeId} {α : Type} {S : Sh α} (ht : P.underlying t = some (.array 2 e)) (V : Vw P e S) (hc : P.cellsOf t = S.k + S.k) (hb : P.bytesOf t = 2 * S.bs) : Vw P t S.two :=
  ⟨hc, hb, fun {H enc w fuel cs x} h hw => by
    obtain ⟨xs, m, rfl, rfl, hl, hxl, hi⟩ := DataW.trod_array ht h
    match xs, hxl with
    | [x0, x1], _ =>
      have h0 := hi 0 (by omega)
      have h1 := hi 1 (by omega)
      rw [V.1, Nat.zero_mul, List.drop_zero] at h0
      rw [V.1, Nat.one_mul, List.take_of_length_le (by simp; omega)] at h1
      have hf : Fit P e x0.1 ∧ Fit P e x1.1 := by
        rcases hw with hw | hw
        · refine ⟨.inl fun k hk => hw k ?_, .inl fun k hk => hw k ?_⟩
          · simp only [DataW.weights, ht]
            exact weightsAll_mem (by simp) k hk
          · simp only [DataW.weights, ht]
            exact weightsAll_mem (by simp) k hk
        · simp only [List.map_cons, List.map_nil, Rows.uptoBulk, Rows.uptoBulkAll] at hw
          exact ⟨.inr (by omega), .inr (by omega)⟩
      obtain ⟨y0, e0, s0⟩ := V.2.2 (x := x0) h0 hf.1
      obtain ⟨y1, e1, s1⟩ := V.2.2 (x := x1) h1 hf.2
      refine ⟨(y0, y1), ⟨_, _, (List.take_append_drop S.k cs).symm, e0, e1⟩, ?_⟩
      show S.sz y0 + S.sz y1 ≤ _
      simp only [List.map_cons, List.map_nil, Rows.uptoBulk, Rows.uptoBulkAll]
      omega⟩
theorem cells_arr {P : Program} {W : World} {r : Reach} {b0 n : Nat} {t e : TypeId} {v : Value} (hs : P.underlying t = some (.array n e)) (hv : Value.okWide P W r b0 t v) : ∃ cs, v = .agg cs ∧ v.cells = cs := by
  unfold Value.okWide at hv
  rw [hs] at hv
  obtain ⟨cs, rfl, _⟩ := hv
  exact ⟨cs, rfl, rfl⟩
theorem vwScripts : Vw Try.prog 59 shVote.slice.two := vw_two Try.underlying59 vwVotes (by kernel_rfl) (by kernel_rfl)
theorem scripts_open {w : World} {y : List Hv × List Hv} {cs : List Value} (h : shVote.slice.two.E w y cs) : ∃ s t a n c b m d, y = (s, t) ∧ cs = [.slice a n c, .slice b m d] ∧ SlAt shVote w a n c s ∧ SlAt shVote w b m d t := by
  obtain ⟨s, t⟩ := y
  obtain ⟨_, _, rfl, ⟨a, n, c, rfl, h1⟩, b, m, d, rfl, h2⟩ := h
  exact ⟨s, t, a, n, c, b, m, d, rfl, rfl, h1, h2⟩
theorem vote_len {L : List Hv} : L.length ≤ shVote.slice.sz L := by
  have h : ∀ L : List Hv, L.length ≤ (L.map shVote.sz).sum := fun L => by
    induction L with
    | nil => simp
    | cons y r ih =>
      rw [List.map_cons, List.sum_cons, List.length_cons]
      have : 1 ≤ shVote.sz y := by show 1 ≤ 1 + (y.2.1.size + 1 + (((y.2.2.1.map _).sum + 1) + 1)); omega
      omega
  have := h L
  show _ ≤ (L.map shVote.sz).sum + 1
  omega
end Go.Proofs.Ytfhbjajhmegdmaa

/- Two tallies beside each other, and what was said first. -/
namespace Go.Proofs.Ytfhbjajhmegdmaa
set_option maxRecDepth 100000
open Go.RowKit
set_option linter.unusedVariables false
set_option linter.unusedSimpArgs false

/-- The first votes as a row. -/
def Firsts (W B : Nat) (w : World) (vs vf : Value) (F : List Hv) : Prop :=
  w.ownsRow B 3 1 vs F.length (intsV (F.map (·.1))) ∧ ∃ xs, w.ownsRow B 38 4 vf F.length xs ∧ rowOf shVote (fun k => W ≤ k) w F xs
theorem Firsts.keep {W B : Nat} {w w' : World} {vs vf : Value} {F : List Hv} {Y : Nat → Prop} (h : Firsts W B w vs vf F) (hk : Keep Y w w') (hW : ∀ j, Y j → W ≤ j) (h1 : ∀ j, vs.ownBlock = some j → ¬ Y j) (h2 : ∀ j, vf.ownBlock = some j → ¬ Y j) : Firsts W B w' vs vf F := by
  obtain ⟨g1, xs, g2, g3⟩ := h
  exact ⟨owns_keep g1 hk h1, xs, owns_keep g2 hk h2, g3.step hk (fun j _ hj => hW j hj) (fun _ _ h => h)⟩
structure Ag (W B : Nat) (bad : List Int) (e : Int) (l : List Int) (p mv mc p' mv' mc' : Nat) (w : World) (vs vf : Value) (F : List Hv) : Prop where
  fs : Firsts W B w vs vf F
  nd : (F.map (·.1)).Nodup
  ex : ∃ V U M1 M2, VOk e l V ∧ VOk e l U ∧ Told bad F V ∧ Told bad F U ∧ (∀ j, M1 j → B ≤ j) ∧ (∀ j, M2 j → B ≤ j) ∧ (∀ j, M1 j → ¬ M2 j) ∧
    (∀ j, (vs.ownBlock = some j ∨ vf.ownBlock = some j) → ¬ M1 j ∧ ¬ M2 j) ∧ TalAt M1 w p mv mc e l V ∧ TalAt M2 w p' mv' mc' e l U
section
variable {W B : Nat} {bad : List Int} {e : Int} {l : List Int} {p mv mc p' mv' mc' : Nat} {w w' : World} {vs vf : Value} {F : List Hv}
theorem Ag.old (h : Ag W B bad e l p mv mc p' mv' mc' w vs vf F) (hb : Below w.heap.size w w') : Ag W B bad e l p mv mc p' mv' mc' w' vs vf F := by
  obtain ⟨V, U, M1, M2, h1, h2, h3, h4, h5, h6, h7, h8, h9, h10⟩ := h.ex
  exact ⟨h.fs.keep (Y := fun _ => False) (Keep.of_below hb) (fun _ h => h.elim) (fun _ _ h => h) (fun _ _ h => h), h.nd, V, U, M1, M2, h1, h2, h3, h4, h5, h6, h7, h8, h9.old hb, h10.old hb⟩
theorem below_keep {Y : Nat → Prop} (hk : Keep Y w w') (hB : B ≤ w.heap.size) (hY : ∀ j, Y j → B ≤ j) : Below B w w' := ⟨hk.os, hk.tape, hk.output, hk.size, fun j hj => hk.block j (by omega) (fun h => by have := hY j h; omega)⟩

/-- Add of the first tally. -/
theorem add1_any (h : Ag W B bad e l p mv mc p' mv' mc' w vs vf F) (hWB : W ≤ B) (hB : B ≤ w.heap.size) (x : Int) (t : ByteArray) (b : Option Addr) (m d : Nat) (nx : List Int) (q : Int) (sa : Option Addr) (sn sc : Nat) (sigs : List Sg)
    (hf : hasB bad x = true ∨ (x, t, nx, q) ∈ F) (hv : VoteIn w x t b m d nx q) (hs : SlAt shSig w sa sn sc sigs) :
    Calls Try.prog 15 #[.pointer (some ⟨p, 0, none⟩), .int .i64 x, .string t, .slice b m d, .slice sa sn sc] w fun r w' => (∃ z, r = .returned (.int .i64 z)) ∧ Below B w w' ∧ Ag W B bad e l p mv mc p' mv' mc' w' vs vf F := by
  obtain ⟨V, U, M1, M2, h1, h2, h3, h4, h5, h6, h7, h8, h9, h10⟩ := h.ex
  refine (vadd_any M1 p mv mc e l V x t b m d nx sa sn sc sigs w h9 h1 hv.x hv.t (ints_of_sl hv.s) hv.nil hv.s.bytes hs).mono ?_
  rintro r w' ⟨rfl, hk, M, hM, hT⟩
  have hmv := h5 _ h9.mine.2.1
  have hmc := h5 _ h9.mine.2.2
  have hlo : ∀ j, (vs.ownBlock = some j ∨ vf.ownBlock = some j) → j < w.heap.size := fun j hj => by
    rcases hj with hj | hj
    · exact (h.fs.1.lt j hj).2
    · obtain ⟨xs, g2, _⟩ := h.fs.2
      exact (g2.lt j hj).2
  refine ⟨⟨_, rfl⟩, below_keep hk hB (fun j hj => by rcases hj with rfl | rfl <;> assumption), h.fs.keep hk (fun j hj => by rcases hj with rfl | rfl <;> omega) (fun j hj hy => ?_) (fun j hj hy => ?_), h.nd, _, U, M, M2, h1.add hv.t, h2, h3.add (f := (x, t, nx, q)) hf sigs, h4, fun j hj => (hM j hj).elim (h5 j) (fun h => by omega), h6, fun j hj hj2 => ?_, fun j hj => ⟨fun hm => ?_, (h8 j hj).2⟩, hT, h10.keep hk (fun j hj => ?_)⟩
  · rcases hy with rfl | rfl
    · exact (h8 _ (.inl hj)).1 h9.mine.2.1
    · exact (h8 _ (.inl hj)).1 h9.mine.2.2
  · rcases hy with rfl | rfl
    · exact (h8 _ (.inr hj)).1 h9.mine.2.1
    · exact (h8 _ (.inr hj)).1 h9.mine.2.2
  · rcases hM j hj with hm | hm
    · exact h7 j hm hj2
    · have := h10.lt j hj2; omega
  · rcases hM j hm with hm | hm
    · exact (h8 j hj).1 hm
    · have := hlo j hj; omega
  · rcases hj with rfl | rfl
    · exact h7 _ h9.mine.2.1
    · exact h7 _ h9.mine.2.2
theorem Ag.swap (h : Ag W B bad e l p mv mc p' mv' mc' w vs vf F) : Ag W B bad e l p' mv' mc' p mv mc w vs vf F := by
  obtain ⟨V, U, M1, M2, h1, h2, h3, h4, h5, h6, h7, h8, h9, h10⟩ := h.ex
  exact ⟨h.fs, h.nd, U, V, M2, M1, h2, h1, h4, h3, h6, h5, fun j hj hj2 => h7 j hj2 hj, fun j hj => ⟨(h8 j hj).2, (h8 j hj).1⟩, h10, h9⟩
theorem add2_any (h : Ag W B bad e l p mv mc p' mv' mc' w vs vf F) (hWB : W ≤ B) (hB : B ≤ w.heap.size) (x : Int) (t : ByteArray) (b : Option Addr) (m d : Nat) (nx : List Int) (q : Int) (sa : Option Addr) (sn sc : Nat) (sigs : List Sg)
    (hf : hasB bad x = true ∨ (x, t, nx, q) ∈ F) (hv : VoteIn w x t b m d nx q) (hs : SlAt shSig w sa sn sc sigs) :
    Calls Try.prog 15 #[.pointer (some ⟨p', 0, none⟩), .int .i64 x, .string t, .slice b m d, .slice sa sn sc] w fun r w' => (∃ z, r = .returned (.int .i64 z)) ∧ Below B w w' ∧ Ag W B bad e l p mv mc p' mv' mc' w' vs vf F :=
  (add1_any h.swap hWB hB x t b m d nx q sa sn sc sigs hf hv hs).mono fun r w' ⟨h1, h2, h3⟩ => ⟨h1, h2, h3.swap⟩
/-- One more is said. -/
theorem Ag.more (h : Ag W B bad e l p mv mc p' mv' mc' w vs vf F) (hk : Keep (fun j => vs.ownBlock = some j ∨ vf.ownBlock = some j) w w') {vs' vf' : Value} {f : Hv} (hno : f.1 ∉ F.map (·.1)) (hfs : Firsts W B w' vs' vf' (F ++ [f]))
    (hn : ∀ j, (vs'.ownBlock = some j ∨ vf'.ownBlock = some j) → (vs.ownBlock = some j ∨ vf.ownBlock = some j) ∨ w.heap.size ≤ j) : Ag W B bad e l p mv mc p' mv' mc' w' vs' vf' (F ++ [f]) := by
  obtain ⟨V, U, M1, M2, h1, h2, h3, h4, h5, h6, h7, h8, h9, h10⟩ := h.ex
  refine ⟨hfs, ?_, V, U, M1, M2, h1, h2, h3.more f, h4.more f, h5, h6, h7, fun j hj => ?_, h9.keep hk (fun j hj => (h8 j hj).1), h10.keep hk (fun j hj => (h8 j hj).2)⟩
  · rw [List.map_append, List.nodup_append]
    refine ⟨h.nd, by simp, ?_⟩
    intro a ha b hb
    simp at hb
    subst hb
    rintro rfl
    exact hno ha
  · rcases hn j hj with h | h
    · exact h8 j h
    · exact ⟨fun hm => by have := h9.lt j hm; omega, fun hm => by have := h10.lt j hm; omega⟩
theorem bsetB {N : Nat} (h : Below N w w') {b : Nat} (hb : N ≤ b) (o : Nat) (v : Value) : Below N w (w'.setCell ⟨b, o, none⟩ v) := h.setCell hb v
theorem vote_cells_old {w0 : World} {a : Option Addr} {n c : Nat} {L : List Hv} (h : SlAt shVote w0 a n c L) (hb : Below w0.heap.size w0 w) {i : Nat} (hi : i < n) :
    ∃ b o x t l' q a' n' c', a = some ⟨b, o, none⟩ ∧ L[i]? = some (x, t, l', q) ∧ w.cell? ⟨b, o + i * 4, none⟩ = some (.int .i64 x) ∧ w.cell? ⟨b, o + i * 4 + 1, none⟩ = some (.string t) ∧ w.cell? ⟨b, o + i * 4 + 2, none⟩ = some (.slice a' n' c') ∧ w.cell? ⟨b, o + i * 4 + 3, none⟩ = some (.int .i64 q) ∧ ∀ w', Below w0.heap.size w0 w' → VoteIn w' x t a' n' c' l' q := by
  obtain ⟨b, o, x, t, l', q, a', n', c', h1, h2, h3, h4, h5, h6, h7⟩ := vote_cells h hi
  exact ⟨b, o, x, t, l', q, a', n', c', h1, h2, by rw [hb.cell (World.block_lt h3)]; exact h3, by rw [hb.cell (World.block_lt h4)]; exact h4, by rw [hb.cell (World.block_lt h5)]; exact h5, by rw [hb.cell (World.block_lt h6)]; exact h6, fun w' hw => h7.old hw⟩
theorem owns_get {e s n n' c : Nat} {a : Option Addr} {xs : List Value} (h : w.ownsRow B e s (.slice a n c) n' xs) {j : Nat} {v : Value} (hj : xs[j]? = some v) : ∃ g, a = some ⟨g, 0, none⟩ ∧ w.cell? ⟨g, j, none⟩ = some v := by
  rcases h.2 with ⟨_, h0⟩ | ⟨g, cap, cur, h0, _, hg, _, _, _, ht⟩
  · have hl := h.1
    rw [h0, Nat.zero_mul] at hl
    rw [List.eq_nil_of_length_eq_zero hl] at hj
    cases hj
  · injection h0 with h0
    refine ⟨g, h0, ?_⟩
    rw [blk_cell hg, ← hj, ← ht]
    have hlt : j < (cur.toList.take (n' * s)).length := by rw [ht]; exact (List.getElem?_eq_some_iff.1 hj).1
    rw [List.length_take] at hlt
    rw [List.getElem?_take_of_lt (by omega)]
    simp
theorem first_cells {X : Nat → Prop} {bv : Option Addr} {n dv : Nat} {xs : List Value} (hf : w.ownsRow B 38 4 (.slice bv n dv) F.length xs) (hr : rowOf shVote X w F xs) {i : Nat} {x : Int} {t : ByteArray} {nx : List Int} {q : Int} (hi : F[i]? = some (x, t, nx, q)) :
    ∃ fb a n c, bv = some ⟨fb, 0, none⟩ ∧ w.cell? ⟨fb, i * 4, none⟩ = some (.int .i64 x) ∧ w.cell? ⟨fb, i * 4 + 1, none⟩ = some (.string t) ∧ w.cell? ⟨fb, i * 4 + 2, none⟩ = some (.slice a n c) ∧ w.cell? ⟨fb, i * 4 + 3, none⟩ = some (.int .i64 q) ∧ Rob X (fun w' => VoteIn w' x t a n c nx q) w := by
  obtain ⟨cs, hl, hE, hx⟩ := hr.get hi
  obtain ⟨x', t', nx', q', a, n, c, h1, rfl, hv⟩ := vote_open hE.self
  injection h1 with h1 h2
  injection h2 with h2 h3
  injection h3 with h3 h4
  subst h1 h2 h3 h4
  obtain ⟨g, rfl, c0⟩ := owns_get hf (hx 0 _ rfl)
  obtain ⟨g1, e1, c1⟩ := owns_get hf (hx 1 _ rfl)
  obtain ⟨g2, e2, c2⟩ := owns_get hf (hx 2 _ rfl)
  obtain ⟨g3, e3, c3⟩ := owns_get hf (hx 3 _ rfl)
  injection e1 with e1; injection e1 with e1; subst e1
  injection e2 with e2; injection e2 with e2; subst e2
  injection e3 with e3; injection e3 with e3; subst e3
  refine ⟨g, a, n, c, rfl, c0, c1, c2, c3, fun w' hk => ?_⟩
  obtain ⟨x2, t2, nx2, q2, a2, n2, c2', h1, h2, hv2⟩ := vote_open (hE w' hk)
  injection h1 with h1 h3
  injection h3 with h3 h4
  injection h4 with h4 h5
  subst h1 h3 h4 h5
  injection h2 with _ h2
  injection h2 with _ h2
  injection h2 with h2 _
  injection h2 with h2 h3 h4
  subst h2 h3 h4
  exact hv2
theorem idx_at {F : List Hv} {x : Int} (h : (0 : Int) ≤ idxFrom 0 (F.map (·.1)) x) : ∃ i : Nat, idxFrom 0 (F.map (·.1)) x = (i : Int) ∧ ∃ f, F[i]? = some f ∧ f.1 = x := by
  have key : ∀ (F : List Hv) (k : Nat), (0 : Int) ≤ idxFrom k (F.map (·.1)) x → ∃ i : Nat, idxFrom k (F.map (·.1)) x = ((k + i : Nat) : Int) ∧ ∃ f, F[i]? = some f ∧ f.1 = x := by
    intro F
    induction F with
    | nil => intro k h; exact absurd h (by show ¬ (0 : Int) ≤ -1; decide)
    | cons g r ih =>
      intro k h
      rw [List.map_cons] at h ⊢
      by_cases hx : x = g.1
      · exact ⟨0, by rw [idxFrom_stop k _ x _ hx]; simp, g, rfl, hx.symm⟩
      · rw [idxFrom_go k _ x _ hx] at h ⊢
        obtain ⟨i, hi, f, hf, hfx⟩ := ih (k + 1) h
        exact ⟨i + 1, by rw [hi]; omega, f, by simpa using hf, hfx⟩
  obtain ⟨i, hi, hf⟩ := key F 0 h
  exact ⟨i, by rw [hi]; simp, hf⟩
theorem idx_no {F : List Hv} {x : Int} (h : ¬ (0 : Int) ≤ idxFrom 0 (F.map (·.1)) x) : x ∉ F.map (·.1) := fun hm => by
  have h1 := idxFrom_has (F.map (·.1)) x 0
  rw [decide_eq_false h] at h1
  rw [hasB_iff15.2 hm] at h1
  cases h1
end
end Go.Proofs.Ytfhbjajhmegdmaa
