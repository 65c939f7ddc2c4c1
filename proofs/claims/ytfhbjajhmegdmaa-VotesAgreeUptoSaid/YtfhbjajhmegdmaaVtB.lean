
/- Two tallies beside each other, and what was said first. -/
import Derived.Test.YtfhbjajhmegdmaaVtA
namespace Go.Proofs.Ytfhbjajhmegdmaa
set_option maxRecDepth 100000
open Go.RowKit
set_option linter.unusedVariables false
set_option linter.unusedSimpArgs false

/-- The first votes as a row. -/
def Firsts (W B : Nat) (w : World) (vs vf : Value) (F : List Hv) : Prop :=
  w.ownsRow B 3 1 vs F.length (intsV (F.map (·.1))) ∧ ∃ xs, w.ownsRow B 38 4 vf F.length xs ∧ rowOf shVote (fun k => W ≤ k) w F xs
theorem Firsts.keep {W B : Nat} {w w' : World} {vs vf : Value} {F : List Hv} {Y : Nat → Prop} (h : Firsts W B w vs vf F) (hk : Keep Y w w') (hW : ∀ j, Y j → W ≤ j) (h1 : ∀ j, vs.ownBlock = some j → ¬ Y j) (h2 : ∀ j, vf.ownBlock = some j → ¬ Y j) : Firsts W B w' vs vf F := by
  obtain ⟨g1, xs, g2, g3⟩ := h
  exact ⟨owns_keep g1 hk h1, xs, owns_keep g2 hk h2, g3.step hk (fun j _ hj => hW j hj) (fun _ _ h => h)⟩
structure Ag (W B : Nat) (bad : List Int) (e : Int) (l : List Int) (p mv mc p' mv' mc' : Nat) (w : World) (vs vf : Value) (F : List Hv) : Prop where
  fs : Firsts W B w vs vf F
  nd : (F.map (·.1)).Nodup
  ex : ∃ V U M1 M2, VOk e l V ∧ VOk e l U ∧ Told bad F V ∧ Told bad F U ∧ (∀ j, M1 j → B ≤ j) ∧ (∀ j, M2 j → B ≤ j) ∧ (∀ j, M1 j → ¬ M2 j) ∧
    (∀ j, (vs.ownBlock = some j ∨ vf.ownBlock = some j) → ¬ M1 j ∧ ¬ M2 j) ∧ TalAt M1 w p mv mc e l V ∧ TalAt M2 w p' mv' mc' e l U
section
variable {W B : Nat} {bad : List Int} {e : Int} {l : List Int} {p mv mc p' mv' mc' : Nat} {w w' : World} {vs vf : Value} {F : List Hv}
theorem Ag.old (h : Ag W B bad e l p mv mc p' mv' mc' w vs vf F) (hb : Below w.heap.size w w') : Ag W B bad e l p mv mc p' mv' mc' w' vs vf F := by
  obtain ⟨V, U, M1, M2, h1, h2, h3, h4, h5, h6, h7, h8, h9, h10⟩ := h.ex
  exact ⟨h.fs.keep (Y := fun _ => False) (Keep.of_below hb) (fun _ h => h.elim) (fun _ _ h => h) (fun _ _ h => h), h.nd, V, U, M1, M2, h1, h2, h3, h4, h5, h6, h7, h8, h9.old hb, h10.old hb⟩
theorem below_keep {Y : Nat → Prop} (hk : Keep Y w w') (hB : B ≤ w.heap.size) (hY : ∀ j, Y j → B ≤ j) : Below B w w' := ⟨hk.os, hk.tape, hk.output, hk.size, fun j hj => hk.block j (by omega) (fun h => by have := hY j h; omega)⟩

/-- Add of the first tally. -/
theorem add1_any (h : Ag W B bad e l p mv mc p' mv' mc' w vs vf F) (hWB : W ≤ B) (hB : B ≤ w.heap.size) (x : Int) (t : ByteArray) (b : Option Addr) (m d : Nat) (nx : List Int) (q : Int) (sa : Option Addr) (sn sc : Nat) (sigs : List Sg)
    (hf : hasB bad x = true ∨ (x, t, nx, q) ∈ F) (hv : VoteIn w x t b m d nx q) (hs : SlAt shSig w sa sn sc sigs) :
    Calls Try.prog 15 #[.pointer (some ⟨p, 0, none⟩), .int .i64 x, .string t, .slice b m d, .slice sa sn sc] w fun r w' => (∃ z, r = .returned (.int .i64 z)) ∧ Below B w w' ∧ Ag W B bad e l p mv mc p' mv' mc' w' vs vf F := by
  obtain ⟨V, U, M1, M2, h1, h2, h3, h4, h5, h6, h7, h8, h9, h10⟩ := h.ex
  refine (vadd_any M1 p mv mc e l V x t b m d nx sa sn sc sigs w h9 h1 hv.x hv.t (ints_of_sl hv.s) hv.nil hv.s.bytes hs).mono ?_
  rintro r w' ⟨rfl, hk, M, hM, hT⟩
  have hmv := h5 _ h9.mine.2.1
  have hmc := h5 _ h9.mine.2.2
  have hlo : ∀ j, (vs.ownBlock = some j ∨ vf.ownBlock = some j) → j < w.heap.size := fun j hj => by
    rcases hj with hj | hj
    · exact (h.fs.1.lt j hj).2
    · obtain ⟨xs, g2, _⟩ := h.fs.2
      exact (g2.lt j hj).2
  refine ⟨⟨_, rfl⟩, below_keep hk hB (fun j hj => by rcases hj with rfl | rfl <;> assumption), h.fs.keep hk (fun j hj => by rcases hj with rfl | rfl <;> omega) (fun j hj hy => ?_) (fun j hj hy => ?_), h.nd, _, U, M, M2, h1.add hv.t, h2, h3.add (f := (x, t, nx, q)) hf sigs, h4, fun j hj => (hM j hj).elim (h5 j) (fun h => by omega), h6, fun j hj hj2 => ?_, fun j hj => ⟨fun hm => ?_, (h8 j hj).2⟩, hT, h10.keep hk (fun j hj => ?_)⟩
  · rcases hy with rfl | rfl
    · exact (h8 _ (.inl hj)).1 h9.mine.2.1
    · exact (h8 _ (.inl hj)).1 h9.mine.2.2
  · rcases hy with rfl | rfl
    · exact (h8 _ (.inr hj)).1 h9.mine.2.1
    · exact (h8 _ (.inr hj)).1 h9.mine.2.2
  · rcases hM j hj with hm | hm
    · exact h7 j hm hj2
    · have := h10.lt j hj2; omega
  · rcases hM j hm with hm | hm
    · exact (h8 j hj).1 hm
    · have := hlo j hj; omega
  · rcases hj with rfl | rfl
    · exact h7 _ h9.mine.2.1
    · exact h7 _ h9.mine.2.2
theorem Ag.swap (h : Ag W B bad e l p mv mc p' mv' mc' w vs vf F) : Ag W B bad e l p' mv' mc' p mv mc w vs vf F := by
  obtain ⟨V, U, M1, M2, h1, h2, h3, h4, h5, h6, h7, h8, h9, h10⟩ := h.ex
  exact ⟨h.fs, h.nd, U, V, M2, M1, h2, h1, h4, h3, h6, h5, fun j hj hj2 => h7 j hj2 hj, fun j hj => ⟨(h8 j hj).2, (h8 j hj).1⟩, h10, h9⟩
theorem add2_any (h : Ag W B bad e l p mv mc p' mv' mc' w vs vf F) (hWB : W ≤ B) (hB : B ≤ w.heap.size) (x : Int) (t : ByteArray) (b : Option Addr) (m d : Nat) (nx : List Int) (q : Int) (sa : Option Addr) (sn sc : Nat) (sigs : List Sg)
    (hf : hasB bad x = true ∨ (x, t, nx, q) ∈ F) (hv : VoteIn w x t b m d nx q) (hs : SlAt shSig w sa sn sc sigs) :
    Calls Try.prog 15 #[.pointer (some ⟨p', 0, none⟩), .int .i64 x, .string t, .slice b m d, .slice sa sn sc] w fun r w' => (∃ z, r = .returned (.int .i64 z)) ∧ Below B w w' ∧ Ag W B bad e l p mv mc p' mv' mc' w' vs vf F :=
  (add1_any h.swap hWB hB x t b m d nx q sa sn sc sigs hf hv hs).mono fun r w' ⟨h1, h2, h3⟩ => ⟨h1, h2, h3.swap⟩
/-- One more is said. -/
theorem Ag.more (h : Ag W B bad e l p mv mc p' mv' mc' w vs vf F) (hk : Keep (fun j => vs.ownBlock = some j ∨ vf.ownBlock = some j) w w') {vs' vf' : Value} {f : Hv} (hno : f.1 ∉ F.map (·.1)) (hfs : Firsts W B w' vs' vf' (F ++ [f]))
    (hn : ∀ j, (vs'.ownBlock = some j ∨ vf'.ownBlock = some j) → (vs.ownBlock = some j ∨ vf.ownBlock = some j) ∨ w.heap.size ≤ j) : Ag W B bad e l p mv mc p' mv' mc' w' vs' vf' (F ++ [f]) := by
  obtain ⟨V, U, M1, M2, h1, h2, h3, h4, h5, h6, h7, h8, h9, h10⟩ := h.ex
  refine ⟨hfs, ?_, V, U, M1, M2, h1, h2, h3.more f, h4.more f, h5, h6, h7, fun j hj => ?_, h9.keep hk (fun j hj => (h8 j hj).1), h10.keep hk (fun j hj => (h8 j hj).2)⟩
  · rw [List.map_append, List.nodup_append]
    refine ⟨h.nd, by simp, ?_⟩
    intro a ha b hb
    simp at hb
    subst hb
    rintro rfl
    exact hno ha
  · rcases hn j hj with h | h
    · exact h8 j h
    · exact ⟨fun hm => by have := h9.lt j hm; omega, fun hm => by have := h10.lt j hm; omega⟩
theorem bsetB {N : Nat} (h : Below N w w') {b : Nat} (hb : N ≤ b) (o : Nat) (v : Value) : Below N w (w'.setCell ⟨b, o, none⟩ v) := h.setCell hb v
theorem vote_cells_old {w0 : World} {a : Option Addr} {n c : Nat} {L : List Hv} (h : SlAt shVote w0 a n c L) (hb : Below w0.heap.size w0 w) {i : Nat} (hi : i < n) :
    ∃ b o x t l' q a' n' c', a = some ⟨b, o, none⟩ ∧ L[i]? = some (x, t, l', q) ∧ w.cell? ⟨b, o + i * 4, none⟩ = some (.int .i64 x) ∧ w.cell? ⟨b, o + i * 4 + 1, none⟩ = some (.string t) ∧ w.cell? ⟨b, o + i * 4 + 2, none⟩ = some (.slice a' n' c') ∧ w.cell? ⟨b, o + i * 4 + 3, none⟩ = some (.int .i64 q) ∧ ∀ w', Below w0.heap.size w0 w' → VoteIn w' x t a' n' c' l' q := by
  obtain ⟨b, o, x, t, l', q, a', n', c', h1, h2, h3, h4, h5, h6, h7⟩ := vote_cells h hi
  exact ⟨b, o, x, t, l', q, a', n', c', h1, h2, by rw [hb.cell (World.block_lt h3)]; exact h3, by rw [hb.cell (World.block_lt h4)]; exact h4, by rw [hb.cell (World.block_lt h5)]; exact h5, by rw [hb.cell (World.block_lt h6)]; exact h6, fun w' hw => h7.old hw⟩
theorem owns_get {e s n n' c : Nat} {a : Option Addr} {xs : List Value} (h : w.ownsRow B e s (.slice a n c) n' xs) {j : Nat} {v : Value} (hj : xs[j]? = some v) : ∃ g, a = some ⟨g, 0, none⟩ ∧ w.cell? ⟨g, j, none⟩ = some v := by
  rcases h.2 with ⟨_, h0⟩ | ⟨g, cap, cur, h0, _, hg, _, _, _, ht⟩
  · have hl := h.1
    rw [h0, Nat.zero_mul] at hl
    rw [List.eq_nil_of_length_eq_zero hl] at hj
    cases hj
  · injection h0 with h0
    refine ⟨g, h0, ?_⟩
    rw [blk_cell hg, ← hj, ← ht]
    have hlt : j < (cur.toList.take (n' * s)).length := by rw [ht]; exact (List.getElem?_eq_some_iff.1 hj).1
    rw [List.length_take] at hlt
    rw [List.getElem?_take_of_lt (by omega)]
    simp
theorem first_cells {X : Nat → Prop} {bv : Option Addr} {n dv : Nat} {xs : List Value} (hf : w.ownsRow B 38 4 (.slice bv n dv) F.length xs) (hr : rowOf shVote X w F xs) {i : Nat} {x : Int} {t : ByteArray} {nx : List Int} {q : Int} (hi : F[i]? = some (x, t, nx, q)) :
    ∃ fb a n c, bv = some ⟨fb, 0, none⟩ ∧ w.cell? ⟨fb, i * 4, none⟩ = some (.int .i64 x) ∧ w.cell? ⟨fb, i * 4 + 1, none⟩ = some (.string t) ∧ w.cell? ⟨fb, i * 4 + 2, none⟩ = some (.slice a n c) ∧ w.cell? ⟨fb, i * 4 + 3, none⟩ = some (.int .i64 q) ∧ Rob X (fun w' => VoteIn w' x t a n c nx q) w := by
  obtain ⟨cs, hl, hE, hx⟩ := hr.get hi
  obtain ⟨x', t', nx', q', a, n, c, h1, rfl, hv⟩ := vote_open hE.self
  injection h1 with h1 h2
  injection h2 with h2 h3
  injection h3 with h3 h4
  subst h1 h2 h3 h4
  obtain ⟨g, rfl, c0⟩ := owns_get hf (hx 0 _ rfl)
  obtain ⟨g1, e1, c1⟩ := owns_get hf (hx 1 _ rfl)
  obtain ⟨g2, e2, c2⟩ := owns_get hf (hx 2 _ rfl)
  obtain ⟨g3, e3, c3⟩ := owns_get hf (hx 3 _ rfl)
  injection e1 with e1; injection e1 with e1; subst e1
  injection e2 with e2; injection e2 with e2; subst e2
  injection e3 with e3; injection e3 with e3; subst e3
  refine ⟨g, a, n, c, rfl, c0, c1, c2, c3, fun w' hk => ?_⟩
  obtain ⟨x2, t2, nx2, q2, a2, n2, c2', h1, h2, hv2⟩ := vote_open (hE w' hk)
  injection h1 with h1 h3
  injection h3 with h3 h4
  injection h4 with h4 h5
  subst h1 h3 h4 h5
  injection h2 with _ h2
  injection h2 with _ h2
  injection h2 with h2 _
  injection h2 with h2 h3 h4
  subst h2 h3 h4
  exact hv2
theorem idx_at {F : List Hv} {x : Int} (h : (0 : Int) ≤ idxFrom 0 (F.map (·.1)) x) : ∃ i : Nat, idxFrom 0 (F.map (·.1)) x = (i : Int) ∧ ∃ f, F[i]? = some f ∧ f.1 = x := by
  have key : ∀ (F : List Hv) (k : Nat), (0 : Int) ≤ idxFrom k (F.map (·.1)) x → ∃ i : Nat, idxFrom k (F.map (·.1)) x = ((k + i : Nat) : Int) ∧ ∃ f, F[i]? = some f ∧ f.1 = x := by
    intro F
    induction F with
    | nil => intro k h; exact absurd h (by show ¬ (0 : Int) ≤ -1; decide)
    | cons g r ih =>
      intro k h
      rw [List.map_cons] at h ⊢
      by_cases hx : x = g.1
      · exact ⟨0, by rw [idxFrom_stop k _ x _ hx]; simp, g, rfl, hx.symm⟩
      · rw [idxFrom_go k _ x _ hx] at h ⊢
        obtain ⟨i, hi, f, hf, hfx⟩ := ih (k + 1) h
        exact ⟨i + 1, by rw [hi]; omega, f, by simpa using hf, hfx⟩
  obtain ⟨i, hi, hf⟩ := key F 0 h
  exact ⟨i, by rw [hi]; simp, hf⟩
theorem idx_no {F : List Hv} {x : Int} (h : ¬ (0 : Int) ≤ idxFrom 0 (F.map (·.1)) x) : x ∉ F.map (·.1) := fun hm => by
  have h1 := idxFrom_has (F.map (·.1)) x 0
  rw [decide_eq_false h] at h1
  rw [hasB_iff15.2 hm] at h1
  cases h1
end
end Go.Proofs.Ytfhbjajhmegdmaa
