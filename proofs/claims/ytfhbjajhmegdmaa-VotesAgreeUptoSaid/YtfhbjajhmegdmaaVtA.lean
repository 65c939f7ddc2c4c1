
/- No two tallies settle unlike things: plain; a pair of scripts. -/
import Derived.Test.YtfhbjajhmegdmaaVtQ
namespace Go.Proofs.Ytfhbjajhmegdmaa
set_option maxRecDepth 100000
open Go.ChangeShapes Go.WideShapes Go.ChangeAt Go.RowKit Go.Deep
set_option linter.unusedVariables false
set_option linter.unusedSimpArgs false

/-- What an honest one voted for stands among the first. -/
def Told (bad : List Int) (F : List Hv) (V : List Vt) : Prop := ∀ v ∈ V, hasB bad v.1 = false → ∃ f ∈ F, f.1 = v.1 ∧ (f.2.1, f.2.2.1) = v.2
theorem Told.nil (bad : List Int) (F : List Hv) : Told bad F [] := fun v hv => by cases hv
theorem Told.more {bad : List Int} {F : List Hv} {V : List Vt} (h : Told bad F V) (f : Hv) : Told bad (F ++ [f]) V := fun v hv hb => by
  obtain ⟨g, hg, h1⟩ := h v hv hb
  exact ⟨g, by simp [hg], h1⟩
theorem Told.add {bad : List Int} {F : List Hv} {V : List Vt} {e : Int} {l : List Int} (h : Told bad F V) {f : Hv} (hf : hasB bad f.1 = true ∨ f ∈ F) (sigs : List Sg) : Told bad F (addV e l V f.1 f.2.1 f.2.2.1 sigs) := by
  unfold addV
  split
  · intro v hv hb
    rw [List.mem_append, List.mem_singleton] at hv
    rcases hv with hv | rfl
    · exact h v hv hb
    · rcases hf with hf | hf
      · have hb : hasB bad f.1 = false := hb
        rw [hf] at hb; cases hb
      · exact ⟨f, hf, rfl, rfl⟩
  · exact h
theorem nodup_map_eq {F : List Hv} (hn : (F.map (·.1)).Nodup) {f g : Hv} (hf : f ∈ F) (hg : g ∈ F) (h : f.1 = g.1) : f = g := by
  induction F with
  | nil => cases hf
  | cons z r ih =>
    rw [List.map_cons, List.nodup_cons] at hn
    rw [List.mem_cons] at hf hg
    rcases hf with rfl | hf
    · rcases hg with rfl | hg
      · rfl
      · exact absurd (List.mem_map.2 ⟨g, hg, h.symm⟩) hn.1
    · rcases hg with rfl | hg
      · exact absurd (List.mem_map.2 ⟨f, hf, h⟩) hn.1
      · exact ih hn.2 hf hg
theorem both_le (p q : Int → Bool) : ∀ l : List Int, (l.filter p).length + (l.filter q).length ≤ l.length + (l.filter fun x => p x && q x).length
  | [] => by simp
  | x :: l => by
    have ih := both_le p q l
    cases hp : p x <;> cases hq : q x <;> simp [List.filter_cons, hp, hq] <;> omega
theorem filter_le {p q : Int → Bool} : ∀ l : List Int, (∀ x ∈ l, p x = true → q x = true) → (l.filter p).length ≤ (l.filter q).length
  | [], _ => by simp
  | x :: l, h => by
    have ih := filter_le (p := p) (q := q) l (fun y hy => h y (by simp [hy]))
    have hx := h x (by simp)
    cases hp : p x
    · cases hq : q x <;> simp [List.filter_cons, hp, hq] <;> omega
    · simp [List.filter_cons, hp, hx hp]; omega
theorem agree {e : Int} {l : List Int} {bad : List Int} {F : List Hv} {V U : List Vt} (hV : VOk e l V) (hU : VOk e l U) (hn : (F.map (·.1)).Nodup) (tV : Told bad F V) (tU : Told bad F U) (hw : ((l.filter (hasB bad)).length : Int) ≤ faultsP l.length)
    {y z : ByteArray × List Int} (hy : winner l V = some y) (hz : winner l U = some z) : y = z := by
  have hln := right_nodup hV.right
  have h10 := risingB_len (rightB_rising hV.right).2.2
  have h1 := who_len hV hln y
  have h2 := who_len hU hln z
  have h3 := (winner_some hy).1
  have h4 := (winner_some hz).1
  have h5 := both_le (fun x => decide ((x, y) ∈ V)) (fun x => decide ((x, z) ∈ U)) l
  have hf := faultsP_bd (l.length : Int) (by omega)
  rw [quorumP_hi _ (by omega)] at h3 h4
  unfold who at h1 h2
  rw [h1, h2] at h5
  by_cases hall : ∀ x ∈ l, (decide ((x, y) ∈ V) && decide ((x, z) ∈ U)) = true → hasB bad x = true
  · have := filter_le l hall
    omega
  · have : ∃ x, x ∈ l ∧ (x, y) ∈ V ∧ (x, z) ∈ U ∧ hasB bad x = false := by
      false_or_by_contra
      rename_i hno
      exact hall (fun x hx hp => by
        rw [Bool.and_eq_true, decide_eq_true_eq, decide_eq_true_eq] at hp
        cases hb : hasB bad x with
        | true => rfl
        | false => exact absurd ⟨x, hx, hp.1, hp.2, hb⟩ hno)
    obtain ⟨x, _, hxy, hxz, hb⟩ := this
    obtain ⟨f, hf1, hf2, hf3⟩ := tV _ hxy hb
    obtain ⟨g, hg1, hg2, hg3⟩ := tU _ hxz hb
    have hfg := nodup_map_eq hn hf1 hg1 (hf2.trans hg2.symm)
    subst hfg
    exact hf3.symm.trans hg3

/-- An array of two. -/
def Sh.two {α : Type} (S : Sh α) : Sh (α × α) := (S.pair S).bytes (2 * S.bs)
theorem vw_two {P : Program} {t e : TypeId} {α : Type} {S : Sh α} (ht : P.underlying t = some (.array 2 e)) (V : Vw P e S) (hc : P.cellsOf t = S.k + S.k) (hb : P.bytesOf t = 2 * S.bs) : Vw P t S.two :=
  ⟨hc, hb, fun {H enc w fuel cs x} h hw => by
    obtain ⟨xs, m, rfl, rfl, hl, hxl, hi⟩ := DataW.trod_array ht h
    match xs, hxl with
    | [x0, x1], _ =>
      have h0 := hi 0 (by omega)
      have h1 := hi 1 (by omega)
      rw [V.1, Nat.zero_mul, List.drop_zero] at h0
      rw [V.1, Nat.one_mul, List.take_of_length_le (by simp; omega)] at h1
      have hf : Fit P e x0.1 ∧ Fit P e x1.1 := by
        rcases hw with hw | hw
        · refine ⟨.inl fun k hk => hw k ?_, .inl fun k hk => hw k ?_⟩
          · simp only [DataW.weights, ht]
            exact weightsAll_mem (by simp) k hk
          · simp only [DataW.weights, ht]
            exact weightsAll_mem (by simp) k hk
        · simp only [List.map_cons, List.map_nil, Rows.uptoBulk, Rows.uptoBulkAll] at hw
          exact ⟨.inr (by omega), .inr (by omega)⟩
      obtain ⟨y0, e0, s0⟩ := V.2.2 (x := x0) h0 hf.1
      obtain ⟨y1, e1, s1⟩ := V.2.2 (x := x1) h1 hf.2
      refine ⟨(y0, y1), ⟨_, _, (List.take_append_drop S.k cs).symm, e0, e1⟩, ?_⟩
      show S.sz y0 + S.sz y1 ≤ _
      simp only [List.map_cons, List.map_nil, Rows.uptoBulk, Rows.uptoBulkAll]
      omega⟩
theorem cells_arr {P : Program} {W : World} {r : Reach} {b0 n : Nat} {t e : TypeId} {v : Value} (hs : P.underlying t = some (.array n e)) (hv : Value.okWide P W r b0 t v) : ∃ cs, v = .agg cs ∧ v.cells = cs := by
  unfold Value.okWide at hv
  rw [hs] at hv
  obtain ⟨cs, rfl, _⟩ := hv
  exact ⟨cs, rfl, rfl⟩
theorem vwScripts : Vw Try.prog 59 shVote.slice.two := vw_two Try.underlying59 vwVotes (by kernel_rfl) (by kernel_rfl)
theorem scripts_open {w : World} {y : List Hv × List Hv} {cs : List Value} (h : shVote.slice.two.E w y cs) : ∃ s t a n c b m d, y = (s, t) ∧ cs = [.slice a n c, .slice b m d] ∧ SlAt shVote w a n c s ∧ SlAt shVote w b m d t := by
  obtain ⟨s, t⟩ := y
  obtain ⟨_, _, rfl, ⟨a, n, c, rfl, h1⟩, b, m, d, rfl, h2⟩ := h
  exact ⟨s, t, a, n, c, b, m, d, rfl, rfl, h1, h2⟩
theorem vote_len {L : List Hv} : L.length ≤ shVote.slice.sz L := by
  have h : ∀ L : List Hv, L.length ≤ (L.map shVote.sz).sum := fun L => by
    induction L with
    | nil => simp
    | cons y r ih =>
      rw [List.map_cons, List.sum_cons, List.length_cons]
      have : 1 ≤ shVote.sz y := by show 1 ≤ 1 + (y.2.1.size + 1 + (((y.2.2.1.map _).sum + 1) + 1)); omega
      omega
  have := h L
  show _ ≤ (L.map shVote.sz).sum + 1
  omega
end Go.Proofs.Ytfhbjajhmegdmaa
