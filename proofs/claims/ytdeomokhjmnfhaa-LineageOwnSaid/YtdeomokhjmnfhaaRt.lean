
/- The reference's tracker in memory. -/
import Derived.Test.YtdeomokhjmnfhaaCp
namespace Go.Proofs.Ytdeomokhjmnfhaa
open Go.RowKit
set_option linter.unusedVariables false

def rX (q : Nat) (ol : Option Nat) : Nat → Prop := fun k => k = q ∨ ol = some k
structure RTrk (X : Nat → Prop) (w : World) (B q : Nat) (ol : Option Nat) (c0 : Cf) (L : List Lk) : Prop where
  hB : B ≤ q
  nol : ol ≠ some q
  own : ∀ k, rX q ol k → X k
  new : ∀ k, w.heap.size ≤ k → X k
  ex : ∃ vl xl a n c, w.heap[q]? = some (.cells #[.int .i64 c0.1, .slice a n c, vl] 75 (0, 0)) ∧ i64 c0.1 ∧ Rob X (fun w' => SlAt Sh.int w' a n c c0.2) w ∧ w.ownsRow B 27 3 vl L.length xl ∧ vl.ownBlock = ol ∧ rowOf shLink X w L xl
section
variable {X X' X2 Y : Nat → Prop} {w w' w7 w8 : World} {B q p : Nat} {ol ol' oc os oc' os' : Option Nat} {c0 : Cf} {L : List Lk} {cs : List Cf} {ss : List (List Sg)} {B2 : Nat}
theorem RTrk.lt (h : RTrk X w B q ol c0 L) : q < w.heap.size ∧ ∀ k, ol = some k → B ≤ k ∧ k < w.heap.size := by
  obtain ⟨vl, xl, a, n, c, hp, _, _, h1, rfl, _⟩ := h.ex
  exact ⟨blk_lt hp, h1.lt⟩
theorem rX_lt (h : RTrk X w B q ol c0 L) : ∀ k, rX q ol k → k < w.heap.size := fun k hk => by
  obtain ⟨h1, h2⟩ := h.lt
  rcases hk with rfl | hk
  · exact h1
  · exact (h2 k hk).2
theorem rX_ge (h : RTrk X w B q ol c0 L) : ∀ k, rX q ol k → B ≤ k := fun k hk => by
  obtain ⟨h1, h2⟩ := h.lt
  rcases hk with rfl | hk
  · exact h.hB
  · exact (h2 k hk).1
theorem RTrk.keep (h : RTrk X w B q ol c0 L) (hk : Keep Y w w') (hY : ∀ k, k < w.heap.size → Y k → X k ∧ ¬ rX q ol k) : RTrk X w' B q ol c0 L := by
  obtain ⟨hl1, hl2⟩ := h.lt
  obtain ⟨vl, xl, a, n, c, hp, he, hI, h1, e1, r1⟩ := h.ex
  refine ⟨h.hB, h.nol, h.own, fun k hk' => h.new k (Nat.le_trans hk.size hk'), vl, xl, a, n, c, by rw [hk.block q (blk_lt hp) (fun hy => (hY q hl1 hy).2 (.inl rfl))]; exact hp, he,
    hI.step hk (fun k hk' hy => (hY k hk' hy).1) (fun _ _ hx => hx), owns_keep h1 hk (fun k hk' hy => ?_), e1, r1.step hk (fun k hk' hy => (hY k hk' hy).1) (fun _ _ hx => hx)⟩
  rw [e1] at hk'
  exact (hY k (hl2 k hk').2 hy).2 (.inr hk')
theorem RTrk.old (h : RTrk X w B q ol c0 L) (hb : Below w.heap.size w w') : RTrk X w' B q ol c0 L :=
  h.keep (Y := fun _ => False) (Keep.of_below hb) (fun _ _ hc => hc.elim)
theorem RTrk.view (h : RTrk X w B q ol c0 L) (h1 : L.length ≤ 1000) :
    ∃ a n c al cl, w.heap[q]? = some (.cells #[.int .i64 c0.1, .slice a n c, .slice al L.length cl] 75 (0, 0)) ∧ i64 c0.1 ∧ SlAt Sh.int w a n c c0.2 ∧ SlAt shLink w al L.length cl L := by
  obtain ⟨vl, xl, a, n, c, hp, he, hI, o1, e1, r1⟩ := h.ex
  obtain ⟨al, cl, rfl⟩ := owns_form o1
  exact ⟨a, n, c, al, cl, hp, he, hI.self, sl_of_row o1 r1 (by show _ * 56 ≤ _; omega)⟩

theorem link_rob {n sn c' sc' : Nat} {a' sa' : Option Addr} {e : Int} {l : List Int} {sigs : List Sg} {B3 B4 : Nat} (ho5 : w.ownsRow B3 3 1 (.slice a' n c') n (intsV l)) (ho6 : w.ownsRow B4 62 2 (.slice sa' sn sc') sn (sigV sigs))
    (hl : l.length = n) (hls : sigs.length = sn) (he : i64 e) (hf : ∀ x ∈ l, i64 x) (hfs : ∀ s ∈ sigs, i64 s.1 ∧ s.2.size ≤ 140737488351232) (hby : n * 8 ≤ 140737488355328) (hbs : sn * 24 ≤ 140737488355328)
    (h5 : ∀ k, (Value.slice a' n c').ownBlock = some k → ¬ X k) (h6 : ∀ k, (Value.slice sa' sn sc').ownBlock = some k → ¬ X k) : Rob X (fun w' => shLink.E w' ((e, l), sigs) [.int .i64 e, .slice a' n c', .slice sa' sn sc']) w := fun w' hk =>
  ⟨[.int .i64 e, .slice a' n c'], [.slice sa' sn sc'], rfl, conf_rob ho5 hl h5 he hf hby w' hk, sigs_rob ho6 hls h6 hfs hbs w' hk⟩

/-- A link more. -/
theorem RTrk.grow {n sn c' sc' : Nat} {vl v' : Value} {xl : List Value} {a a' sa' : Option Addr} {n0 k0 : Nat} {e : Int} {l : List Int} {sigs : List Sg} {C : Nat}
    (h : RTrk X w B q ol c0 L) (hp : w.heap[q]? = some (.cells #[.int .i64 c0.1, .slice a n0 k0, vl] 75 (0, 0))) (hr : rowOf shLink X w L xl) (hv : vl.ownBlock = ol) (hb : Below w.heap.size w w7)
    (ho5 : w7.ownsRow w.heap.size 3 1 (.slice a' n c') n (intsV l)) (ho6 : w7.ownsRow w.heap.size 62 2 (.slice sa' sn sc') sn (sigV sigs))
    (hn5 : ∀ k, (Value.slice a' n c').ownBlock = some k → k < C) (hn6 : ∀ k, (Value.slice sa' sn sc').ownBlock = some k → k < C) (hC : C ≤ w7.heap.size)
    (hl : l.length = n) (hls : sigs.length = sn) (he : i64 e) (hf : ∀ x ∈ l, i64 x) (hfs : ∀ s ∈ sigs, i64 s.1 ∧ s.2.size ≤ 140737488351232) (hby : n * 8 ≤ 140737488355328) (hbs : sn * 24 ≤ 140737488355328)
    (hown : w8.ownsRow B 27 3 v' (L.length + 1) (xl ++ [.int .i64 e, .slice a' n c', .slice sa' sn sc'])) (hg : w7.grownBy w8 ol) (hat : v'.ownBlock = ol ∨ ∃ k, v'.ownBlock = some k ∧ C ≤ k ∧ w.heap.size ≤ k) :
    (∃ X', XSub X X' w ∧ RTrk X' (w8.setCell ⟨q, 2, none⟩ v') B q v'.ownBlock c0 (L ++ [((e, l), sigs)])) ∧ Keep (rX q ol) w (w8.setCell ⟨q, 2, none⟩ v') := by
  obtain ⟨hpl, hol⟩ := h.lt
  obtain ⟨vl0, xl0, a0, n1, c1, hp0, he0, hI, h1, e1, r1⟩ := h.ex
  rw [hp] at hp0
  obtain ⟨⟨rfl, rfl, rfl⟩, rfl⟩ : (a = a0 ∧ n0 = n1 ∧ k0 = c1) ∧ vl = vl0 := by simpa using hp0
  have K8 : Keep (rX q ol) w w8 := (Keep.of_below hb).grown hg (fun k hk => .inr (.inr hk))
  have K9 : Keep (rX q ol) w (w8.setCell ⟨q, 2, none⟩ v') := K8.set (.inr (.inl rfl)) 2 v'
  obtain ⟨X', hX'⟩ : ∃ X' : Nat → Prop, X' = fun k => X k ∧ (Value.slice a' n c').ownBlock ≠ some k ∧ (Value.slice sa' sn sc').ownBlock ≠ some k := ⟨_, rfl⟩
  have hXs : XSub X X' w := by
    rw [hX']
    exact ⟨fun k hk => hk.1, fun k hk hx => ⟨hx, fun hc => by have := (ho5.lt k hc).1; omega, fun hc => by have := (ho6.lt k hc).1; omega⟩⟩
  have hXn : ∀ k, rX q v'.ownBlock k → X' k := by
    rw [hX']
    intro k hx
    rcases hx with hx | hx
    · subst hx; exact ⟨h.own _ (.inl rfl), fun hc => by have := (ho5.lt _ hc).1; omega, fun hc => by have := (ho6.lt _ hc).1; omega⟩
    · rcases hat with ha | ⟨g, ha, hg1, hg2⟩
      · have hk := (hol k (by rw [← ha]; exact hx)).2
        exact ⟨h.own _ (.inr (by rw [← ha]; exact hx)), fun hc => by have := (ho5.lt _ hc).1; omega, fun hc => by have := (ho6.lt _ hc).1; omega⟩
      · rw [ha] at hx; injection hx with hx; subst hx
        exact ⟨h.new _ hg2, fun hc => by have := hn5 _ hc; omega, fun hc => by have := hn6 _ hc; omega⟩
  have hz9 : w7.heap.size ≤ (w8.setCell ⟨q, 2, none⟩ v').heap.size := by have := hg.size; simpa [World.setCell] using this
  have hXw : ∀ k, (w8.setCell ⟨q, 2, none⟩ v').heap.size ≤ k → X' k := by
    rw [hX']
    intro k hk
    exact ⟨h.new k (by have := hb.size; omega), fun hc => by have := hn5 _ hc; omega, fun hc => by have := hn6 _ hc; omega⟩
  have nop : v'.ownBlock ≠ some q := by
    rcases hat with ha | ⟨g, ha, _, hg2⟩
    · rw [ha]; exact h.nol
    · rw [ha]; intro hc; injection hc with hc; omega
  have hp8 : w8.heap[q]? = some (.cells #[.int .i64 c0.1, .slice a n0 k0, vl] 75 (0, 0)) := by
    rw [hg.block q (Nat.lt_of_lt_of_le hpl hb.size) (fun hc => h.nol hc.symm), hb.block q hpl]; exact hp
  have hrow : ∀ {b ee s n' : Nat} {vv : Value} {xs : List Value}, w7.ownsRow b ee s vv n' xs → w.heap.size ≤ b → (w8.setCell ⟨q, 2, none⟩ v').ownsRow b ee s vv n' xs := fun {b ee s n' vv xs} ho hb0 => by
    refine owns_setlow (owns_keep (X := fun k => ol = some k) ho ((Keep.refl _ w7).grown hg (fun k hk => .inr hk)) (fun k hk hx => ?_)) (by omega) 2 v'
    have := (ho.lt k hk).1
    have := (hol k hx).2
    omega
  refine ⟨⟨X', hXs, h.hB, nop, hXn, hXw, v', xl ++ [.int .i64 e, .slice a' n c', .slice sa' sn sc'], a, n0, k0, by rw [blk_set hp8]; rfl, he0, hI.step K9 (fun k _ hx => h.own k hx) (fun k _ hx => hXs.1 k hx), ?_, rfl, ?_⟩, K9⟩
  · rw [List.length_append]
    exact owns_setother hown nop 2 v'
  · refine (hr.step K9 (fun k _ hx => h.own k hx) (fun k _ hx => hXs.1 k hx)).snoc rfl (link_rob (hrow ho5 (Nat.le_refl _)) (hrow ho6 (Nat.le_refl _)) hl hls he hf hfs hby hbs (fun k hk hx => ?_) (fun k hk hx => ?_))
    · rw [hX'] at hx; exact hx.2.1 hk
    · rw [hX'] at hx; exact hx.2.2 hk
end
end Go.Proofs.Ytdeomokhjmnfhaa
