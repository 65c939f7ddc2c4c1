
/- The program's tracker in memory; walk of grow. -/
import Derived.Test.YtijeieamodjgbabCl
import Derived.Deep.DeepCutAuto
import Derived.Test.YtijeieamodjgbabLgV

namespace Go.Proofs.Ytijeieamodjgbab
set_option maxRecDepth 100000
open Go.RowKit
set_option linter.unusedVariables false

theorem info_conf' : (Try.prog.info? 24).map (fun i => (i.zero, i.size, i.bytes)) = some (some (.agg #[.int .i64 0, .slice none 0 0]), 2, 32) := by kernel_rfl
theorem info_sigs' : (Try.prog.info? 46).map (fun i => (i.zero, i.size, i.bytes)) = some (some (.slice none 0 0), 1, 24) := by kernel_rfl

/-- A tracker's own blocks: its struct, its two rows. -/
def trX (p : Nat) (oc os : Option Nat) : Nat → Prop := fun k => k = p ∨ oc = some k ∨ os = some k
/-- X: all blocks but those in which the things of its rows have their parts. -/
structure Trk (X : Nat → Prop) (w : World) (B p : Nat) (oc os : Option Nat) (cs : List Cf) (ss : List (List Sg)) : Prop where
  hB : B ≤ p
  noc : oc ≠ some p
  nos : os ≠ some p
  ncs : ∀ k, oc = some k → os ≠ some k
  own : ∀ k, trX p oc os k → X k
  new : ∀ k, w.heap.size ≤ k → X k
  ex : ∃ vc vs xc xs, w.heap[p]? = some (.cells #[vc, vs] 98 (0, 0)) ∧ w.ownsRow B 24 2 vc cs.length xc ∧ vc.ownBlock = oc ∧ rowOf shConf X w cs xc ∧
    w.ownsRow B 46 1 vs ss.length xs ∧ vs.ownBlock = os ∧ rowOf shSig.slice X w ss xs
theorem Trk.lt {X : Nat → Prop} {w : World} {B p : Nat} {oc os : Option Nat} {cs : List Cf} {ss : List (List Sg)} (h : Trk X w B p oc os cs ss) : p < w.heap.size ∧ (∀ k, oc = some k → B ≤ k ∧ k < w.heap.size) ∧ (∀ k, os = some k → B ≤ k ∧ k < w.heap.size) := by
  obtain ⟨vc, vs, xc, xs, hp, h1, rfl, _, h2, rfl, _⟩ := h.ex
  exact ⟨blk_lt hp, h1.lt, h2.lt⟩
/-- It stays, whatever is done to blocks that are neither its own nor its things'. -/
theorem Trk.keep {X : Nat → Prop} {w w' : World} {B p : Nat} {oc os : Option Nat} {cs : List Cf} {ss : List (List Sg)} {Y : Nat → Prop} (h : Trk X w B p oc os cs ss) (hk : Keep Y w w') (hY : ∀ k, k < w.heap.size → Y k → X k ∧ ¬ trX p oc os k) : Trk X w' B p oc os cs ss := by
  obtain ⟨hl1, hl2, hl3⟩ := h.lt
  obtain ⟨vc, vs, xc, xs, hp, h1, e1, r1, h2, e2, r2⟩ := h.ex
  refine ⟨h.hB, h.noc, h.nos, h.ncs, h.own, fun k hk' => h.new k (Nat.le_trans hk.size hk'), vc, vs, xc, xs, by rw [hk.block p (blk_lt hp) (fun hy => (hY p hl1 hy).2 (.inl rfl))]; exact hp, owns_keep h1 hk (fun k hk' hy => ?_), e1, r1.step hk (fun k hk' hy => (hY k hk' hy).1) (fun _ _ hx => hx),
    owns_keep h2 hk (fun k hk' hy => ?_), e2, r2.step hk (fun k hk' hy => (hY k hk' hy).1) (fun _ _ hx => hx)⟩
  · rw [e1] at hk'
    exact (hY k (hl2 k hk').2 hy).2 (.inr (.inl hk'))
  · rw [e2] at hk'
    exact (hY k (hl3 k hk').2 hy).2 (.inr (.inr hk'))
theorem Trk.old {X : Nat → Prop} {w w' : World} {B p : Nat} {oc os : Option Nat} {cs : List Cf} {ss : List (List Sg)} (h : Trk X w B p oc os cs ss) (hb : Below w.heap.size w w') : Trk X w' B p oc os cs ss :=
  h.keep (Y := fun _ => False) (Keep.of_below hb) (fun _ _ hc => hc.elim)
/-- Fewer blocks are free of things, but none of the older ones. -/
def XSub (X X' : Nat → Prop) (w : World) : Prop := (∀ k, X' k → X k) ∧ ∀ k, k < w.heap.size → X k → X' k
theorem XSub.refl (X : Nat → Prop) (w : World) : XSub X X w := ⟨fun _ h => h, fun _ _ h => h⟩
theorem XSub.trans {X X' X'' : Nat → Prop} {w w1 : World} (h : XSub X X' w) (h2 : XSub X' X'' w1) (hz : w.heap.size ≤ w1.heap.size) : XSub X X'' w :=
  ⟨fun k hk => h.1 k (h2.1 k hk), fun k hk hx => h2.2 k (by omega) (h.2 k hk hx)⟩

/-- A configuration more. -/
theorem Trk.growC {X : Nat → Prop} {w w7 w8 : World} {B p n c' : Nat} {oc os : Option Nat} {cs : List Cf} {ss : List (List Sg)} {vc vs v' : Value} {xc : List Value} {a' : Option Addr} {e : Int} {l : List Int} {C : Nat}
    (h : Trk X w B p oc os cs ss) (hp : w.heap[p]? = some (.cells #[vc, vs] 98 (0, 0))) (hcr : rowOf shConf X w cs xc) (hvc : vc.ownBlock = oc) (hb : Below w.heap.size w w7)
    (hrow : w7.ownsRow w.heap.size 3 1 (.slice a' n c') n (intsV l)) (hnew : ∀ k, (Value.slice a' n c').ownBlock = some k → k < C) (hC : C ≤ w7.heap.size) (hl : l.length = n) (he : i64 e) (hf : ∀ x ∈ l, i64 x) (hby : n * 8 ≤ 140737488355328)
    (hown : w8.ownsRow B 24 2 v' (cs.length + 1) (xc ++ [.int .i64 e, .slice a' n c'])) (hg : w7.grownBy w8 oc) (hat : v'.ownBlock = oc ∨ ∃ k, v'.ownBlock = some k ∧ C ≤ k ∧ w.heap.size ≤ k) :
    (∃ X', XSub X X' w ∧ Trk X' (w8.setCell ⟨p, 0, none⟩ v') B p v'.ownBlock os (cs ++ [(e, l)]) ss) ∧ Keep (trX p oc os) w (w8.setCell ⟨p, 0, none⟩ v') := by
  obtain ⟨hpl, hocl, hosl⟩ := h.lt
  obtain ⟨vc0, vs0, xc0, xs, hp0, h1, e1, r1, h2, e2, r2⟩ := h.ex
  rw [hp] at hp0
  obtain ⟨rfl, rfl⟩ : vc = vc0 ∧ vs = vs0 := by simpa using hp0
  have K8 : Keep (trX p oc os) w w8 := (Keep.of_below hb).grown hg (fun k hk => .inr (.inr (.inl hk)))
  have K9 : Keep (trX p oc os) w (w8.setCell ⟨p, 0, none⟩ v') := K8.set (.inr (.inl rfl)) 0 v'
  obtain ⟨X', hX'⟩ : ∃ X' : Nat → Prop, X' = fun k => X k ∧ (Value.slice a' n c').ownBlock ≠ some k := ⟨_, rfl⟩
  have hXs : XSub X X' w := by
    rw [hX']
    exact ⟨fun k hk => hk.1, fun k hk hx => ⟨hx, fun hc => by have := (hrow.lt k hc).1; omega⟩⟩
  have hXn : ∀ k, trX p v'.ownBlock os k → X' k := by
    rw [hX']
    intro k hx
    rcases hx with hx | hx | hx
    · subst hx; exact ⟨h.own _ (.inl rfl), fun hc => by have := (hrow.lt _ hc).1; omega⟩
    · rcases hat with ha | ⟨g, ha, hg1, hg2⟩
      · exact ⟨h.own _ (.inr (.inl (by rw [← ha]; exact hx))), fun hc => by have := (hrow.lt _ hc).1; have := (hocl k (by rw [← ha]; exact hx)).2; omega⟩
      · rw [ha] at hx; injection hx with hx; subst hx
        exact ⟨h.new _ hg2, fun hc => by have := hnew _ hc; omega⟩
    · exact ⟨h.own _ (.inr (.inr hx)), fun hc => by have := (hrow.lt _ hc).1; have := (hosl k hx).2; omega⟩
  have hz9 : w7.heap.size ≤ (w8.setCell ⟨p, 0, none⟩ v').heap.size := by have := hg.size; simpa [World.setCell] using this
  have hXw : ∀ k, (w8.setCell ⟨p, 0, none⟩ v').heap.size ≤ k → X' k := by
    rw [hX']
    intro k hk
    exact ⟨h.new k (by have := hb.size; omega), fun hc => by have := hnew _ hc; omega⟩
  have nop : v'.ownBlock ≠ some p := by
    rcases hat with ha | ⟨g, ha, _, hg2⟩
    · rw [ha]; exact h.noc
    · rw [ha]; intro hc; injection hc with hc; omega
  have hne : ∀ k, vs.ownBlock = some k → k ≠ p := fun k hk hc => h.nos (by rw [← e2, hk, hc])
  have hp7 : w8.heap[p]? = some (.cells #[vc, vs] 98 (0, 0)) := by
    rw [hg.block p (Nat.lt_of_lt_of_le hpl hb.size) (fun hc => h.noc hc.symm), hb.block p hpl]; exact hp
  have hrow9 : (w8.setCell ⟨p, 0, none⟩ v').ownsRow w.heap.size 3 1 (.slice a' n c') n (intsV l) := by
    refine owns_setlow (owns_keep (X := trX p oc os) hrow ((Keep.refl _ w7).grown hg (fun k hk => .inr (.inr (.inl hk)))) (fun k hk hx => ?_)) hpl 0 v'
    have := (hrow.lt k hk).1
    rcases hx with hx | hx | hx
    · omega
    · have := (hocl k hx).2; omega
    · have := (hosl k hx).2; omega
  refine ⟨⟨X', hXs, h.hB, nop, h.nos, fun k hk => ?_, hXn, hXw, v', vs, xc ++ [.int .i64 e, .slice a' n c'], xs, by rw [blk_set hp7]; rfl, ?_, rfl, ?_, ?_, e2, r2.step K9 (fun k _ hx => h.own k hx) (fun k _ hx => hXs.1 k hx)⟩, K9⟩
  · rcases hat with ha | ⟨g, ha, _, hg2⟩
    · exact h.ncs k (by rw [← ha]; exact hk)
    · rw [ha] at hk; injection hk with hk; intro hc; have := (hosl k hc).2; omega
  · rw [List.length_append]
    refine ⟨hown.1, ?_⟩
    rcases hown.2 with hn | ⟨g, cap, cur, rfl, hb', hg', r⟩
    · exact .inl hn
    · exact .inr ⟨g, cap, cur, rfl, hb', blk_set_other hg' _ _ _ (fun hc => nop (by rw [← hc]; rfl)), r⟩
  · refine (hcr.step K9 (fun k _ hx => h.own k hx) (fun k _ hx => hXs.1 k hx)).snoc rfl (conf_rob hrow9 hl (fun k hk hx => ?_) he hf hby)
    rw [hX'] at hx
    exact hx.2 hk
  · refine owns_setother (owns_keep (X := fun k => oc = some k) h2 ((Keep.of_below hb).grown hg (fun k hk => .inr hk)) (fun k hk hx => h.ncs k hx (by rw [← e2]; exact hk))) (by rw [e2]; exact h.nos) 0 v'

/-- A list of signatures more. -/
theorem Trk.growS {X : Nat → Prop} {w w7 w8 : World} {B p n c' : Nat} {oc os : Option Nat} {cs : List Cf} {ss : List (List Sg)} {vc vs v' : Value} {xs : List Value} {a' : Option Addr} {l : List Sg} {C : Nat}
    (h : Trk X w B p oc os cs ss) (hp : w.heap[p]? = some (.cells #[vc, vs] 98 (0, 0))) (hsr : rowOf shSig.slice X w ss xs) (hvs : vs.ownBlock = os) (hb : Below w.heap.size w w7)
    (hrow : w7.ownsRow w.heap.size 108 2 (.slice a' n c') n (sigV l)) (hnew : ∀ k, (Value.slice a' n c').ownBlock = some k → k < C) (hC : C ≤ w7.heap.size) (hl : l.length = n) (hf : ∀ s ∈ l, i64 s.1 ∧ s.2.size ≤ 1125899906842624) (hby : n * 24 ≤ 140737488355328)
    (hown : w8.ownsRow B 46 1 v' (ss.length + 1) (xs ++ [.slice a' n c'])) (hg : w7.grownBy w8 os) (hat : v'.ownBlock = os ∨ ∃ k, v'.ownBlock = some k ∧ C ≤ k ∧ w.heap.size ≤ k) :
    (∃ X', XSub X X' w ∧ Trk X' (w8.setCell ⟨p, 1, none⟩ v') B p oc v'.ownBlock cs (ss ++ [l])) ∧ Keep (trX p oc os) w (w8.setCell ⟨p, 1, none⟩ v') := by
  obtain ⟨hpl, hocl, hosl⟩ := h.lt
  obtain ⟨vc0, vs0, xc, xs0, hp0, h1, e1, r1, h2, e2, r2⟩ := h.ex
  rw [hp] at hp0
  obtain ⟨rfl, rfl⟩ : vc = vc0 ∧ vs = vs0 := by simpa using hp0
  have K8 : Keep (trX p oc os) w w8 := (Keep.of_below hb).grown hg (fun k hk => .inr (.inr (.inr hk)))
  have K9 : Keep (trX p oc os) w (w8.setCell ⟨p, 1, none⟩ v') := K8.set (.inr (.inl rfl)) 1 v'
  obtain ⟨X', hX'⟩ : ∃ X' : Nat → Prop, X' = fun k => X k ∧ (Value.slice a' n c').ownBlock ≠ some k := ⟨_, rfl⟩
  have hXs : XSub X X' w := by
    rw [hX']
    exact ⟨fun k hk => hk.1, fun k hk hx => ⟨hx, fun hc => by have := (hrow.lt k hc).1; omega⟩⟩
  have hXn : ∀ k, trX p oc v'.ownBlock k → X' k := by
    rw [hX']
    intro k hx
    rcases hx with hx | hx | hx
    · subst hx; exact ⟨h.own _ (.inl rfl), fun hc => by have := (hrow.lt _ hc).1; omega⟩
    · exact ⟨h.own _ (.inr (.inl hx)), fun hc => by have := (hrow.lt _ hc).1; have := (hocl k hx).2; omega⟩
    · rcases hat with ha | ⟨g, ha, hg1, hg2⟩
      · exact ⟨h.own _ (.inr (.inr (by rw [← ha]; exact hx))), fun hc => by have := (hrow.lt _ hc).1; have := (hosl k (by rw [← ha]; exact hx)).2; omega⟩
      · rw [ha] at hx; injection hx with hx; subst hx
        exact ⟨h.new _ hg2, fun hc => by have := hnew _ hc; omega⟩
  have hz9 : w7.heap.size ≤ (w8.setCell ⟨p, 1, none⟩ v').heap.size := by have := hg.size; simpa [World.setCell] using this
  have hXw : ∀ k, (w8.setCell ⟨p, 1, none⟩ v').heap.size ≤ k → X' k := by
    rw [hX']
    intro k hk
    exact ⟨h.new k (by have := hb.size; omega), fun hc => by have := hnew _ hc; omega⟩
  have nop : v'.ownBlock ≠ some p := by
    rcases hat with ha | ⟨g, ha, _, hg2⟩
    · rw [ha]; exact h.nos
    · rw [ha]; intro hc; injection hc with hc; omega
  have hp7 : w8.heap[p]? = some (.cells #[vc, vs] 98 (0, 0)) := by
    rw [hg.block p (Nat.lt_of_lt_of_le hpl hb.size) (fun hc => h.nos hc.symm), hb.block p hpl]; exact hp
  have hrow9 : (w8.setCell ⟨p, 1, none⟩ v').ownsRow w.heap.size 108 2 (.slice a' n c') n (sigV l) := by
    refine owns_setlow (owns_keep (X := trX p oc os) hrow ((Keep.refl _ w7).grown hg (fun k hk => .inr (.inr (.inr hk)))) (fun k hk hx => ?_)) hpl 1 v'
    have := (hrow.lt k hk).1
    rcases hx with hx | hx | hx
    · omega
    · have := (hocl k hx).2; omega
    · have := (hosl k hx).2; omega
  refine ⟨⟨X', hXs, h.hB, h.noc, nop, fun k hk hc => ?_, hXn, hXw, vc, v', xc, xs ++ [.slice a' n c'], by rw [blk_set hp7]; rfl, ?_, e1, r1.step K9 (fun k _ hx => h.own k hx) (fun k _ hx => hXs.1 k hx), ?_, rfl, ?_⟩, K9⟩
  · rcases hat with ha | ⟨g, ha, _, hg2⟩
    · exact h.ncs k hk (by rw [← ha]; exact hc)
    · rw [ha] at hc; injection hc with hc; have := (hocl k hk).2; omega
  · refine owns_setother (owns_keep (X := fun k => os = some k) h1 ((Keep.of_below hb).grown hg (fun k hk => .inr hk)) (fun k hk hx => h.ncs k (by rw [← e1]; exact hk) hx)) (by rw [e1]; exact h.noc) 1 v'
  · rw [List.length_append]
    exact owns_setother hown nop 1 v'
  · refine (hsr.step K9 (fun k _ hx => h.own k hx) (fun k _ hx => hXs.1 k hx)).snoc rfl (sigs_rob hrow9 hl (fun k hk hx => ?_) hf hby)
    rw [hX'] at hx
    exact hx.2 hk

theorem conf_new (w : World) (e : Int) (a : Option Addr) (n c : Nat) (t : TypeId) : ∀ j u, [Value.int .i64 e, .slice a n c][j]? = some u → (w.alloc (.cells #[.int .i64 e, .slice a n c] t)).cell? ((⟨w.heap.size, 0, none⟩ : Addr).add j) = some u := by
  intro j u h
  rw [Addr.add_lit, blk_cell (blk_alloc w _), ← h]
  simp

theorem sigs_new (w : World) (a : Option Addr) (n c : Nat) (t : TypeId) : ∀ j u, [Value.slice a n c][j]? = some u → (w.alloc (.cells #[.slice a n c] t)).cell? ((⟨w.heap.size, 0, none⟩ : Addr).add j) = some u := by
  intro j u h
  rw [Addr.add_lit, blk_cell (blk_alloc w _), ← h]
  simp

set_option maxHeartbeats 2000000 in
theorem grow_any (X : Nat → Prop) (B p : Nat) (oc os : Option Nat) (cs : List Cf) (ss : List (List Sg)) (e : Int) (a : Option Addr) (n c : Nat) (l : List Int) (sa : Option Addr) (sn sc : Nat) (sigs : List Sg) (w : World)
    (h : Trk X w B p oc os cs ss) (hB : B ≤ w.heap.size) (hcl : cs.length ≤ 1000) (hsl : ss.length ≤ 1000) (he : i64 e) (hI : SlAt Sh.int w a n c l) (hS : Rob (trX p oc os) (fun w' => SlAt shSig w' sa sn sc sigs) w) :
    Calls Try.prog 69 #[.pointer (some ⟨p, 0, none⟩), .agg #[.int .i64 e, .slice a n c, .slice sa sn sc]] w fun r w' => r = .returned (.tuple #[]) ∧
      ∃ X' oc' os', (oc' = oc ∨ ∃ k, oc' = some k ∧ w.heap.size ≤ k) ∧ (os' = os ∨ ∃ k, os' = some k ∧ w.heap.size ≤ k) ∧ XSub X X' w ∧ Trk X' w' B p oc' os' (cs ++ [(e, l)]) (ss ++ [sigs]) ∧ Keep (trX p oc os) w w' := by
  obtain ⟨i1, hi1, hc0, hc1, hc2⟩ := info_parts info_conf'
  obtain ⟨i2, hi2, hs0, hs1, hs2⟩ := info_parts info_sigs'
  obtain ⟨wa, hwa⟩ : ∃ wa, wa = w.alloc (.cells #[.int .i64 e, .slice a n c, .slice sa sn sc] 61) := ⟨_, rfl⟩
  have ba : Below w.heap.size w wa := by rw [hwa]; exact below_alloc _ _
  have kx : wa.heap[w.heap.size]? = some (.cells #[.int .i64 e, .slice a n c, .slice sa sn sc] 61 (0, 0)) := by rw [hwa]; exact blk_alloc _ _
  have HT := Lib.hid (h.old ba)
  have hlt0 := Lib.hid h.lt
  have Hll := Lib.hid hI.len
  have Hlf := Lib.hid (ints_of_sl hI).fit
  obtain ⟨vc, vs, xc, xs, hp, o1, e1, r1, o2, e2, r2⟩ := HT.out.ex
  have hpl := HT.out.lt.1
  have hzl := blk_lt kx
  have hne : ¬ w.heap.size = p := by have := h.lt.1; omega
  obtain ⟨ac, cc, rfl⟩ := owns_form o1
  obtain ⟨asg, cs2, rfl⟩ := owns_form o2
  have x0 : wa.cell? ⟨w.heap.size, 0, none⟩ = some (.int .i64 e) := by rw [blk_cell kx]; rfl
  have x1 : wa.cell? ⟨w.heap.size, 1, none⟩ = some (.slice a n c) := by rw [blk_cell kx]; rfl
  have x2 : wa.cell? ⟨w.heap.size, 2, none⟩ = some (.slice sa sn sc) := by rw [blk_cell kx]; rfl
  have p0 : wa.cell? ⟨p, 0, none⟩ = some (.slice ac cs.length cc) := by rw [blk_cell hp]; rfl
  have p1 : wa.cell? ⟨p, 1, none⟩ = some (.slice asg ss.length cs2) := by rw [blk_cell hp]; rfl
  have pf : ∀ o, wa.frozen? ⟨p, o, none⟩ = false := fun o => blk_frozen hp o
  have hI2 := ints_of_sl hI
  have hbn : n * 8 ≤ 140737488355328 := hI.bytes
  have CO := Lib.hid (fun (w' : World) (hb : Below wa.heap.size wa w') => own_any e a n c l w' ((hI2.below ba).below hb) (fun hn => ⟨hI.nil hn, by have := hI.nil hn; have := hI.cap; omega⟩) hbn)
  have HS := Lib.hid hS
  have KX := Lib.hid kx; have BA := Lib.hid ba; have HP := Lib.hid hp; have O1 := Lib.hid o1; have R1 := Lib.hid r1; have E1 := Lib.hid e1
  have k1 : cs.length + 1 ≤ maxLen := by simp only [maxLen]; omega
  have k2 : (cs.length + 1) * 32 ≤ 140737488355328 := by omega
  clear h hI hS hI2 kx ba hp o1 r1 e1 o2 e2 r2
  go_enter Try.func69, Try.ntmps69
  go_wp2_with fail
  rw [← hwa]
  clear hwa
  have hxo : ∀ k, trX p oc os k → k < w.heap.size := by
    intro k hk
    have := hlt0.out
    rcases hk with hk | hk | hk
    · omega
    · exact (this.2.1 k hk).2
    · exact (this.2.2 k hk).2
  replace hxo := Lib.hid hxo
  go_cut [] (fun wc => Hid (∃ X' oc', (oc' = oc ∨ ∃ k, oc' = some k ∧ w.heap.size ≤ k) ∧ XSub X X' w ∧ Trk X' wc B p oc' os (cs ++ [(e, l)]) ss ∧ Keep (trX p oc os) wa wc))
  case first =>
    go_region_law (first | (refine step_at 40 rfl ?_; refine step_calls rfl 40 #[.agg #[.int .i64 e, .slice a n c]] (by go_simp) (CO.out _ (below_drewN (Below.refl _ _) 1)) ?_; rintro r w6 ⟨a6, c6, rfl, ho6, b6⟩; refine ⟨_, rfl, ?_⟩; have q0 := below_cell b6 (w := wa.drew) (b := p) (o := 0) (v := .slice ac cs.length cc) (by simpa using p0); have q1 : (w6.alloc (.cells #[.int .i64 e, .slice a6 n c6] 24)).cell? ⟨p, 0, none⟩ = some (.slice ac cs.length cc) := below_cell (below_alloc w6 _) q0; have l6 := Lib.hid (show B ≤ w6.heap.size by have := b6.size; simp at this; omega); have hp6 := Lib.hid (show w6.heap[p]? = some (.cells #[.slice ac cs.length cc, .slice asg ss.length cs2] 98 (0, 0)) by rw [b6.block p (by show p < wa.drew.heap.size; simpa using hpl)]; exact HP.out)) | (refine step_append_lies _ rfl (.tmp 8) (.tmp 12) 95 rfl B 24 i1 (.agg #[.int .i64 0, .slice none 0 0]) 2 32 Try.underlying95 hi1 hc0 hc1 hc2 rfl (by decide) (.slice ac cs.length cc) cs.length xc (by rfl) (by exact owns_old (owns_old O1.out (below_drewN (Below.refl _ _) 1)) (bthen b6 (below_alloc _ _))) ⟨w6.heap.size, 0, none⟩ 1 1 [.int .i64 e, .slice a6 n c6] (by rfl) rfl (by exact conf_new _ _ _ _ _ _) (by simp [Value.oneCell']) (by decide) k1 k2 (by have := l6.out; simp; omega) _ rfl ?_; intro g cap w8 hown8 hg8 hor8 hlt8; have hp8 := Lib.hid (show w8.heap[p]? = some (.cells #[.slice ac cs.length cc, .slice asg ss.length cs2] 98 (0, 0)) by rw [hg8.block p (by have := blk_lt hp6.out; simp; omega) (by rw [E1.out]; exact Ne.symm HT.out.noc), Below.heap_alloc _ _ _ (blk_lt hp6.out)]; exact hp6.out); have m8 : w8.cell? ⟨p, 0, none⟩ = some (.slice ac cs.length cc) := (by rw [blk_cell hp8.out]; rfl); have m9 : w8.frozen? ⟨p, 0, none⟩ = false := blk_frozen hp8.out 0))
    all_goals
      have hnew : ∀ k, (Value.slice a6 n c6).ownBlock = some k → k < w6.heap.size := fun k hk => (ho6.lt k hk).2
      have ho7 := owns_old (owns_lower ho6 (show wa.heap.size ≤ wa.drew.heap.size by simp)) (below_alloc w6 (.cells #[.int .i64 e, .slice a6 n c6] 24))
      have hb7 : Below wa.heap.size wa (w6.alloc (.cells #[.int .i64 e, .slice a6 n c6] 24)) := bthen (bthen (below_drewN (Below.refl _ _) 1) b6) (below_alloc _ _)
      have hz6 : wa.heap.size ≤ w6.heap.size := by have := b6.size; simpa using this
      have HG := Trk.growC (C := w6.heap.size) HT.out HP.out R1.out E1.out hb7 ho7 hnew (by simp) Hll.out he Hlf.out hbn hown8 (by rw [E1.out] at hg8; exact hg8) (by
        rcases hor8 with h8 | h8
        · left; rw [← E1.out, h8]; rfl
        · right; exact ⟨g, rfl, by rw [h8]; simp, by rw [h8]; simp; omega⟩)
      obtain ⟨⟨X1, hx1, ht1⟩, hk1⟩ := HG
      have HG2 := Lib.hid (show ∃ X' oc', (oc' = oc ∨ ∃ k, oc' = some k ∧ w.heap.size ≤ k) ∧ XSub X X' w ∧ Trk X' (w8.setCell ⟨p, 0, none⟩ (.slice (some ⟨g, 0, none⟩) (cs.length + 1) cap)) B p oc' os (cs ++ [(e, l)]) ss ∧ Keep (trX p oc os) wa (w8.setCell ⟨p, 0, none⟩ (.slice (some ⟨g, 0, none⟩) (cs.length + 1) cap)) from
        ⟨X1, _, by
          rcases hor8 with h8 | h8
          · left; rw [← E1.out, h8]; rfl
          · right; exact ⟨g, rfl, by rw [h8]; simp; omega⟩, (XSub.refl X w).trans hx1 BA.out.size, ht1, hk1⟩)
      clear hx1 ht1 hk1 hnew ho7 hb7 hown8 hg8 hor8 ho6 b6 m8 m9 q0 q1 hp8
      go_wp2_with fail
      go_meet
      case rel => exact HG2
  case rest =>
    obtain ⟨X2, oc2, hor2, hxs2, ht2, kw1⟩ := hcut.out
    have HXS := Lib.hid hxs2
    clear hxs2
    have HX := Lib.hid hor2
    have K1 := Lib.hid kw1
    have HT1 := Lib.hid ht2
    obtain ⟨vd, vs, xd, xs2, hp1, d1, de1, dr1, s2, se2, sr2⟩ := HT1.out.ex
    obtain ⟨ae, ce, rfl⟩ := owns_form d1
    obtain ⟨ag, cg, rfl⟩ := owns_form s2
    have ky : wc.heap[w.heap.size]? = some (.cells #[.int .i64 e, .slice a n c, .slice sa sn sc] 61 (0, 0)) := by
      rw [kw1.block _ (blk_lt KX.out) (fun hk => by have := hxo.out _ hk; omega)]; exact KX.out
    have y2 : wc.cell? ⟨w.heap.size, 2, none⟩ = some (.slice sa sn sc) := by rw [blk_cell ky]; rfl
    have z1 : wc.cell? ⟨p, 1, none⟩ = some (.slice ag ss.length cg) := by rw [blk_cell hp1]; rfl
    have hSc := HS.out wc ((Keep.of_below BA.out).trans kw1 (fun _ _ hx => hx))
    have CS := Lib.hid (fun (w' : World) (hb : Below wc.heap.size wc w') => clone_sigs sa sn sc sigs w' (hSc.old hb))
    have HSc := Lib.hid hSc
    have HP1 := Lib.hid hp1; have S2 := Lib.hid s2; have SR2 := Lib.hid sr2; have SE2 := Lib.hid se2
    have hpl1 := blk_lt hp1
    have hB1 := Lib.hid (show B ≤ wc.heap.size by have := kw1.size; have := BA.out.size; omega)
    have k3 : ss.length + 1 ≤ maxLen := by simp only [maxLen]; omega
    have k4 : (ss.length + 1) * 24 ≤ 140737488355328 := by omega
    clear hcut hor2 ht2 kw1 hp1 d1 de1 dr1 s2 se2 sr2 ky hSc x0 x1 x2 p0 p1 pf
    go_wp2_with fail
    go_region_law (first | (refine step_at 49 rfl ?_; refine step_calls rfl 49 #[.slice sa sn sc] (by go_simp) (CS.out _ (below_drewN (Below.refl _ _) 1)) ?_; rintro r w6 ⟨v6, rfl, ho6, b6⟩; refine ⟨_, rfl, ?_⟩; obtain ⟨a6, c6, rfl⟩ := owns_form ho6; have q0 := below_cell b6 (w := wc.drew) (b := p) (o := 1) (v := .slice ag ss.length cg) (by simpa using z1); have q1 : (w6.alloc (.cells #[.slice a6 sn c6] 46)).cell? ⟨p, 1, none⟩ = some (.slice ag ss.length cg) := below_cell (below_alloc w6 _) q0; have l6 := Lib.hid (show B ≤ w6.heap.size by have := b6.size; have := hB1.out; simp at *; omega); have hp6 := Lib.hid (show w6.heap[p]? = some (.cells #[.slice ae (cs ++ [(e, l)]).length ce, .slice ag ss.length cg] 98 (0, 0)) by rw [b6.block p (by show p < wc.drew.heap.size; simpa using hpl1)]; exact HP1.out)) | (refine step_append_lies _ rfl (.tmp 20) (.tmp 24) 96 rfl B 46 i2 (.slice none 0 0) 1 24 Try.underlying96 hi2 hs0 hs1 hs2 rfl (by decide) (.slice ag ss.length cg) ss.length xs2 (by rfl) (by exact owns_old (owns_old S2.out (below_drewN (Below.refl _ _) 1)) (bthen b6 (below_alloc _ _))) ⟨w6.heap.size, 0, none⟩ 1 1 [.slice a6 sn c6] (by rfl) rfl (by exact sigs_new _ _ _ _ _) (by simp [Value.oneCell']) (by decide) k3 k4 (by have := l6.out; simp; omega) _ rfl ?_; intro g cap w8 hown8 hg8 hor8 hlt8; have hp8 := Lib.hid (show w8.heap[p]? = some (.cells #[.slice ae (cs ++ [(e, l)]).length ce, .slice ag ss.length cg] 98 (0, 0)) by rw [hg8.block p (by have := blk_lt hp6.out; simp; omega) (by rw [SE2.out]; exact Ne.symm HT1.out.nos), Below.heap_alloc _ _ _ (blk_lt hp6.out)]; exact hp6.out); have m8 : w8.cell? ⟨p, 1, none⟩ = some (.slice ag ss.length cg) := (by rw [blk_cell hp8.out]; rfl); have m9 : w8.frozen? ⟨p, 1, none⟩ = false := blk_frozen hp8.out 1))
    all_goals
      have hnew : ∀ k, (Value.slice a6 sn c6).ownBlock = some k → k < w6.heap.size := fun k hk => (ho6.lt k hk).2
      have ho7 := owns_old (owns_lower ho6 (show wc.heap.size ≤ wc.drew.heap.size by simp)) (below_alloc w6 (.cells #[.slice a6 sn c6] 46))
      have hb7 : Below wc.heap.size wc (w6.alloc (.cells #[.slice a6 sn c6] 46)) := bthen (bthen (below_drewN (Below.refl _ _) 1) b6) (below_alloc _ _)
      have hz6 : wc.heap.size ≤ w6.heap.size := by have := b6.size; simpa using this
      have hzw : w.heap.size ≤ wc.heap.size := by have := K1.out.size; have := BA.out.size; omega
      have HG := Trk.growS (C := w6.heap.size) HT1.out HP1.out SR2.out SE2.out hb7 ho7 hnew (by simp) HSc.out.len (sl_fit HSc.out) HSc.out.bytes hown8 (by rw [SE2.out] at hg8; exact hg8) (by
        rcases hor8 with h8 | h8
        · left; rw [← SE2.out, h8]; rfl
        · right; exact ⟨g, rfl, by rw [h8]; simp, by rw [h8]; simp; omega⟩)
      obtain ⟨⟨X1, hx1, ht1⟩, hk1⟩ := HG
      have HG2 := Lib.hid (show ∃ X' oc' os', (oc' = oc ∨ ∃ k, oc' = some k ∧ w.heap.size ≤ k) ∧ (os' = os ∨ ∃ k, os' = some k ∧ w.heap.size ≤ k) ∧ XSub X X' w ∧ Trk X' (w8.setCell ⟨p, 1, none⟩ (.slice (some ⟨g, 0, none⟩) (ss.length + 1) cap)) B p oc' os' (cs ++ [(e, l)]) (ss ++ [sigs]) ∧ Keep (trX p oc os) w (w8.setCell ⟨p, 1, none⟩ (.slice (some ⟨g, 0, none⟩) (ss.length + 1) cap)) from
        ⟨X1, _, _, HX.out, by
          rcases hor8 with h8 | h8
          · left; rw [← SE2.out, h8]; rfl
          · right; exact ⟨g, rfl, by rw [h8]; simp; omega⟩, HXS.out.trans hx1 hzw, ht1, ((Keep.of_below BA.out).trans K1.out (fun _ _ hx => hx)).trans hk1 (fun k hk hx => by
            rcases hx with hx | hx | hx
            · exact .inl hx
            · rcases HX.out with h | ⟨g', h, hg'⟩
              · exact .inr (.inl (by rw [← h]; exact hx))
              · rw [h] at hx; injection hx with hx; omega
            · exact .inr (.inr hx))⟩)
      clear hx1 ht1 hk1 hnew ho7 hb7 hown8 hg8 hor8 ho6 b6 m8 m9 q0 q1 hp8
      go_wp2_with fail
      go_end0
      exact ⟨rfl, HG2.out⟩
end Go.Proofs.Ytijeieamodjgbab

/- Walk of the program's New. -/
namespace Go.Proofs.Ytijeieamodjgbab
set_option maxRecDepth 100000
open Go.RowKit
set_option linter.unusedVariables false

theorem one_owned (w : World) (B e k : Nat) (xs : List Value) (hk : xs.length = k) (hB : B ≤ w.heap.size) : (w.alloc (.cells xs.toArray e)).ownsRow B e k (.slice (some ⟨w.heap.size, 0, none⟩) 1 1) 1 xs :=
  ⟨by simp [hk], .inr ⟨w.heap.size, 1, xs.toArray, rfl, hB, blk_alloc w _, Nat.le_refl _, by decide, by simp [hk], by simp [← hk]⟩⟩

theorem trk_new {w w6 : World} {e : Int} {a6 : Option Addr} {n c6 : Nat} {l : List Int} (ho : w6.ownsRow w.heap.size 3 1 (.slice a6 n c6) n (intsV l)) (hz : w.heap.size ≤ w6.heap.size) (hl : l.length = n) (he : i64 e) (hf : ∀ x ∈ l, i64 x) (hb : n * 8 ≤ 140737488355328) :
    ∃ X : Nat → Prop, (∀ k, k < w.heap.size → X k) ∧ Trk X ((w6.alloc (.cells #[.int .i64 e, .slice a6 n c6] 24)).alloc (.cells #[.slice (some ⟨w6.heap.size, 0, none⟩) 1 1, .slice none 0 0] 98)) w.heap.size (w6.heap.size + 1) (some w6.heap.size) none [(e, l)] [] := by
  have o1 := one_owned w6 w.heap.size 24 2 [.int .i64 e, .slice a6 n c6] rfl hz
  have b1 := below_alloc w6 (.cells #[.int .i64 e, .slice a6 n c6] 24)
  have b2 := below_alloc (w6.alloc (.cells #[.int .i64 e, .slice a6 n c6] 24)) (.cells #[.slice (some ⟨w6.heap.size, 0, none⟩) 1 1, .slice none 0 0] 98)
  refine ⟨fun k => (Value.slice a6 n c6).ownBlock ≠ some k, fun k hk hc => by have := (ho.lt k hc).1; omega, by omega, by simp, by simp, fun k hk => by simp, fun k hk hc => ?_, fun k hk hc => ?_, _, _, [.int .i64 e, .slice a6 n c6], [], ?_, owns_old o1 b2, rfl, ?_, World.ownsRow_nil _ _ _ _, rfl, rfl⟩
  · have := (ho.lt k hc).2
    rcases hk with hk | hk | hk
    · omega
    · injection hk with hk; omega
    · cases hk
  · have := (ho.lt k hc).2
    simp at hk
    omega
  · have := blk_alloc (w6.alloc (.cells #[.int .i64 e, .slice a6 n c6] 24)) (.cells #[.slice (some ⟨w6.heap.size, 0, none⟩) 1 1, .slice none 0 0] 98)
    simpa using this
  · exact ⟨[.int .i64 e, .slice a6 n c6], [], rfl, rfl, conf_rob (owns_old ho (bthen b1 b2)) hl (fun k hk hx => hx hk) he hf hb, rfl⟩

def NewPost (B : Nat) (e : Int) (l : List Int) (w : World) (r : Ending) (w' : World) : Prop :=
  Below w.heap.size w w' ∧ ((rightB e l = true ∧ e = 0 ∧ ∃ X p oc, r = .returned (.tuple #[.pointer (some ⟨p, 0, none⟩), .int .i64 0]) ∧ w.heap.size ≤ p ∧ (∀ k, k < w.heap.size → X k) ∧ Trk X w' B p oc none [(e, l)] []) ∨
    (¬ (rightB e l = true ∧ e = 0) ∧ r = .returned (.tuple #[.pointer none, .int .i64 1])))

set_option maxHeartbeats 1000000 in
theorem new_any (e : Int) (a : Option Addr) (n c : Nat) (l : List Int) (w : World) (h : IntsAt w a n l) (hn : a = none → c = 0 ∧ n = 0) (hb : n * 8 ≤ 140737488355328) (he : i64 e) :
    Calls Try.prog 23 #[.agg #[.int .i64 e, .slice a n c]] w (NewPost w.heap.size e l w) := by
  obtain ⟨w1, hw1⟩ : ∃ w1, w1 = w.alloc (.cells #[.int .i64 e, .slice a n c] 24) := ⟨_, rfl⟩
  have b1 : Below w.heap.size w w1 := by rw [hw1]; exact below_alloc _ _
  have k1 : w1.heap[w.heap.size]? = some (.cells #[.int .i64 e, .slice a n c] 24 (0, 0)) := by rw [hw1]; exact blk_alloc _ _
  have x0 : w1.cell? ⟨w.heap.size, 0, none⟩ = some (.int .i64 e) := by rw [blk_cell k1]; rfl
  have x1 : w1.cell? ⟨w.heap.size, 1, none⟩ = some (.slice a n c) := by rw [blk_cell k1]; rfl
  have CR := Lib.hid (right_any e a n c l w1 (h.below b1))
  have CO := Lib.hid (fun (w' : World) (hb' : Below w.heap.size w w') => own_any e a n c l w' (h.below hb') hn hb)
  have HB := Lib.hid b1
  have HL := Lib.hid h.len
  have HF := Lib.hid h.fit
  clear h hn b1
  go_enter Try.func23, Try.ntmps23
  go_wp2_with fail
  rw [← hw1]
  clear hw1 k1
  refine CR.out.mono ?_
  rintro r w2 ⟨rfl, b2⟩
  have y0 := below_cell b2 x0
  have y1 := below_cell b2 x1
  have HB2 := Lib.hid (bthen HB.out b2)
  clear b2 x0 x1 CR HB
  cases hr : rightB e l with
  | false =>
    go_wp2_with fail
    go_ret2
    exact ⟨HB2.out, .inr ⟨(fun hc => by rw [hr] at hc; cases hc.1), rfl⟩⟩
  | true =>
    by_cases h0 : e = 0
    · subst h0
      go_wp2_with fail
      refine (CO.out _ HB2.out).mono ?_
      rintro r w6 ⟨a6, c6, rfl, ho6, b6⟩
      have hz2 := HB2.out.size
      obtain ⟨X, hX, hT⟩ := trk_new (owns_lower ho6 hz2) (Nat.le_trans hz2 b6.size) HL.out he HF.out hb
      have HX := Lib.hid hX; have HT := Lib.hid hT
      clear hX hT
      have HB6 := Lib.hid (bthen HB2.out b6)
      clear ho6 b6 CO HB2
      go_wp2_with fail
      go_ret2
      have hz6 := HB6.out.size
      exact ⟨bthen HB6.out (bthen (below_alloc _ _) (below_alloc _ _)), .inl ⟨hr, rfl, X, _, _, rfl, Nat.le_succ_of_le hz6, HX.out, HT.out⟩⟩
    · go_wp2_with fail
      go_ret2
      exact ⟨HB2.out, .inr ⟨(fun hc => h0 hc.2), rfl⟩⟩
end Go.Proofs.Ytijeieamodjgbab

/- Reading the program's tracker; walk of Add. -/
namespace Go.Proofs.Ytijeieamodjgbab
set_option maxRecDepth 100000
open Go.RowKit
attribute [local irreducible] wpQuiet
set_option linter.unusedVariables false

theorem Trk.view {X : Nat → Prop} {w : World} {B p : Nat} {oc os : Option Nat} {cs : List Cf} {ss : List (List Sg)} (h : Trk X w B p oc os cs ss) (h1 : cs.length ≤ 1000) (h2 : ss.length ≤ 1000) :
    ∃ ac cc ag cg, w.heap[p]? = some (.cells #[.slice ac cs.length cc, .slice ag ss.length cg] 98 (0, 0)) ∧ SlAt shConf w ac cs.length cc cs ∧ SlAt shSig.slice w ag ss.length cg ss := by
  obtain ⟨vc, vs, xc, xs, hp, o1, e1, r1, o2, e2, r2⟩ := h.ex
  obtain ⟨ac, cc, rfl⟩ := owns_form o1
  obtain ⟨ag, cg, rfl⟩ := owns_form o2
  exact ⟨ac, cc, ag, cg, hp, sl_of_row o1 r1 (by show _ * 32 ≤ _; omega), sl_of_row o2 r2 (by show _ * 24 ≤ _; omega)⟩
theorem conf_cells {w : World} {a : Option Addr} {n c : Nat} {cs : List Cf} (h : SlAt shConf w a n c cs) {i : Nat} {e : Int} {l : List Int} (hi : cs[i]? = some (e, l)) :
    ∃ b o a' n' c', a = some ⟨b, o, none⟩ ∧ w.cell? ⟨b, o + i * 2, none⟩ = some (.int .i64 e) ∧ w.cell? ⟨b, o + i * 2 + 1, none⟩ = some (.slice a' n' c') ∧ i64 e ∧ SlAt Sh.int w a' n' c' l := by
  obtain ⟨b, o, xs, ha, hE, hc⟩ := h.cell i _ hi
  obtain ⟨x1, x2, rfl, ⟨rfl, he⟩, a', n', c', rfl, hs⟩ := hE
  exact ⟨b, o, a', n', c', ha, hc 0 _ rfl, hc 1 _ rfl, he, hs⟩

end Go.Proofs.Ytijeieamodjgbab

/- Walks of Epoch and At. -/
namespace Go.Proofs.Ytijeieamodjgbab
set_option maxRecDepth 100000
open Go.RowKit
set_option linter.unusedVariables false

set_option maxHeartbeats 1000000 in
theorem epoch_any (X : Nat → Prop) (B p : Nat) (oc os : Option Nat) (cs : List Cf) (ss : List (List Sg)) (w : World) (h : Trk X w B p oc os cs ss) (hcl : cs.length ≤ 1000) (hsl : ss.length ≤ 1000) :
    Calls Try.prog 38 #[.pointer (some ⟨p, 0, none⟩)] w fun r w' => r = .returned (.int .i64 ss.length) ∧ w = w' := by
  obtain ⟨ac, cc, ag, cg, hp, hC, hG⟩ := h.view hcl hsl
  have p1 : w.cell? ⟨p, 1, none⟩ = some (.slice ag ss.length cg) := by rw [blk_cell hp]; rfl
  clear h hp hC hG hcl hsl
  go_enter Try.func38, Try.ntmps38
  go_wp2_with fail
  go_ret
  exact ⟨rfl, rfl⟩

def AtPost (B : Nat) (x : Int) (cs : List Cf) (w : World) (r : Ending) (w' : World) : Prop :=
  Below w.heap.size w w' ∧ ((∃ k e l a n c, x = (k : Nat) ∧ cs[k]? = some (e, l) ∧ r = .returned (.tuple #[.agg #[.int .i64 e, .slice a n c], .bool true]) ∧ w'.ownsRow w.heap.size 3 1 (.slice a n c) n (intsV l) ∧ l.length = n ∧ i64 e ∧ (∀ y ∈ l, i64 y) ∧ n * 8 ≤ 140737488355328) ∨
    ((x < 0 ∨ (cs.length : Int) ≤ x) ∧ r = .returned (.tuple #[.agg #[.int .i64 0, .slice none 0 0], .bool false])))

set_option maxHeartbeats 1000000 in
theorem at_any (X : Nat → Prop) (B p : Nat) (oc os : Option Nat) (cs : List Cf) (ss : List (List Sg)) (x : Int) (w : World) (h : Trk X w B p oc os cs ss) (hcl : cs.length ≤ 1000) (hsl : ss.length ≤ 1000) :
    Calls Try.prog 65 #[.pointer (some ⟨p, 0, none⟩), .int .i64 x] w (AtPost B x cs w) := by
  obtain ⟨ac, cc, ag, cg, hp, hC, hG⟩ := h.view hcl hsl
  obtain ⟨wa, hwa⟩ : ∃ wa, wa = w.alloc (.cells #[.int .i64 0, .slice none 0 0] 24) := ⟨_, rfl⟩
  have ba : Below w.heap.size w wa := by rw [hwa]; exact below_alloc _ _
  have kx : wa.heap[w.heap.size]? = some (.cells #[.int .i64 0, .slice none 0 0] 24 (0, 0)) := by rw [hwa]; exact blk_alloc _ _
  have p0 : wa.cell? ⟨p, 0, none⟩ = some (.slice ac cs.length cc) := by rw [blk_cell (blk_below hp ba)]; rfl
  have x0 : wa.cell? ⟨w.heap.size, 0, none⟩ = some (.int .i64 0) := by rw [blk_cell kx]; rfl
  have x1 : wa.cell? ⟨w.heap.size, 1, none⟩ = some (.slice none 0 0) := by rw [blk_cell kx]; rfl
  have xf : ∀ o, wa.frozen? ⟨w.heap.size, o, none⟩ = false := fun o => blk_frozen kx o
  have q0 : (w.alloc (.cells #[.int .i64 0, .slice none 0 0] 24)).cell? ⟨p, 0, none⟩ = some (.slice ac cs.length cc) := by rw [← hwa]; exact p0
  have BA := Lib.hid ba
  have HC := Lib.hid (hC.old ba)
  have KX := Lib.hid kx
  clear h hp hC hG ba kx
  by_cases hx0 : x < 0
  · go_enter Try.func65, Try.ntmps65
    go_wp2_with fail
    rw [← hwa]
    clear hwa
    exact bodyPost_ret (v := .tuple #[.agg #[.int .i64 0, .slice none 0 0], .bool false]) (by simp [results, Try.results65, go_sem, x0, x1]) rfl ⟨BA.out, .inr ⟨.inl hx0, rfl⟩⟩
  · by_cases hx1 : (cs.length : Int) ≤ x
    · go_enter Try.func65, Try.ntmps65
      go_wp2_with fail
      rw [← hwa]
      clear hwa
      exact bodyPost_ret (v := .tuple #[.agg #[.int .i64 0, .slice none 0 0], .bool false]) (by simp [results, Try.results65, go_sem, x0, x1]) rfl ⟨BA.out, .inr ⟨.inr hx1, rfl⟩⟩
    · obtain ⟨k, rfl⟩ : ∃ k : Nat, x = k := ⟨x.toNat, by omega⟩
      have hk : k < cs.length := by omega
      obtain ⟨⟨e, l⟩, hcm⟩ : ∃ y, cs[k]? = some y := ⟨_, List.getElem?_eq_getElem hk⟩
      obtain ⟨b, o, a', n', c', rfl, d0, d1, he0, hs0⟩ := conf_cells HC.out hcm
      have q1 : (w.alloc (.cells #[.int .i64 0, .slice none 0 0] 24)).cell? ⟨b, o + k * 2, none⟩ = some (.int .i64 e) := by rw [← hwa]; exact d0
      have q2 : (w.alloc (.cells #[.int .i64 0, .slice none 0 0] 24)).cell? ⟨b, o + k * 2 + 1, none⟩ = some (.slice a' n' c') := by rw [← hwa]; exact d1
      have CO := Lib.hid (own_any e a' n' c' l wa (ints_of_sl hs0) (fun hn => ⟨hs0.nil hn, by have := hs0.nil hn; have := hs0.cap; omega⟩) hs0.bytes)
      have HL := Lib.hid hs0.len
      have HF := Lib.hid (ints_of_sl hs0).fit
      have HBY := Lib.hid hs0.bytes
      have HCM := Lib.hid hcm
      clear hs0 hcm
      go_enter Try.func65, Try.ntmps65
      go_wp2_with fail
      rw [← hwa]
      clear hwa q0 q1 q2
      refine CO.out.mono ?_
      rintro r w6 ⟨a6, c6, rfl, ho6, b6⟩
      have k6 := blk_below KX.out b6
      have m0 : w6.cell? ⟨w.heap.size, 0, none⟩ = some (.int .i64 0) := by rw [blk_cell k6]; rfl
      have m1 : w6.cell? ⟨w.heap.size, 1, none⟩ = some (.slice none 0 0) := by rw [blk_cell k6]; rfl
      have mf : ∀ o, w6.frozen? ⟨w.heap.size, o, none⟩ = false := fun o => blk_frozen k6 o
      have HO := Lib.hid ho6
      have HB6 := Lib.hid b6
      have K6 := Lib.hid k6
      clear ho6 b6 k6 p0 x0 x1 xf d0 d1 CO
      go_wp2_with fail
      have hs := blk_set (blk_set K6.out 0 (.int .i64 e)) 1 (.slice a6 n' c6)
      have f0 : ((w6.setCell ⟨w.heap.size, 0, none⟩ (.int .i64 e)).setCell ⟨w.heap.size, 1, none⟩ (.slice a6 n' c6)).cell? ⟨w.heap.size, 0, none⟩ = some (.int .i64 e) := by rw [blk_cell hs]; rfl
      have f1 : ((w6.setCell ⟨w.heap.size, 0, none⟩ (.int .i64 e)).setCell ⟨w.heap.size, 1, none⟩ (.slice a6 n' c6)).cell? ⟨w.heap.size, 1, none⟩ = some (.slice a6 n' c6) := by rw [blk_cell hs]; rfl
      have hlt := blk_lt KX.out
      exact bodyPost_ret (v := .tuple #[.agg #[.int .i64 e, .slice a6 n' c6], .bool true]) (by simp [results, Try.results65, go_sem, f0, f1]) rfl
        ⟨((bthen BA.out HB6.out).setCell (p := ⟨w.heap.size, 0, none⟩) (Nat.le_refl _) (.int .i64 e)).setCell (p := ⟨w.heap.size, 1, none⟩) (Nat.le_refl _) (.slice a6 n' c6),
          .inl ⟨k, e, l, a6, n', c6, rfl, HCM.out, rfl, owns_lower (owns_setlow (owns_setlow HO.out hlt 0 _) hlt 1 _) (Nat.le_of_lt hlt), HL.out, he0, HF.out, HBY.out⟩⟩
end Go.Proofs.Ytijeieamodjgbab

/- Walk of Chain. -/
namespace Go.Proofs.Ytijeieamodjgbab
set_option maxRecDepth 100000
open Go.RowKit
set_option linter.unusedVariables false

/-- A link whose lists are the owner's own, from block B on. -/
def shOLink (B : Nat) : Sh Lk where
  k := 3
  bs := 56
  E := fun w y cs => ∃ a n c sa sn sc, cs = [.int .i64 y.1.1, .slice a n c, .slice sa sn sc] ∧ i64 y.1.1 ∧ w.ownsRow B 3 1 (.slice a n c) n (intsV y.1.2) ∧ y.1.2.length = n ∧ (∀ x ∈ y.1.2, i64 x) ∧ n * 8 ≤ 140737488355328 ∧
    w.ownsRow B 108 2 (.slice sa sn sc) sn (sigV y.2) ∧ y.2.length = sn ∧ (∀ s ∈ y.2, i64 s.1 ∧ s.2.size ≤ 1125899906842624) ∧ sn * 24 ≤ 140737488355328
  sz := fun _ => 0
  len := fun ⟨a, n, c, sa, sn, sc, h, _⟩ => by rw [h]; rfl
  old := fun ⟨a, n, c, sa, sn, sc, h, he, h1, h2, h3, h4, h5, h6, h7, h8⟩ hb => ⟨a, n, c, sa, sn, sc, h, he, owns_old h1 hb, h2, h3, h4, owns_old h5 hb, h6, h7, h8⟩
theorem olink_link {B : Nat} {w : World} {y : Lk} {cs : List Value} (h : (shOLink B).E w y cs) : shLink.E w y cs := by
  obtain ⟨a, n, c, sa, sn, sc, rfl, he, h1, h2, h3, h4, h5, h6, h7, h8⟩ := h
  exact ⟨[.int .i64 y.1.1, .slice a n c], [.slice sa sn sc], rfl, ⟨[.int .i64 y.1.1], [.slice a n c], rfl, ⟨rfl, he⟩, a, n, c, rfl, ints_row h1 h2 h3 h4⟩, sa, sn, sc, rfl, sigs_row h5 h6 h7 h8⟩
def chainL (cs : List Cf) (ss : List (List Sg)) : List Lk := cs.tail.zip ss
theorem chainL_get {cs : List Cf} {ss : List (List Sg)} {i : Nat} {c : Cf} {s : List Sg} (h1 : cs[i + 1]? = some c) (h2 : ss[i]? = some s) : (chainL cs ss)[i]? = some (c, s) := by
  rw [chainL, List.getElem?_zip_eq_some]
  exact ⟨by rw [List.getElem?_tail]; exact h1, h2⟩

theorem link_new (w : World) (e : Int) (a : Option Addr) (n c : Nat) (sa : Option Addr) (sn sc : Nat) (t : TypeId) : ∀ j u, [Value.int .i64 e, .slice a n c, .slice sa sn sc][j]? = some u → (w.alloc (.cells #[.int .i64 e, .slice a n c, .slice sa sn sc] t)).cell? ((⟨w.heap.size, 0, none⟩ : Addr).add j) = some u := by
  intro j u h
  rw [Addr.add_lit, blk_cell (blk_alloc w _), ← h]
  simp
theorem info_link' : (Try.prog.info? 61).map (fun i => (i.zero, i.size, i.bytes)) = some (some (.agg #[.int .i64 0, .slice none 0 0, .slice none 0 0]), 3, 56) := by kernel_rfl

def ChainPost (l : List Lk) (w : World) (r : Ending) (w' : World) : Prop :=
  Below w.heap.size w w' ∧ ∃ a c xs, r = .returned (.slice a l.length c) ∧ w'.ownsRow w.heap.size 61 3 (.slice a l.length c) l.length xs ∧ rowOf (shOLink w.heap.size) (fun j => j < w.heap.size ∨ (Value.slice a l.length c).ownBlock = some j) w' l xs

set_option maxHeartbeats 1000000 in
theorem chain_any (X : Nat → Prop) (B p : Nat) (oc os : Option Nat) (cs : List Cf) (ss : List (List Sg)) (w : World) (h : Trk X w B p oc os cs ss) (hcl : cs.length = ss.length + 1) (hsl : ss.length ≤ 100) :
    Calls Try.prog 28 #[.pointer (some ⟨p, 0, none⟩)] w (ChainPost (chainL cs ss) w) := by
  obtain ⟨il, hil, hl0, hl1, hl2⟩ := info_parts info_link'
  obtain ⟨ac, cc, ag, cg, hp, hC, hG⟩ := h.view (by omega) (by omega)
  have p0 : w.cell? ⟨p, 0, none⟩ = some (.slice ac cs.length cc) := by rw [blk_cell hp]; rfl
  have p1 : w.cell? ⟨p, 1, none⟩ = some (.slice ag ss.length cg) := by rw [blk_cell hp]; rfl
  have HC := Lib.hid hC; have HG := Lib.hid hG; have HP := Lib.hid hp
  generalize hn : ss.length = n at *
  have hn0 : (0 : Int) ≤ (n : Int) := by omega
  have HCL := Lib.hid hcl; have HN := Lib.hid hn
  clear h hp hC hG hcl hn
  go_enter Try.func28, Try.ntmps28
  go_wp2_with (first | (at_make; refine wpList_make_own _ rfl _ _ 48 rfl w.heap.size 61 il (.agg #[.int .i64 0, .slice none 0 0, .slice none 0 0]) 3 Try.underlying48 hil hl0 hl1 _ _ _ n rfl rfl rfl (by rw [hl2]; omega) (by simp only [maxLen]; omega) (Nat.le_refl _) ?_) | fail)
  intro w1 hown hgrow
  have hb1 := Lib.hid (show Below w.heap.size w w1 from (Below.refl _ w).grown hgrow (Nat.le_refl _) (fun k hk => by cases hk))
  have q0 := below_cell hb1.out p0
  have q1 := below_cell hb1.out p1
  have HO0 := Lib.hid hown
  have HL2 := Lib.hid hl2
  clear hown hgrow p0 p1 hl2
  have HL := Lib.hid hil
  go_wp2_with fail
  go_loopw [3, 19] (fun v i wr => ∃ k : Nat, k ≤ n ∧ i = .int .i64 k ∧ Hid (∃ a c xs, v = .slice a k c ∧ wr.ownsRow w.heap.size 61 3 (.slice a k c) k xs ∧ rowOf (shOLink w.heap.size) (fun j => j < w.heap.size ∨ (Value.slice a k c).ownBlock = some j) wr ((chainL cs ss).take k) xs) ∧ Hid (Below w.heap.size w wr)) (fun _ i _ => n - (intOf i).toNat)
  case atStart => exact ⟨0, by omega, rfl, Lib.hid ⟨_, _, [], rfl, HO0.out, rfl⟩, hb1⟩
  case round =>
    clear HO0 q0 q1
    obtain ⟨k, hk, rfl, Hv, Hb⟩ := hrel
    have q0 : wr.cell? ⟨p, 0, none⟩ = some (.slice ac cs.length cc) := by rw [blk_cell (blk_below HP.out Hb.out)]; rfl
    have q1 : wr.cell? ⟨p, 1, none⟩ = some (.slice ag n cg) := by rw [blk_cell (blk_below HP.out Hb.out)]; rfl
    by_cases hlt : k < n
    · obtain ⟨av, cv, xs, rfl, ho, hr⟩ := Hv.out
      obtain ⟨⟨e, l⟩, hcm⟩ : ∃ y, cs[k + 1]? = some y := ⟨_, List.getElem?_eq_getElem (by rw [HCL.out]; omega)⟩
      obtain ⟨sg, hsm⟩ : ∃ y, ss[k]? = some y := ⟨_, List.getElem?_eq_getElem (by rw [HN.out]; omega)⟩
      obtain ⟨b, o, a', n', c', rfl, d0, d1, he0, hs0⟩ := conf_cells (HC.out.old Hb.out) hcm
      obtain ⟨b2, o2, ys, rfl, ⟨sa, sn, sc, rfl, hS⟩, hys⟩ := (HG.out.old Hb.out).cell k _ hsm
      have d2 := hys 0 _ rfl
      simp only [Nat.add_zero, show shSig.slice.k = 1 from rfl, Nat.mul_one] at d2
      have HK := Lib.hid (chainL_get hcm hsm)
      have HO := Lib.hid ho; have HR := Lib.hid hr; have HS0 := Lib.hid hs0; have HS := Lib.hid hS
      have hki : IntKind.i64.wrap ((k : Int) + 1) = ((k + 1 : Nat) : Int) := IntWalk.i64_in _ (by omega)
      have hk1 : k + 1 < cs.length := by rw [HCL.out]; omega
      clear ho hr hs0 hS hys hcm hsm Hv
      go_wp2_with fail
      refine (own_any e a' n' c' l wr (ints_of_sl HS0.out) (fun hn => ⟨HS0.out.nil hn, by have := HS0.out.nil hn; have := HS0.out.cap; omega⟩) HS0.out.bytes).mono ?_
      rintro r w6 ⟨a6, c6, rfl, ho6, b6⟩
      have HO6 := Lib.hid ho6; have B6 := Lib.hid b6
      clear ho6 b6 q0 q1 d0 d1 d2
      go_wp2_with fail
      refine (clone_sigs sa sn sc sg w6 (HS.out.old B6.out)).mono ?_
      rintro r w7 ⟨v7, rfl, ho7, b7⟩
      obtain ⟨a7, c7, rfl⟩ := owns_form ho7
      have HO7 := Lib.hid ho7; have B7 := Lib.hid b7
      have hzr := Hb.out.size; have hz6 := b7.size; have hz5 := B6.out.size
      clear ho7 b7
      have k1 : k + 1 ≤ maxLen := by simp only [maxLen]; omega
      have k2 : (k + 1) * 56 ≤ 140737488355328 := by omega
      have HOW := Lib.hid (owns_old HO.out (bthen (bthen B6.out B7.out) (below_alloc w7 (.cells #[.int .i64 e, .slice a6 n' c6, .slice a7 sn c7] 61))))
      go_wp2_with (first | (at_builtin; refine wpList_append_lies _ rfl (.tmp 24) (.tmp 37) 48 rfl w.heap.size 61 il (.agg #[.int .i64 0, .slice none 0 0, .slice none 0 0]) 3 56 Try.underlying48 hil hl0 hl1 HL2.out rfl (by decide) (.slice av k cv) k xs rfl HOW.out ⟨w7.heap.size, 0, none⟩ 1 1 [.int .i64 e, .slice a6 n' c6, .slice a7 sn c7] rfl rfl (link_new w7 e a6 n' c6 a7 sn c7 _) (by simp [Value.oneCell']) (by decide) k1 k2 (by simp; omega) _ rfl ?_) | fail)
      intro g cap w8 hown8 hg8 hor8 hlt8
      have HN8 := Lib.hid (show (∃ a c xs', Value.slice (some ⟨g, 0, none⟩) (k + 1) cap = .slice a (k + 1) c ∧ w8.ownsRow w.heap.size 61 3 (.slice a (k + 1) c) (k + 1) xs' ∧ rowOf (shOLink w.heap.size) (fun j => j < w.heap.size ∨ (Value.slice a (k + 1) c).ownBlock = some j) w8 ((chainL cs ss).take (k + 1)) xs') ∧ Below w.heap.size w w8 by
        have hb7 := bthen (bthen B6.out B7.out) (below_alloc w7 (.cells #[.int .i64 e, .slice a6 n' c6, .slice a7 sn c7] 61))
        have hb6 := bthen B7.out (below_alloc w7 (.cells #[.int .i64 e, .slice a6 n' c6, .slice a7 sn c7] 61))
        have K8 : Keep (fun j => (Value.slice av k cv).ownBlock = some j) wr w8 := (Keep.of_below hb7).grown hg8 (fun k hk => .inr hk)
        have K6 : Keep (fun j => (Value.slice av k cv).ownBlock = some j) w6 w8 := (Keep.of_below hb6).grown hg8 (fun k hk => .inr hk)
        have K7 : Keep (fun j => (Value.slice av k cv).ownBlock = some j) w7 w8 := (Keep.of_below (below_alloc w7 _)).grown hg8 (fun k hk => .inr hk)
        have hol := HO.out.lt
        refine ⟨⟨_, _, _, rfl, hown8, ?_⟩, grown_below (bthen Hb.out hb7) hg8 (fun j hj => (hol j hj).1)⟩
        rw [List.take_add_one, HK.out]
        have m6 := owns_keep HO6.out K6 (fun j hj hc => by have := (HO6.out.lt j hj).1; have := (hol j hc).2; omega)
        have m7 := owns_keep HO7.out K7 (fun j hj hc => by have := (HO7.out.lt j hj).1; have := (hol j hc).2; omega)
        refine (HR.out.step K8 (fun j _ hj => .inr hj) (fun j hj hx => ?_)).snoc rfl (fun w' hk' => ⟨a6, n', c6, a7, sn, c7, rfl, he0, owns_lower (owns_keep m6 hk' (fun j hj hx => ?_)) hzr, HS0.out.len, (ints_of_sl HS0.out).fit, HS0.out.bytes, owns_lower (owns_keep m7 hk' (fun j hj hx => ?_)) (by omega), HS.out.len, sl_fit HS.out, HS.out.bytes⟩)
        · rcases hx with hx | hx
          · exact .inl hx
          · have hx : some g = some j := hx
            injection hx with hx; subst hx
            rcases hor8 with h8 | h8
            · exact .inr h8
            · omega
        · have h1 := HO6.out.lt j hj
          rcases hx with hx | hx
          · omega
          · have hx : some g = some j := hx
            injection hx with hx; subst hx
            rcases hor8 with h8 | h8
            · have := (hol _ h8).2; omega
            · omega
        · have h1 := HO7.out.lt j hj
          rcases hx with hx | hx
          · omega
          · have hx : some g = some j := hx
            injection hx with hx; subst hx
            rcases hor8 with h8 | h8
            · have := (hol _ h8).2; omega
            · omega)
      clear hown8 hg8 hor8 hlt8
      go_wp2_with fail
      go_roundw
      case rel => exact ⟨k + 1, by omega, rfl, Lib.hid HN8.out.1, Lib.hid HN8.out.2⟩
      case measure => simp [intOf]; omega
    · obtain ⟨av, cv, xs, rfl, ho, hr⟩ := Hv.out
      obtain rfl : k = n := by omega
      have HO := Lib.hid ho; have HR := Lib.hid hr
      clear ho hr Hv
      go_wp2_with fail
      go_ret
      have hlen : (chainL cs ss).length = k := by rw [chainL, List.length_zip, List.length_tail, HCL.out, HN.out]; omega
      refine ⟨Hb.out, ?_⟩
      rw [hlen]
      exact ⟨av, cv, xs, rfl, HO.out, by have := HR.out; rwa [List.take_of_length_le (Nat.le_of_eq hlen)] at this⟩
end Go.Proofs.Ytijeieamodjgbab

/- A tracker that isn't there. -/
namespace Go.Proofs.Ytijeieamodjgbab
set_option maxRecDepth 100000
open Go.RowKit
set_option linter.unusedVariables false

end Go.Proofs.Ytijeieamodjgbab

/- Walk of four. -/
namespace Go.Proofs.Ytijeieamodjgbab
set_option maxRecDepth 100000
open Go.RowKit
set_option linter.unusedVariables false

end Go.Proofs.Ytijeieamodjgbab
