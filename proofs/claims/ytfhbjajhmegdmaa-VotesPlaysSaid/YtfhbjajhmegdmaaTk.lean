
/- Slices whose things stay, whatever is done to some blocks; a tracker that is cut to its first configuration; walk of Take. -/
import Derived.Test.YtfhbjajhmegdmaaSm
namespace Go.Proofs.Ytfhbjajhmegdmaa
set_option maxRecDepth 100000
open Go.RowKit
set_option linter.unusedVariables false

/-- A slice that reads as a list, whatever is done to blocks of X. -/
structure RSl {α : Type} (S : Sh α) (X : Nat → Prop) (w : World) (a : Option Addr) (n c : Nat) (l : List α) : Prop where
  sl : SlAt S w a n c l
  el : ∀ i y, l[i]? = some y → ∃ b o cs, a = some ⟨b, o, none⟩ ∧ Rob X (fun w' => S.E w' y cs) w ∧ ∀ j v, cs[j]? = some v → Rob X (fun w' => w'.cell? ⟨b, o + i * S.k + j, none⟩ = some v) w
section
variable {α : Type} {S : Sh α} {X X' Y : Nat → Prop} {w0 w w1 : World} {a : Option Addr} {n c : Nat} {l : List α}
theorem RSl.rob (h : RSl S X w a n c l) : Rob X (fun w' => SlAt S w' a n c l) w := fun w' hk =>
  ⟨h.sl.len, h.sl.cap, h.sl.max, h.sl.bytes, h.sl.nil, fun i y hy => by
    obtain ⟨b, o, cs, ha, hE, hc⟩ := h.el i y hy
    exact ⟨b, o, cs, ha, hE w' hk, fun j v hv => hc j v hv w' hk⟩⟩
theorem RSl.step (h : RSl S X w a n c l) (hk : Keep Y w w1) (hY : ∀ k, k < w.heap.size → Y k → X k) (hX : ∀ k, k < w.heap.size → X' k → X k) : RSl S X' w1 a n c l :=
  ⟨h.rob w1 ⟨hk.os, hk.tape, hk.output, hk.size, fun k h1 h2 => hk.block k h1 (fun hc => h2 (hY k h1 hc))⟩, fun i y hy => by
    obtain ⟨b, o, cs, ha, hE, hc⟩ := h.el i y hy
    exact ⟨b, o, cs, ha, hE.step hk hY hX, fun j v hv => (hc j v hv).step hk hY hX⟩⟩
/-- What is older than all blocks of X. -/
theorem rsl_old (h : SlAt S w0 a n c l) (hb : Below w0.heap.size w0 w) (hX : ∀ k, X k → w0.heap.size ≤ k) : RSl S X w a n c l :=
  ⟨h.old hb, fun i y hy => by
    obtain ⟨b, o, cs, ha, hE, hc⟩ := h.cell i y hy
    exact ⟨b, o, cs, ha, fun w' hk => S.old hE (hk.below hb hX), fun j v hv w' hk => below_cell (hk.below hb hX) (hc j v hv)⟩⟩
theorem rsl_row {B e : Nat} {xs : List Value} (ho : w.ownsRow B e S.k (.slice a n c) l.length xs) (hr : rowOf S X w l xs) (hb : n * S.bs ≤ 140737488355328) (hX : ∀ k, (Value.slice a n c).ownBlock = some k → ¬ X k) : RSl S X w a n c l :=
  ⟨sl_of_row ho hr hb, fun i y hy => by
    obtain ⟨cs, hc, hR, hx⟩ := hr.get hy
    rcases ho.2 with ⟨hv, h0⟩ | ⟨g, cap, cur, hv, hB, hg, hnc, hcm, hs, ht⟩
    · rw [List.eq_nil_of_length_eq_zero h0] at hy; cases hy
    · injection hv with h1 h2 h3
      subst h1
      refine ⟨g, 0, cs, rfl, hR, fun j v hv w' hk => ?_⟩
      have := (owns_keep ho hk hX).cells (g := g) rfl _ _ (hx j v hv)
      rw [Addr.add_lit, Nat.zero_add] at this
      rw [Nat.zero_add]; exact this⟩
end


def takeC (c0 : Cf) (cs : List Cf) (chain : List Lk) : Int := if 64 < chain.length then 3 else checkC c0 (c0 :: cs) chain

end Go.Proofs.Ytfhbjajhmegdmaa

/- Plain laws of a tracker: what is known after a call. No program in sight. -/
namespace Go.Proofs.Ytfhbjajhmegdmaa
set_option maxRecDepth 100000
set_option linter.unusedVariables false

/-- The last configuration that is known. -/
def lastC (c : Cf) : List Lk → Cf
  | [] => c
  | y :: r => lastC y.1 r
theorem lastC_get : ∀ (L : List Lk) (c : Cf), (c :: L.map (·.1))[L.length]? = some (lastC c L)
  | [], c => rfl
  | y :: r, c => lastC_get r y.1
theorem lastC_snoc : ∀ (L : List Lk) (c : Cf) (y : Lk), lastC c (L ++ [y]) = y.1
  | [], c, y => rfl
  | z :: r, c, y => lastC_snoc r z.1 y
/-- A good chain's next link. -/
theorem chainC_snoc : ∀ (L : List Lk) (c : Cf) (y : Lk), chainC c L = 0 → chainC c (L ++ [y]) = validC (lastC c L).1 (lastC c L).2 y.1.1 y.1.2 y.2
  | [], c, y, _ => by
    show chainC c [y] = _
    rw [chainC]
    split
    · rename_i h; rw [chainC]; exact h.symm
    · rfl
  | z :: r, c, y, h => by
    rw [chainC] at h
    split at h
    · rename_i hz
      rw [List.cons_append, chainC, if_pos hz, chainC_snoc r z.1 y h]; rfl
    · rename_i hz; exact (hz h).elim
/-- A chain that is bad stays so. -/
theorem chainC_bad : ∀ (L r : List Lk) (c : Cf), chainC c L ≠ 0 → chainC c (L ++ r) = chainC c L
  | [], r, c, h => (h rfl).elim
  | z :: q, r, c, h => by
    rw [chainC] at h
    rw [List.cons_append, chainC, chainC]
    split
    · rename_i hz; rw [if_pos hz] at h; exact chainC_bad q r z.1 h
    · rfl
theorem chainC_pre {L r : List Lk} {c : Cf} (h : chainC c (L ++ r) = 0) : chainC c L = 0 := by
  refine Classical.byContradiction fun hc => ?_
  rw [chainC_bad L r c hc] at h; exact hc h

theorem validC_zero {e0 : Int} {l0 : List Int} {e1 : Int} {l1 : List Int} {s : List Sg} (h : validC e0 l0 e1 l1 s = 0) : rightB e0 l0 = true ∧ rightB e1 l1 = true ∧ e1 = e0 + 1 := by
  cases h0 : rightB e0 l0 with
  | false => rw [validC_old h0] at h; cases h
  | true =>
    cases h1 : rightB e1 l1 with
    | false => rw [validC_new h1] at h; cases h
    | true =>
      by_cases h2 : e1 = e0 + 1
      · exact ⟨rfl, rfl, h2⟩
      · rw [validC_epoch h0 h1 h2] at h; cases h
theorem chain_epoch : ∀ (L : List Lk) (c : Cf), chainC c L = 0 → ∀ (i : Nat) (y : Lk), L[i]? = some y → y.1.1 = c.1 + i + 1 ∧ rightB y.1.1 y.1.2 = true
  | [], c, _, i, y, hy => by cases hy
  | z :: r, c, h, i, y, hy => by
    rw [chainC] at h
    split at h
    · rename_i hz
      obtain ⟨_, h1, h2⟩ := validC_zero hz
      cases i with
      | zero => simp at hy; subst hy; exact ⟨by rw [h2]; simp, h1⟩
      | succ i =>
        have := chain_epoch r z.1 h i y (by simpa using hy)
        exact ⟨by rw [this.1, h2]; simp; omega, this.2⟩
    · rename_i hz; exact (hz h).elim
theorem chain_len {L : List Lk} {c : Cf} (h0 : 0 ≤ c.1) (h : chainC c L = 0) : L.length ≤ 60 := by
  rcases Nat.eq_zero_or_pos L.length with hl | hl
  · omega
  · obtain ⟨y, hy⟩ : ∃ y, L[L.length - 1]? = some y := ⟨_, List.getElem?_eq_getElem (by omega)⟩
    obtain ⟨h1, h2⟩ := chain_epoch L c h _ y hy
    have := (rightB_rising h2).2.1
    omega
theorem take_zero {c0 : Cf} {L chain : List Lk} (h : takeC c0 (L.map (·.1)) chain = 0) : chain.length ≤ 64 ∧ chainC c0 chain = 0 ∧ otherB (c0 :: L.map (·.1)) chain = false ∧ L.length < chain.length := by
  rw [takeC] at h
  split at h
  · cases h
  · rw [checkC] at h
    split at h
    · rename_i hc; exact (hc h).elim
    · rename_i hc
      split at h
      · cases h
      · rename_i ho
        split at h
        · cases h
        · rename_i hl
          exact ⟨by omega, Classical.byContradiction hc, by simpa using ho, by simp at hl; omega⟩
theorem other_same {c0 : Cf} {L chain : List Lk} (h : otherB (c0 :: L.map (·.1)) chain = false) (hL : chainC c0 L = 0) (hc : chainC c0 chain = 0) : ∀ (i : Nat) (y z : Lk), L[i]? = some y → chain[i]? = some z → z.1 = y.1 := fun i y z hy hz => by
  rw [otherB, List.any_eq_false] at h
  have := h (y.1, z) (List.mem_of_getElem? (i := i) (by rw [List.getElem?_zip_eq_some]; exact ⟨by simp [hy], hz⟩))
  simp at this
  have h1 := (chain_epoch L c0 hL i y hy).1
  have h2 := (chain_epoch chain c0 hc i z hz).1
  exact Prod.ext (by rw [h1, h2]) this.symm

/-- What a call answers, what is known behind it. -/
def callE (c0 : Cf) (L : List Lk) (one : Bool) (chain : List Lk) : Int :=
  if one = true then (match chain with
    | [] => validC (lastC c0 L).1 (lastC c0 L).2 0 [] []
    | y :: _ => validC (lastC c0 L).1 (lastC c0 L).2 y.1.1 y.1.2 y.2) else takeC c0 (L.map (·.1)) chain
def callL (c0 : Cf) (L : List Lk) (one : Bool) (chain : List Lk) : List Lk := if callE c0 L one chain = 0 then (if one = true then L ++ chain.take 1 else chain) else L
theorem callE_one (c0 : Cf) (L : List Lk) (y : Lk) (r : List Lk) : callE c0 L true (y :: r) = validC (lastC c0 L).1 (lastC c0 L).2 y.1.1 y.1.2 y.2 := rfl
theorem callE_take (c0 : Cf) (L chain : List Lk) : callE c0 L false chain = takeC c0 (L.map (·.1)) chain := by cases chain <;> rfl
theorem call_nil (c0 : Cf) (L : List Lk) : callE c0 L true [] = 1 := by
  exact validC_new (by decide) _ _ _
theorem callL_no {c0 : Cf} {L : List Lk} {one : Bool} {chain : List Lk} (h : callE c0 L one chain ≠ 0) : callL c0 L one chain = L := by rw [callL, if_neg h]
theorem callL_one {c0 : Cf} {L : List Lk} {y : Lk} {r : List Lk} (h : callE c0 L true (y :: r) = 0) : callL c0 L true (y :: r) = L ++ [y] := by rw [callL, if_pos h]; rfl
theorem callL_take {c0 : Cf} {L : List Lk} {chain : List Lk} (h : callE c0 L false chain = 0) : callL c0 L false chain = chain := by rw [callL, if_pos h]; rfl
theorem call_good {c0 : Cf} {L : List Lk} (hL : chainC c0 L = 0) (one : Bool) (chain : List Lk) : chainC c0 (callL c0 L one chain) = 0 := by
  by_cases h : callE c0 L one chain = 0
  · cases one with
    | false =>
      rw [callL_take h]
      rw [callE_take] at h
      exact (take_zero h).2.1
    | true =>
      cases chain with
      | nil => rw [call_nil] at h; cases h
      | cons y r =>
        rw [callL_one h, chainC_snoc L c0 y hL]
        rw [callE_one] at h
        exact h
  · rw [callL_no h]; exact hL
/-- A call that is taken: more is known, and all that was known. -/
theorem call_grows {c0 : Cf} {L : List Lk} (hL : chainC c0 L = 0) (one : Bool) (chain : List Lk) (h : callE c0 L one chain = 0) :
    L.length < (callL c0 L one chain).length ∧ ∀ (i : Nat) (y : Lk), L[i]? = some y → ∃ z, (callL c0 L one chain)[i]? = some z ∧ z.1 = y.1 := by
  cases one with
  | false =>
    rw [callL_take h]
    rw [callE_take] at h
    obtain ⟨_, h1, h2, h3⟩ := take_zero h
    refine ⟨h3, fun i y hy => ?_⟩
    have hi := (List.getElem?_eq_some_iff.1 hy).1
    exact ⟨chain[i], List.getElem?_eq_getElem (by omega), other_same h2 hL h1 i y _ hy (List.getElem?_eq_getElem (by omega))⟩
  | true =>
    cases chain with
    | nil => rw [call_nil] at h; cases h
    | cons y r =>
      rw [callL_one h]
      refine ⟨by simp, fun i z hz => ⟨z, ?_, rfl⟩⟩
      rw [List.getElem?_append_left (List.getElem?_eq_some_iff.1 hz).1]; exact hz
end Go.Proofs.Ytfhbjajhmegdmaa

/- Walk of a call on the program's tracker. -/
namespace Go.Proofs.Ytfhbjajhmegdmaa
set_option maxRecDepth 100000
open Go.RowKit
set_option linter.unusedVariables false

/-- One link of a slice whose things stay. -/
theorem rsl_link {X : Nat → Prop} {w : World} {a : Option Addr} {n c : Nat} {chain : List Lk} (h : RSl shLink X w a n c chain) {i : Nat} {e : Int} {l : List Int} {sg : List Sg} (hi : chain[i]? = some ((e, l), sg)) :
    ∃ b o a1 n1 c1 sa sn sc, a = some ⟨b, o, none⟩ ∧ (∀ w', Keep X w w' → w'.cell? ⟨b, o + i * 3, none⟩ = some (.int .i64 e) ∧ w'.cell? ⟨b, o + i * 3 + 1, none⟩ = some (.slice a1 n1 c1) ∧ w'.cell? ⟨b, o + i * 3 + 2, none⟩ = some (.slice sa sn sc)) ∧ i64 e ∧
      Rob X (fun w' => SlAt Sh.int w' a1 n1 c1 l) w ∧ Rob X (fun w' => SlAt shSig w' sa sn sc sg) w := by
  obtain ⟨b, o, cs1, rfl, hE, hcell⟩ := h.el i _ hi
  obtain ⟨e', l', sg', a1, n1, c1, sa, sn, sc, hey, rfl, he, _, _⟩ := link_open hE.self
  injection hey with h1 h2
  injection h1 with h1 h3
  subst h1 h2 h3
  refine ⟨b, o, a1, n1, c1, sa, sn, sc, rfl, fun w' hk => ⟨hcell 0 _ rfl w' hk, hcell 1 _ rfl w' hk, hcell 2 _ rfl w' hk⟩, he, hE.mono fun w' hw' => ?_, hE.mono fun w' hw' => ?_⟩
  · obtain ⟨_, _, _, _, _, _, _, _, _, h1, h2, _, h3, _⟩ := link_open hw'
    simp at h2
    injection h1 with h4 h5
    injection h4 with h4 h6
    rw [h6]
    obtain ⟨_, ⟨rfl, rfl, rfl⟩, _⟩ := h2
    exact h3
  · obtain ⟨_, _, _, _, _, _, _, _, _, h1, h2, _, _, h3⟩ := link_open hw'
    simp at h2
    injection h1 with h4 h5
    rw [h5]
    obtain ⟨_, _, rfl, rfl, rfl⟩ := h2
    exact h3

theorem new_one {p : Nat} {oc os oc' os' : Option Nat} {w : World} (h1 : oc' = oc ∨ ∃ k, oc' = some k ∧ w.heap.size ≤ k) (h2 : os' = os ∨ ∃ k, os' = some k ∧ w.heap.size ≤ k) : ∀ j, trX p oc' os' j → trX p oc os j ∨ w.heap.size ≤ j := fun j hj => by
  rcases hj with hj | hj | hj
  · exact .inl (.inl hj)
  · rcases h1 with rfl | ⟨k, rfl, hk⟩
    · exact .inl (.inr (.inl hj))
    · injection hj with hj; exact .inr (by omega)
  · rcases h2 with rfl | ⟨k, rfl, hk⟩
    · exact .inl (.inr (.inr hj))
    · injection hj with hj; exact .inr (by omega)

end Go.Proofs.Ytfhbjajhmegdmaa

/- Scripts of calls: what they are in memory; a chain that was handed out. -/
namespace Go.Proofs.Ytfhbjajhmegdmaa
set_option maxRecDepth 100000
open Go.RowKit
set_option linter.unusedVariables false

abbrev Op := Bool × List Lk
def shOp : Sh Op := (Sh.bool.pair shLink.slice).bytes 32
theorem vwBool : Vw Try.prog 4 Sh.bool := vw_bool Try.underlying4 (by kernel_rfl) (by kernel_rfl)
theorem op_cells {w : World} {a : Option Addr} {n c : Nat} {l : List Op} (h : SlAt shOp w a n c l) {i : Nat} {one : Bool} {chain : List Lk} (hi : l[i]? = some (one, chain)) :
    ∃ b o a1 n1 c1, a = some ⟨b, o, none⟩ ∧ w.cell? ⟨b, o + i * 2, none⟩ = some (.bool one) ∧ w.cell? ⟨b, o + i * 2 + 1, none⟩ = some (.slice a1 n1 c1) ∧ SlAt shLink w a1 n1 c1 chain := by
  obtain ⟨b, o, xs, ha, hE, hc⟩ := h.cell i _ hi
  obtain ⟨x1, x2, rfl, rfl, a1, n1, c1, rfl, hs⟩ := hE
  exact ⟨b, o, a1, n1, c1, ha, hc 0 _ rfl, hc 1 _ rfl, hs⟩
theorem chainL_map (c0 : Cf) (L : List Lk) : chainL (c0 :: L.map (·.1)) (L.map (·.2)) = L := by
  rw [chainL, List.tail_cons]
  induction L with
  | nil => rfl
  | cons y r ih => rw [List.map_cons, List.map_cons, List.zip_cons_cons, ih]
theorem row_links {B : Nat} {X : Nat → Prop} {w : World} : ∀ {l : List Lk} {xs : List Value}, rowOf (shOLink B) X w l xs → rowOf shLink X w l xs
  | [], _, h => h
  | y :: r, _, ⟨cs, xs', he, hc, hR, h⟩ => ⟨cs, xs', he, hc, hR.mono (fun _ h => olink_link h), row_links h⟩
/-- A chain that was handed out stays, whatever is done to older blocks. -/
theorem rsl_chain {Y : Nat → Prop} {w w' : World} {a : Option Addr} {c : Nat} {L : List Lk} {xs : List Value} (hL : L.length ≤ 1000) (ho : w'.ownsRow w.heap.size 49 3 (.slice a L.length c) L.length xs)
    (hr : rowOf (shOLink w.heap.size) (fun j => j < w.heap.size ∨ (Value.slice a L.length c).ownBlock = some j) w' L xs) (hY : ∀ k, Y k → k < w.heap.size) : RSl shLink Y w' a L.length c L :=
  rsl_row (S := shLink) ho ((row_links hr).step (Y := fun _ => False) (Keep.refl _ _) (fun _ _ h => h.elim) (fun k _ hk => .inl (hY k hk))) (by show _ * 56 ≤ _; omega) (fun k hk hy => by
    have := (ho.lt k hk).1
    have := hY k hy
    omega)
end Go.Proofs.Ytfhbjajhmegdmaa

/- Two trackers beside each other. -/
namespace Go.Proofs.Ytfhbjajhmegdmaa
set_option maxRecDepth 100000
open Go.RowKit
set_option linter.unusedVariables false

/-- Neither's own blocks are the other one's, nor hold parts of the other one's things. -/
def Sep (X : Nat → Prop) (p : Nat) (oc os : Option Nat) (X2 : Nat → Prop) (q : Nat) (oc2 os2 : Option Nat) : Prop :=
  (∀ k, trX p oc os k → X2 k ∧ ¬ trX q oc2 os2 k) ∧ (∀ k, trX q oc2 os2 k → X k ∧ ¬ trX p oc os k)
section
variable {X X' X2 : Nat → Prop} {p q : Nat} {oc os oc' os' oc2 os2 : Option Nat} {B B2 : Nat} {w w' : World} {cs cs2 : List Cf} {ss ss2 : List (List Sg)}
theorem Sep.symm (h : Sep X p oc os X2 q oc2 os2) : Sep X2 q oc2 os2 X p oc os := ⟨h.2, h.1⟩
end
end Go.Proofs.Ytfhbjajhmegdmaa
