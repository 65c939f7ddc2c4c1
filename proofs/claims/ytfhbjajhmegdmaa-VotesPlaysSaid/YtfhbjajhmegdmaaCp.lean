
/- append onto nil at a step of a region that draws; walk of the reference's Copied. -/
import Derived.Test.YtfhbjajhmegdmaaTk
import Derived.Deep.RegionHeld3
namespace Go.Proofs.Ytfhbjajhmegdmaa
set_option maxRecDepth 100000
open Go.RowKit
set_option linter.unusedVariables false

/-- 'append(nil, xs...)', xs whatever slice, at an operation. -/
theorem wp_append_nil {P : Program} (w : World) {o : Oper} {a : Act} {K : Act → World → Prop} {Q : Exit → Act → World → Prop} (s x : Operand) (t : TypeId)
    (ho : o.op = .call { callee := .builtin .append, args := #[s, x], argTypes := #[t, t] })
    (e : TypeId) (i : TypeInfo) (z : Value) (size bytes : Nat) (ht : P.underlying t = some (.slice e)) (hi : P.info? e = some i) (hz : i.zero = some z)
    (hsize : i.size = size) (hby : i.bytes = bytes) (hzs : z.cells.size = size) (hsz : 0 < size) (hs : a.eval s = .slice none 0 0)
    (xo : Option Addr) (m c : Nat) (news : List Value) (hx : a.eval x = .slice xo m c) (hl : news.length = m * size) (hxo : xo = none → m = 0 ∧ c = 0) (hnews : ∀ ad, xo = some ad → ∀ j u, news[j]? = some u → w.cell? (ad.add j) = some u) (h1 : ∀ u ∈ news, u.oneCell' = true)
    (h63 : m ≤ maxLen) (hbytes : m * bytes ≤ 140737488355328)
    (h : ∀ v' w', w'.ownsRow w.heap.size e size v' m news → Below w.heap.size w w' → K (a.put o.dst v') w') : o.wp P a w K Q := by
  have hown := World.ownsRow_nil w w.heap.size e size
  cases xo with
  | some ad =>
    refine wp_append_own w s x t ho w.heap.size e i z size bytes ht hi hz hsize hby hzs hsz _ 0 [] hs hown ad m c news hx hl (hnews ad rfl) h1 (by omega) (by rw [Nat.zero_add]; exact hbytes) (Nat.le_refl _) ?_
    intro v' w' ho' hg' _
    exact h v' w' (by simpa using ho') ((Below.refl _ w).grown hg' (Nat.le_refl _) (fun k hk => by cases hk))
  | none =>
    obtain ⟨rfl, rfl⟩ := hxo rfl
    obtain rfl : news = [] := List.eq_nil_of_length_eq_zero (by simpa using hl)
    have hrun := run_append_owned_none (P := P) w w.heap.size t o.type e i size ht hi _ 0 [] hown
    unfold Oper.wp
    simp [execOp, ho, resolve, invoke, builtin, hs, hx, hrun, Result.andThen]
    exact h _ w hown (Below.refl _ _)
theorem step_append_nil {P : Program} (w : World) {ops : Array Oper} {o : Oper} {a : Act} {K : Act → World → Prop} {Q : Exit → Act → World → Prop} {E : Prop} (hgd : o.guard = none) (s x : Operand) (t : TypeId)
    (ho : o.op = .call { callee := .builtin .append, args := #[s, x], argTypes := #[t, t] })
    (e : TypeId) (i : TypeInfo) (z : Value) (size bytes : Nat) (ht : P.underlying t = some (.slice e)) (hi : P.info? e = some i) (hz : i.zero = some z)
    (hsize : i.size = size) (hby : i.bytes = bytes) (hzs : z.cells.size = size) (hsz : 0 < size) (hs : a.eval s = .slice none 0 0)
    (xo : Option Addr) (m c : Nat) (news : List Value) (hx : a.eval x = .slice xo m c) (hl : news.length = m * size) (hxo : xo = none → m = 0 ∧ c = 0) (hnews : ∀ ad, xo = some ad → ∀ j u, news[j]? = some u → w.cell? (ad.add j) = some u) (h1 : ∀ u ∈ news, u.oneCell' = true)
    (h63 : m ≤ maxLen) (hbytes : m * bytes ≤ 140737488355328)
    (h : ∀ v' w', w'.ownsRow w.heap.size e size v' m news → Below w.heap.size w w' → K (a.put o.dst v') w') : if Region.wanted o (yielded ops a.tmps) = true then Oper.wp P o a w K Q else E := by
  have hw : Region.wanted o (yielded ops a.tmps) = true := by simp [Region.wanted, hgd]
  rw [if_pos hw]
  exact wp_append_nil w s x t ho e i z size bytes ht hi hz hsize hby hzs hsz hs xo m c news hx hl hxo hnews h1 h63 hbytes h

/-- A slice's cells, in the words that append asks for. -/
theorem ints_news {w : World} {a : Option Addr} {n : Nat} {l : List Int} (h : IntsAt w a n l) : ∀ ad, a = some ad → ∀ j u, (intsV l)[j]? = some u → w.cell? (ad.add j) = some u := fun ad had j u hu => by
  subst had
  have hj : j < n := by rw [← h.len]; have := (List.getElem?_eq_some_iff.1 hu).1; simpa [intsV] using this
  obtain ⟨b, o, hab, hc⟩ := h.cell j hj
  injection hab with hab; subst hab
  rw [Addr.add_lit, hc, ← hu]
  simp [intsV, List.getD]
  rw [List.getElem?_eq_getElem (by rw [h.len]; exact hj)]
  simp
theorem sigs_news {w : World} {a : Option Addr} {n c : Nat} {l : List Sg} (h : SlAt shSig w a n c l) : ∀ ad, a = some ad → ∀ j u, (sigV l)[j]? = some u → w.cell? (ad.add j) = some u := fun ad had j u hu => by
  subst had
  obtain ⟨i, x, t, hit, hju⟩ := sigV_at l j u hu
  obtain ⟨b, o, x', t', hab, hit', c0, c1, _⟩ := sig_cells h (show i < n by rw [← h.len]; exact (List.getElem?_eq_some_iff.1 hit).1)
  rw [hit] at hit'
  obtain ⟨rfl, rfl⟩ : x = x' ∧ t = t' := by simpa using hit'
  injection hab with hab; subst hab
  rcases hju with ⟨rfl, rfl⟩ | ⟨rfl, rfl⟩
  · rw [Addr.add_lit, c0]
  · rw [Addr.add_lit, ← Nat.add_assoc, c1]

/-- What Copied answers: a link with lists of its own. -/
def CopyPost (e : Int) (n : Nat) (l : List Int) (sn : Nat) (sigs : List Sg) (w : World) (r : Ending) (w' : World) : Prop :=
  ∃ a' c' sa' sc', r = .returned (.agg #[.int .i64 e, .slice a' n c', .slice sa' sn sc']) ∧ w'.ownsRow w.heap.size 3 1 (.slice a' n c') n (intsV l) ∧ w'.ownsRow w.heap.size 47 2 (.slice sa' sn sc') sn (sigV sigs) ∧
    (∀ k, (Value.slice a' n c').ownBlock = some k → (Value.slice sa' sn sc').ownBlock ≠ some k) ∧ Below w.heap.size w w'

end Go.Proofs.Ytfhbjajhmegdmaa
