
/- What is gathered is a proof just if a quorum signed: plain; an append at a step of a drawn region. -/
import Derived.Test.YtelmpoaioccpoaaMeP
import Derived.Test.YtelmpoaioccpoaaSm
namespace Go.Proofs.Ytelmpoaioccpoaa
set_option maxRecDepth 100000
open Go.RowKit
set_option linter.unusedVariables false
set_option linter.unusedSimpArgs false

theorem step_append_any {P : Program} (w : World) {ops : Array Oper} {o : Oper} {a : Act} {K : Act → World → Prop} {Q : Exit → Act → World → Prop} {E : Prop} (hgd : o.guard = none) (s x : Operand) (t : TypeId)
    (ho : o.op = .call { callee := .builtin .append, args := #[s, x], argTypes := #[t, t] })
    (base : Nat) (e : TypeId) (i : TypeInfo) (z : Value) (size bytes : Nat) (ht : P.underlying t = some (.slice e)) (hi : P.info? e = some i) (hz : i.zero = some z)
    (hsize : i.size = size) (hby : i.bytes = bytes) (hzs : z.cells.size = size) (hsz : 0 < size)
    (v : Value) (n : Nat) (xs : List Value) (hs : a.eval s = v) (hown : w.ownsRow base e size v n xs)
    (xo : Option Addr) (m c : Nat) (news : List Value) (hx : a.eval x = .slice xo m c) (hl : news.length = m * size) (hxo : xo = none → m = 0 ∧ c = 0) (hnews : ∀ ad, xo = some ad → ∀ j u, news[j]? = some u → w.cell? (ad.add j) = some u) (h1 : ∀ u ∈ news, u.oneCell' = true)
    (h63 : n + m ≤ maxLen) (hbytes : (n + m) * bytes ≤ 140737488355328) (hbase : base ≤ w.heap.size)
    (h : ∀ v' w', w'.ownsRow base e size v' (n + m) (xs ++ news) → w.grownBy w' v.ownBlock → K (a.put o.dst v') w') : if Region.wanted o (yielded ops a.tmps) = true then Oper.wp P o a w K Q else E := by
  have hw : Region.wanted o (yielded ops a.tmps) = true := by simp [Region.wanted, hgd]
  rw [if_pos hw]
  cases xo with
  | some ad => exact wp_append_own w s x t ho base e i z size bytes ht hi hz hsize hby hzs hsz v n xs hs hown ad m c news hx hl (hnews ad rfl) h1 h63 hbytes hbase (fun v' w' h1 h2 _ => h v' w' h1 h2)
  | none =>
    obtain ⟨rfl, rfl⟩ := hxo rfl
    obtain rfl : news = [] := List.eq_nil_of_length_eq_zero (by simpa using hl)
    have hrun := run_append_owned_none (P := P) w base t o.type e i size ht hi v n xs hown
    unfold Oper.wp
    simp [execOp, ho, resolve, invoke, builtin, hs, hx, hrun, Result.andThen]
    exact h v w (by simpa using hown) (World.grownBy.refl _ _)

theorem gatU_congr {text : ByteArray} {s s' : List Sg} (h : ∀ y, y ∈ s ↔ y ∈ s') (ms : List Int) : gatU text s ms = gatU text s' ms := by
  induction ms using snoc_ind with
  | h0 => rfl
  | h1 l x ih =>
    rw [gatU_snoc, gatU_snoc, ih]
    by_cases hc : (x, text) ∈ s ∧ (x, text) ∉ gatU text s' l
    · rw [if_pos hc, if_pos ⟨(h _).1 hc.1, hc.2⟩]
    · rw [if_neg hc, if_neg (fun h2 => hc ⟨(h _).2 h2.1, h2.2⟩)]
theorem gatP_turned (text : ByteArray) (s : List Sg) (k : Nat) (ms : List Int) : gatP text (s.drop k ++ s) ms = gatP text s ms := by
  rw [gatP, gatP, gatU_congr (s := s.drop k ++ s) (s' := s) (fun y => by
    rw [List.mem_append]
    exact ⟨fun h => h.elim (fun h => List.mem_of_mem_drop h) id, .inr⟩)]
theorem up_of {l : List Int} {text : ByteArray} : ∀ {G : List Sg} {z : Int}, (∀ s ∈ G, s.2 = text ∧ s.1 ∈ l ∧ z < s.1) → G.Pairwise (fun x y => x.1 < y.1) → sigsUp l text z G = true
  | [], _, _, _ => rfl
  | s :: r, z, h, hp => by
    obtain ⟨h1, h2⟩ := List.pairwise_cons.1 hp
    obtain ⟨a, b, c⟩ := h s (by simp)
    unfold sigsUp
    rw [if_pos ⟨a, c, by simp only [hasB, List.any_eq_true, beq_iff_eq]; exact ⟨s.1, b, rfl⟩⟩]
    exact up_of (fun y hy => ⟨(h y (by simp [hy])).1, (h y (by simp [hy])).2.1, h1 y hy⟩) h2
theorem enough {e : Int} {l : List Int} (text : ByteArray) (s : List Sg) (hr : rightB e l = true) :
    provesB e l text (gatP text s l) = decide (quorumP l.length ≤ ((gatP text s l).length : Int)) := by
  have hf := gatU_fact text s l
  have hp := gatP_perm text s l
  have hm : ∀ y ∈ gatP text s l, y.2 = text ∧ y.1 ∈ l ∧ (-1 : Int) < y.1 := fun y hy => by
    have h1 := (hf.2 y).1 (hp.mem_iff.1 hy)
    have hri : risingB l = true := by
      unfold rightB at hr
      simp only [Bool.and_eq_true] at hr
      exact hr.2
    have := (risingB_range hri y.1 h1.2.2).1
    exact ⟨h1.2.1, h1.2.2, by omega⟩
  have hnd : (gatP text s l).Nodup := hp.nodup_iff.2 hf.1
  have hs : (gatP text s l).Pairwise (fun x y => x.1 < y.1) := by
    refine ((gatP_sorted text s l).and (List.nodup_iff_pairwise_ne.1 hnd)).imp_of_mem ?_
    rintro ⟨x1, x2⟩ ⟨y1, y2⟩ hx hy ⟨h1, h2⟩
    have e1 := (hm _ hx).1
    have e2 := (hm _ hy).1
    simp only at *
    rcases Int.lt_trichotomy x1 y1 with h | h | h
    · exact h
    · exact absurd (by rw [h, e1, e2]) h2
    · omega
  have hle : (gatP text s l).length ≤ l.length := by
    have := nodup_le (l := (gatP text s l).map (·.1)) (l' := l) (by
      rw [List.nodup_iff_pairwise_ne, List.pairwise_map]
      exact hs.imp (fun h e => by omega)) (fun x hx => by
        obtain ⟨y, hy, rfl⟩ := List.mem_map.1 hx
        exact (hm y hy).2.1)
    rwa [List.length_map] at this
  have h10 : l.length ≤ 10 := by
    unfold rightB risingB at hr
    simp only [Bool.and_eq_true, decide_eq_true_eq] at hr
    exact hr.2.2
  have hup : sigsUp l text (-1) (gatP text s l) = true := up_of hm hs
  unfold provesB
  rw [hr, hup, decide_eq_true (show (gatP text s l).length ≤ 16 by omega)]
  simp
end Go.Proofs.Ytelmpoaioccpoaa
