
/- Reading the program's tracker; walk of Add. -/
import Derived.Test.YtdeomokhjmnfhaaTr3
namespace Go.Proofs.Ytdeomokhjmnfhaa
open Go.RowKit
attribute [local irreducible] wpQuiet
set_option linter.unusedVariables false

theorem Trk.view {w : World} {B p : Nat} {oc os : Option Nat} {cs : List Cf} {ss : List (List Sg)} (h : Trk w B p oc os cs ss) (h1 : cs.length ≤ 1000) (h2 : ss.length ≤ 1000) :
    ∃ ac cc ag cg, w.heap[p]? = some (.cells #[.slice ac cs.length cc, .slice ag ss.length cg] 70 (0, 0)) ∧ SlAt shConf w ac cs.length cc cs ∧ SlAt shSig.slice w ag ss.length cg ss := by
  obtain ⟨vc, vs, xc, xs, hp, o1, e1, r1, o2, e2, r2⟩ := h.ex
  obtain ⟨ac, cc, rfl⟩ := owns_form o1
  obtain ⟨ag, cg, rfl⟩ := owns_form o2
  exact ⟨ac, cc, ag, cg, hp, sl_of_row o1 r1 (by show _ * 32 ≤ _; omega), sl_of_row o2 r2 (by show _ * 24 ≤ _; omega)⟩
theorem conf_cells {w : World} {a : Option Addr} {n c : Nat} {cs : List Cf} (h : SlAt shConf w a n c cs) {i : Nat} {e : Int} {l : List Int} (hi : cs[i]? = some (e, l)) :
    ∃ b o a' n' c', a = some ⟨b, o, none⟩ ∧ w.cell? ⟨b, o + i * 2, none⟩ = some (.int .i64 e) ∧ w.cell? ⟨b, o + i * 2 + 1, none⟩ = some (.slice a' n' c') ∧ i64 e ∧ SlAt Sh.int w a' n' c' l := by
  obtain ⟨b, o, xs, ha, hE, hc⟩ := h.cell i _ hi
  obtain ⟨x1, x2, rfl, ⟨rfl, he⟩, a', n', c', rfl, hs⟩ := hE
  exact ⟨b, o, a', n', c', ha, hc 0 _ rfl, hc 1 _ rfl, he, hs⟩

theorem i64_sub1 {n m : Nat} (h : n = m + 1) (hb : n ≤ 1000) : IntKind.i64.wrap ((n : Int) - 1) = (m : Int) := by
  rw [show ((n : Int) - 1) = (m : Int) by omega]
  exact IntWalk.i64_in _ (by omega)
theorem slRob {α : Type} {S : Sh α} {w w0 : World} {X : Nat → Prop} {a : Option Addr} {n c : Nat} {l : List α} (hs : SlAt S w0 a n c l) (hb : Below w0.heap.size w0 w) (hX : ∀ k, X k → w0.heap.size ≤ k) : Rob X (fun w' => SlAt S w' a n c l) w :=
  fun w' hk => hs.old (hk.below hb hX)

def AddPost (B p : Nat) (oc os : Option Nat) (cs : List Cf) (ss : List (List Sg)) (e : Int) (l : List Int) (sigs : List Sg) (x : Int) (w : World) (r : Ending) (w' : World) : Prop :=
  r = .returned (.int .i64 x) ∧ (x ≠ 0 → Below w.heap.size w w') ∧ (x = 0 → ∃ oc' os', (oc' = oc ∨ ∃ k, oc' = some k ∧ w.heap.size ≤ k) ∧ (os' = os ∨ ∃ k, os' = some k ∧ w.heap.size ≤ k) ∧ Trk w' B p oc' os' (cs ++ [(e, l)]) (ss ++ [sigs]) ∧ Keep (trX p oc os) w w')

set_option maxHeartbeats 2000000 in
theorem add_any (B p : Nat) (oc os : Option Nat) (cs : List Cf) (ss : List (List Sg)) (m : Nat) (e0 : Int) (l0 : List Int) (e : Int) (a : Option Addr) (n c : Nat) (l : List Int) (sa : Option Addr) (sn sc : Nat) (sigs : List Sg) (w : World)
    (h : Trk w B p oc os cs ss) (hB : B ≤ w.heap.size) (hm : cs.length = m + 1) (hcm : cs[m]? = some (e0, l0)) (hcl : cs.length ≤ 1000) (hsl : ss.length ≤ 1000) (he : i64 e) (hI : SlAt Sh.int w a n c l) (hS : Rob (trX p oc os) (fun w' => SlAt shSig w' sa sn sc sigs) w) (hI2 : Rob (trX p oc os) (fun w' => SlAt Sh.int w' a n c l) w) :
    Calls Try.prog 25 #[.pointer (some ⟨p, 0, none⟩), .agg #[.int .i64 e, .slice a n c, .slice sa sn sc]] w (AddPost B p oc os cs ss e l sigs (validC e0 l0 e l sigs) w) := by
  obtain ⟨wa, hwa⟩ : ∃ wa, wa = w.alloc (.cells #[.int .i64 e, .slice a n c, .slice sa sn sc] 27) := ⟨_, rfl⟩
  have ba : Below w.heap.size w wa := by rw [hwa]; exact below_alloc _ _
  have kx : wa.heap[w.heap.size]? = some (.cells #[.int .i64 e, .slice a n c, .slice sa sn sc] 27 (0, 0)) := by rw [hwa]; exact blk_alloc _ _
  have ht := h.old ba
  obtain ⟨ac, cc, ag, cg, hp, hC, hG⟩ := ht.view hcl hsl
  obtain ⟨b, o, a', n', c', rfl, d0, d1, he0, hs0⟩ := conf_cells hC hcm
  have x0 : wa.cell? ⟨w.heap.size, 0, none⟩ = some (.int .i64 e) := by rw [blk_cell kx]; rfl
  have x1 : wa.cell? ⟨w.heap.size, 1, none⟩ = some (.slice a n c) := by rw [blk_cell kx]; rfl
  have x2 : wa.cell? ⟨w.heap.size, 2, none⟩ = some (.slice sa sn sc) := by rw [blk_cell kx]; rfl
  have p0 : wa.cell? ⟨p, 0, none⟩ = some (.slice (some ⟨b, o, none⟩) cs.length cc) := by rw [blk_cell hp]; rfl
  have hcw := i64_sub1 hm hcl
  have CV := Lib.hid (fun (w' : World) (hb : Below wa.heap.size wa w') => valid_any e0 a' n' c' l0 e a n c l sa sn sc sigs w' ((ints_of_sl hs0).below hb) ((ints_of_sl (hI.old ba)).below hb) ((hS.self.old ba).old hb))
  have HT := Lib.hid h; have BA := Lib.hid ba; have HS := Lib.hid hS; have HI := Lib.hid hI2
  generalize hx : validC e0 l0 e l sigs = x at *
  have lp := blk_lt hp
  have lx := blk_lt kx
  have lb : b < wa.heap.size := World.block_lt d0
  have hmi : m < cs.length := by omega
  have HM := Lib.hid hm; have HCL := Lib.hid hcl; have HSL := Lib.hid hsl
  clear h ht hI hS hI2 ba kx hC hG hs0 hp hx hcm hm hcl hsl
  go_enter Try.func25, Try.ntmps25
  go_wp2_with fail
  rw [← hwa]
  clear hwa
  refine wp_region_below (by kernel_rfl) (by kernel_rfl) ?_
  repeat (refine wpQuiet_step (fun K hK => ?_); go_simp; first | (refine hK _ ?_; clear hK K) | (apply Exists.intro; refine ⟨fun w' hw' => ?_, hK _ ?_⟩; (first | (go_at_call 10; exact Calls.quiet_below hw' (CV.out _ hw')) | (with_reducible rfl) | (obtain ⟨cc, dd⟩ := bcell hw'; go_simp; rfl)); clear hK K))
  refine wpQuiet_nil ?_
  intro w7 h7
  have B7 := Lib.hid (bthen BA.out h7)
  have y0 := below_cell h7 x0
  have y1 := below_cell h7 x1
  have y2 := below_cell h7 x2
  clear x0 x1 x2 p0 d0 d1 CV h7 lp lx lb hmi hcw
  by_cases hx0 : x = 0
  · have CG := Lib.hid (grow_any B p oc os cs ss e a n c l sa sn sc sigs w7 (HT.out.old B7.out) (Nat.le_trans hB B7.out.size) HCL.out HSL.out he (HI.out _ (Keep.of_below B7.out)) (HS.out.step (Keep.of_below B7.out) (fun _ _ hc => hc) (fun _ _ hc => hc)))
    subst hx0
    go_wp2_with fail
    refine CG.out.mono ?_
    rintro r w8 ⟨rfl, oc', os', h1, h2, h3, h4⟩
    have HG := Lib.hid (show ∃ oc' os', (oc' = oc ∨ ∃ k, oc' = some k ∧ w.heap.size ≤ k) ∧ (os' = os ∨ ∃ k, os' = some k ∧ w.heap.size ≤ k) ∧ Trk w8 B p oc' os' (cs ++ [(e, l)]) (ss ++ [sigs]) ∧ Keep (trX p oc os) w w8 from
      ⟨oc', os', h1.imp id (fun ⟨k, hk, hz⟩ => ⟨k, hk, Nat.le_trans B7.out.size hz⟩), h2.imp id (fun ⟨k, hk, hz⟩ => ⟨k, hk, Nat.le_trans B7.out.size hz⟩), h3, (Keep.of_below B7.out).trans h4 (fun _ _ hx => hx)⟩)
    clear CG h1 h2 h3 h4
    go_wp2_with fail
    go_ret
    exact ⟨rfl, (fun hc => (hc rfl).elim), fun _ => HG.out⟩
  · go_wp2_with fail
    go_ret
    exact ⟨rfl, (fun _ => B7.out), fun hc => (hx0 hc).elim⟩
end Go.Proofs.Ytdeomokhjmnfhaa
