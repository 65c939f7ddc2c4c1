
/- Walk of the program's New. -/
import Derived.Test.YtdeomokhjmnfhaaTr2
import Derived.Test.YtdeomokhjmnfhaaLgV
namespace Go.Proofs.Ytdeomokhjmnfhaa
open Go.RowKit
set_option linter.unusedVariables false

theorem one_owned (w : World) (B e k : Nat) (xs : List Value) (hk : xs.length = k) (hB : B ≤ w.heap.size) : (w.alloc (.cells xs.toArray e)).ownsRow B e k (.slice (some ⟨w.heap.size, 0, none⟩) 1 1) 1 xs :=
  ⟨by simp [hk], .inr ⟨w.heap.size, 1, xs.toArray, rfl, hB, blk_alloc w _, Nat.le_refl _, by decide, by simp [hk], by simp [← hk]⟩⟩

theorem trk_new {w w6 : World} {e : Int} {a6 : Option Addr} {n c6 : Nat} {l : List Int} (ho : w6.ownsRow w.heap.size 3 1 (.slice a6 n c6) n (intsV l)) (hz : w.heap.size ≤ w6.heap.size) (hl : l.length = n) (he : i64 e) (hf : ∀ x ∈ l, i64 x) (hb : n * 8 ≤ 140737488355328) :
    ∃ X : Nat → Prop, (∀ k, k < w.heap.size → X k) ∧ Trk X ((w6.alloc (.cells #[.int .i64 e, .slice a6 n c6] 24)).alloc (.cells #[.slice (some ⟨w6.heap.size, 0, none⟩) 1 1, .slice none 0 0] 70)) w.heap.size (w6.heap.size + 1) (some w6.heap.size) none [(e, l)] [] := by
  have o1 := one_owned w6 w.heap.size 24 2 [.int .i64 e, .slice a6 n c6] rfl hz
  have b1 := below_alloc w6 (.cells #[.int .i64 e, .slice a6 n c6] 24)
  have b2 := below_alloc (w6.alloc (.cells #[.int .i64 e, .slice a6 n c6] 24)) (.cells #[.slice (some ⟨w6.heap.size, 0, none⟩) 1 1, .slice none 0 0] 70)
  refine ⟨fun k => (Value.slice a6 n c6).ownBlock ≠ some k, fun k hk hc => by have := (ho.lt k hc).1; omega, by omega, by simp, by simp, fun k hk => by simp, fun k hk hc => ?_, fun k hk hc => ?_, _, _, [.int .i64 e, .slice a6 n c6], [], ?_, owns_old o1 b2, rfl, ?_, World.ownsRow_nil _ _ _ _, rfl, rfl⟩
  · have := (ho.lt k hc).2
    rcases hk with hk | hk | hk
    · omega
    · injection hk with hk; omega
    · cases hk
  · have := (ho.lt k hc).2
    simp at hk
    omega
  · have := blk_alloc (w6.alloc (.cells #[.int .i64 e, .slice a6 n c6] 24)) (.cells #[.slice (some ⟨w6.heap.size, 0, none⟩) 1 1, .slice none 0 0] 70)
    simpa using this
  · exact ⟨[.int .i64 e, .slice a6 n c6], [], rfl, rfl, conf_rob (owns_old ho (bthen b1 b2)) hl (fun k hk hx => hx hk) he hf hb, rfl⟩

def NewPost (B : Nat) (e : Int) (l : List Int) (w : World) (r : Ending) (w' : World) : Prop :=
  Below w.heap.size w w' ∧ ((rightB e l = true ∧ e = 0 ∧ ∃ X p oc, r = .returned (.tuple #[.pointer (some ⟨p, 0, none⟩), .int .i64 0]) ∧ w.heap.size ≤ p ∧ (∀ k, k < w.heap.size → X k) ∧ Trk X w' B p oc none [(e, l)] []) ∨
    (¬ (rightB e l = true ∧ e = 0) ∧ r = .returned (.tuple #[.pointer none, .int .i64 1])))

set_option maxHeartbeats 1000000 in
theorem new_any (e : Int) (a : Option Addr) (n c : Nat) (l : List Int) (w : World) (h : IntsAt w a n l) (hn : a = none → c = 0 ∧ n = 0) (hb : n * 8 ≤ 140737488355328) (he : i64 e) :
    Calls Try.prog 12 #[.agg #[.int .i64 e, .slice a n c]] w (NewPost w.heap.size e l w) := by
  obtain ⟨w1, hw1⟩ : ∃ w1, w1 = w.alloc (.cells #[.int .i64 e, .slice a n c] 24) := ⟨_, rfl⟩
  have b1 : Below w.heap.size w w1 := by rw [hw1]; exact below_alloc _ _
  have k1 : w1.heap[w.heap.size]? = some (.cells #[.int .i64 e, .slice a n c] 24 (0, 0)) := by rw [hw1]; exact blk_alloc _ _
  have x0 : w1.cell? ⟨w.heap.size, 0, none⟩ = some (.int .i64 e) := by rw [blk_cell k1]; rfl
  have x1 : w1.cell? ⟨w.heap.size, 1, none⟩ = some (.slice a n c) := by rw [blk_cell k1]; rfl
  have CR := Lib.hid (right_any e a n c l w1 (h.below b1))
  have CO := Lib.hid (fun (w' : World) (hb' : Below w.heap.size w w') => own_any e a n c l w' (h.below hb') hn hb)
  have HB := Lib.hid b1
  have HL := Lib.hid h.len
  have HF := Lib.hid h.fit
  clear h hn b1
  go_enter Try.func12, Try.ntmps12
  go_wp2_with fail
  rw [← hw1]
  clear hw1 k1
  refine CR.out.mono ?_
  rintro r w2 ⟨rfl, b2⟩
  have y0 := below_cell b2 x0
  have y1 := below_cell b2 x1
  have HB2 := Lib.hid (bthen HB.out b2)
  clear b2 x0 x1 CR HB
  cases hr : rightB e l with
  | false =>
    go_wp2_with fail
    go_ret2
    exact ⟨HB2.out, .inr ⟨(fun hc => by rw [hr] at hc; cases hc.1), rfl⟩⟩
  | true =>
    by_cases h0 : e = 0
    · subst h0
      go_wp2_with fail
      refine (CO.out _ HB2.out).mono ?_
      rintro r w6 ⟨a6, c6, rfl, ho6, b6⟩
      have hz2 := HB2.out.size
      obtain ⟨X, hX, hT⟩ := trk_new (owns_lower ho6 hz2) (Nat.le_trans hz2 b6.size) HL.out he HF.out hb
      have HX := Lib.hid hX; have HT := Lib.hid hT
      clear hX hT
      have HB6 := Lib.hid (bthen HB2.out b6)
      clear ho6 b6 CO HB2
      go_wp2_with fail
      go_ret2
      have hz6 := HB6.out.size
      exact ⟨bthen HB6.out (bthen (below_alloc _ _) (below_alloc _ _)), .inl ⟨hr, rfl, X, _, _, rfl, Nat.le_succ_of_le hz6, HX.out, HT.out⟩⟩
    · go_wp2_with fail
      go_ret2
      exact ⟨HB2.out, .inr ⟨(fun hc => h0 hc.2), rfl⟩⟩
end Go.Proofs.Ytdeomokhjmnfhaa

/- Reading the program's tracker; walk of Add. -/
namespace Go.Proofs.Ytdeomokhjmnfhaa
open Go.RowKit
attribute [local irreducible] wpQuiet
set_option linter.unusedVariables false

theorem Trk.view {X : Nat → Prop} {w : World} {B p : Nat} {oc os : Option Nat} {cs : List Cf} {ss : List (List Sg)} (h : Trk X w B p oc os cs ss) (h1 : cs.length ≤ 1000) (h2 : ss.length ≤ 1000) :
    ∃ ac cc ag cg, w.heap[p]? = some (.cells #[.slice ac cs.length cc, .slice ag ss.length cg] 70 (0, 0)) ∧ SlAt shConf w ac cs.length cc cs ∧ SlAt shSig.slice w ag ss.length cg ss := by
  obtain ⟨vc, vs, xc, xs, hp, o1, e1, r1, o2, e2, r2⟩ := h.ex
  obtain ⟨ac, cc, rfl⟩ := owns_form o1
  obtain ⟨ag, cg, rfl⟩ := owns_form o2
  exact ⟨ac, cc, ag, cg, hp, sl_of_row o1 r1 (by show _ * 32 ≤ _; omega), sl_of_row o2 r2 (by show _ * 24 ≤ _; omega)⟩
theorem conf_cells {w : World} {a : Option Addr} {n c : Nat} {cs : List Cf} (h : SlAt shConf w a n c cs) {i : Nat} {e : Int} {l : List Int} (hi : cs[i]? = some (e, l)) :
    ∃ b o a' n' c', a = some ⟨b, o, none⟩ ∧ w.cell? ⟨b, o + i * 2, none⟩ = some (.int .i64 e) ∧ w.cell? ⟨b, o + i * 2 + 1, none⟩ = some (.slice a' n' c') ∧ i64 e ∧ SlAt Sh.int w a' n' c' l := by
  obtain ⟨b, o, xs, ha, hE, hc⟩ := h.cell i _ hi
  obtain ⟨x1, x2, rfl, ⟨rfl, he⟩, a', n', c', rfl, hs⟩ := hE
  exact ⟨b, o, a', n', c', ha, hc 0 _ rfl, hc 1 _ rfl, he, hs⟩

theorem i64_sub1 {n m : Nat} (h : n = m + 1) (hb : n ≤ 1000) : IntKind.i64.wrap ((n : Int) - 1) = (m : Int) := by
  rw [show ((n : Int) - 1) = (m : Int) by omega]
  exact IntWalk.i64_in _ (by omega)
theorem slRob {α : Type} {S : Sh α} {w w0 : World} {X : Nat → Prop} {a : Option Addr} {n c : Nat} {l : List α} (hs : SlAt S w0 a n c l) (hb : Below w0.heap.size w0 w) (hX : ∀ k, X k → w0.heap.size ≤ k) : Rob X (fun w' => SlAt S w' a n c l) w :=
  fun w' hk => hs.old (hk.below hb hX)

def AddPost (X : Nat → Prop) (B p : Nat) (oc os : Option Nat) (cs : List Cf) (ss : List (List Sg)) (e : Int) (l : List Int) (sigs : List Sg) (x : Int) (w : World) (r : Ending) (w' : World) : Prop :=
  r = .returned (.int .i64 x) ∧ (x ≠ 0 → Below w.heap.size w w') ∧ (x = 0 → ∃ X' oc' os', (oc' = oc ∨ ∃ k, oc' = some k ∧ w.heap.size ≤ k) ∧ (os' = os ∨ ∃ k, os' = some k ∧ w.heap.size ≤ k) ∧ XSub X X' w ∧ Trk X' w' B p oc' os' (cs ++ [(e, l)]) (ss ++ [sigs]) ∧ Keep (trX p oc os) w w')

set_option maxHeartbeats 2000000 in
theorem add_any (X : Nat → Prop) (B p : Nat) (oc os : Option Nat) (cs : List Cf) (ss : List (List Sg)) (m : Nat) (e0 : Int) (l0 : List Int) (e : Int) (a : Option Addr) (n c : Nat) (l : List Int) (sa : Option Addr) (sn sc : Nat) (sigs : List Sg) (w : World)
    (h : Trk X w B p oc os cs ss) (hB : B ≤ w.heap.size) (hm : cs.length = m + 1) (hcm : cs[m]? = some (e0, l0)) (hcl : cs.length ≤ 1000) (hsl : ss.length ≤ 1000) (he : i64 e) (hI : SlAt Sh.int w a n c l) (hS : Rob (trX p oc os) (fun w' => SlAt shSig w' sa sn sc sigs) w) (hI2 : Rob (trX p oc os) (fun w' => SlAt Sh.int w' a n c l) w) :
    Calls Try.prog 25 #[.pointer (some ⟨p, 0, none⟩), .agg #[.int .i64 e, .slice a n c, .slice sa sn sc]] w (AddPost X B p oc os cs ss e l sigs (validC e0 l0 e l sigs) w) := by
  obtain ⟨wa, hwa⟩ : ∃ wa, wa = w.alloc (.cells #[.int .i64 e, .slice a n c, .slice sa sn sc] 27) := ⟨_, rfl⟩
  have ba : Below w.heap.size w wa := by rw [hwa]; exact below_alloc _ _
  have kx : wa.heap[w.heap.size]? = some (.cells #[.int .i64 e, .slice a n c, .slice sa sn sc] 27 (0, 0)) := by rw [hwa]; exact blk_alloc _ _
  have ht := h.old ba
  obtain ⟨ac, cc, ag, cg, hp, hC, hG⟩ := ht.view hcl hsl
  obtain ⟨b, o, a', n', c', rfl, d0, d1, he0, hs0⟩ := conf_cells hC hcm
  have x0 : wa.cell? ⟨w.heap.size, 0, none⟩ = some (.int .i64 e) := by rw [blk_cell kx]; rfl
  have x1 : wa.cell? ⟨w.heap.size, 1, none⟩ = some (.slice a n c) := by rw [blk_cell kx]; rfl
  have x2 : wa.cell? ⟨w.heap.size, 2, none⟩ = some (.slice sa sn sc) := by rw [blk_cell kx]; rfl
  have p0 : wa.cell? ⟨p, 0, none⟩ = some (.slice (some ⟨b, o, none⟩) cs.length cc) := by rw [blk_cell hp]; rfl
  have hcw := i64_sub1 hm hcl
  have CV := Lib.hid (fun (w' : World) (hb : Below wa.heap.size wa w') => valid_any e0 a' n' c' l0 e a n c l sa sn sc sigs w' ((ints_of_sl hs0).below hb) ((ints_of_sl (hI.old ba)).below hb) ((hS.self.old ba).old hb))
  have HT := Lib.hid h; have BA := Lib.hid ba; have HS := Lib.hid hS; have HI := Lib.hid hI2
  generalize hx : validC e0 l0 e l sigs = x at *
  have lp := blk_lt hp
  have lx := blk_lt kx
  have lb : b < wa.heap.size := World.block_lt d0
  have hmi : m < cs.length := by omega
  have HM := Lib.hid hm; have HCL := Lib.hid hcl; have HSL := Lib.hid hsl
  clear h ht hI hS hI2 ba kx hC hG hs0 hp hx hcm hm hcl hsl
  go_enter Try.func25, Try.ntmps25
  go_wp2_with fail
  rw [← hwa]
  clear hwa
  refine wp_region_below (by kernel_rfl) (by kernel_rfl) ?_
  repeat (refine wpQuiet_step (fun K hK => ?_); go_simp; first | (refine hK _ ?_; clear hK K) | (apply Exists.intro; refine ⟨fun w' hw' => ?_, hK _ ?_⟩; (first | (go_at_call 10; exact Calls.quiet_below hw' (CV.out _ hw')) | (with_reducible rfl) | (obtain ⟨cc, dd⟩ := bcell hw'; go_simp; rfl)); clear hK K))
  refine wpQuiet_nil ?_
  intro w7 h7
  have B7 := Lib.hid (bthen BA.out h7)
  have y0 := below_cell h7 x0
  have y1 := below_cell h7 x1
  have y2 := below_cell h7 x2
  clear x0 x1 x2 p0 d0 d1 CV h7 lp lx lb hmi hcw
  by_cases hx0 : x = 0
  · have CG := Lib.hid (grow_any X B p oc os cs ss e a n c l sa sn sc sigs w7 (HT.out.old B7.out) (Nat.le_trans hB B7.out.size) HCL.out HSL.out he (HI.out _ (Keep.of_below B7.out)) (HS.out.step (Keep.of_below B7.out) (fun _ _ hc => hc) (fun _ _ hc => hc)))
    subst hx0
    go_wp2_with fail
    refine CG.out.mono ?_
    rintro r w8 ⟨rfl, X', oc', os', h1, h2, hxs, h3, h4⟩
    have HG := Lib.hid (show ∃ X' oc' os', (oc' = oc ∨ ∃ k, oc' = some k ∧ w.heap.size ≤ k) ∧ (os' = os ∨ ∃ k, os' = some k ∧ w.heap.size ≤ k) ∧ XSub X X' w ∧ Trk X' w8 B p oc' os' (cs ++ [(e, l)]) (ss ++ [sigs]) ∧ Keep (trX p oc os) w w8 from
      ⟨X', oc', os', h1.imp id (fun ⟨k, hk, hz⟩ => ⟨k, hk, Nat.le_trans B7.out.size hz⟩), h2.imp id (fun ⟨k, hk, hz⟩ => ⟨k, hk, Nat.le_trans B7.out.size hz⟩), (XSub.refl X w).trans hxs B7.out.size, h3, (Keep.of_below B7.out).trans h4 (fun _ _ hx => hx)⟩)
    clear CG h1 h2 h3 h4 hxs
    go_wp2_with fail
    go_ret
    exact ⟨rfl, (fun hc => (hc rfl).elim), fun _ => HG.out⟩
  · go_wp2_with fail
    go_ret
    exact ⟨rfl, (fun _ => B7.out), fun hc => (hx0 hc).elim⟩
end Go.Proofs.Ytdeomokhjmnfhaa

/- Walks of Epoch and At. -/
namespace Go.Proofs.Ytdeomokhjmnfhaa
open Go.RowKit
set_option linter.unusedVariables false

set_option maxHeartbeats 1000000 in
theorem epoch_any (X : Nat → Prop) (B p : Nat) (oc os : Option Nat) (cs : List Cf) (ss : List (List Sg)) (w : World) (h : Trk X w B p oc os cs ss) (hcl : cs.length ≤ 1000) (hsl : ss.length ≤ 1000) :
    Calls Try.prog 14 #[.pointer (some ⟨p, 0, none⟩)] w fun r w' => r = .returned (.int .i64 ss.length) ∧ w = w' := by
  obtain ⟨ac, cc, ag, cg, hp, hC, hG⟩ := h.view hcl hsl
  have p1 : w.cell? ⟨p, 1, none⟩ = some (.slice ag ss.length cg) := by rw [blk_cell hp]; rfl
  clear h hp hC hG hcl hsl
  go_enter Try.func14, Try.ntmps14
  go_wp2_with fail
  go_ret
  exact ⟨rfl, rfl⟩

def AtPost (B : Nat) (x : Int) (cs : List Cf) (w : World) (r : Ending) (w' : World) : Prop :=
  Below w.heap.size w w' ∧ ((∃ k e l a n c, x = (k : Nat) ∧ cs[k]? = some (e, l) ∧ r = .returned (.tuple #[.agg #[.int .i64 e, .slice a n c], .bool true]) ∧ w'.ownsRow w.heap.size 3 1 (.slice a n c) n (intsV l) ∧ l.length = n ∧ i64 e ∧ (∀ y ∈ l, i64 y) ∧ n * 8 ≤ 140737488355328) ∨
    ((x < 0 ∨ (cs.length : Int) ≤ x) ∧ r = .returned (.tuple #[.agg #[.int .i64 0, .slice none 0 0], .bool false])))

set_option maxHeartbeats 1000000 in
theorem at_any (X : Nat → Prop) (B p : Nat) (oc os : Option Nat) (cs : List Cf) (ss : List (List Sg)) (x : Int) (w : World) (h : Trk X w B p oc os cs ss) (hcl : cs.length ≤ 1000) (hsl : ss.length ≤ 1000) :
    Calls Try.prog 24 #[.pointer (some ⟨p, 0, none⟩), .int .i64 x] w (AtPost B x cs w) := by
  obtain ⟨ac, cc, ag, cg, hp, hC, hG⟩ := h.view hcl hsl
  obtain ⟨wa, hwa⟩ : ∃ wa, wa = w.alloc (.cells #[.int .i64 0, .slice none 0 0] 24) := ⟨_, rfl⟩
  have ba : Below w.heap.size w wa := by rw [hwa]; exact below_alloc _ _
  have kx : wa.heap[w.heap.size]? = some (.cells #[.int .i64 0, .slice none 0 0] 24 (0, 0)) := by rw [hwa]; exact blk_alloc _ _
  have p0 : wa.cell? ⟨p, 0, none⟩ = some (.slice ac cs.length cc) := by rw [blk_cell (blk_below hp ba)]; rfl
  have x0 : wa.cell? ⟨w.heap.size, 0, none⟩ = some (.int .i64 0) := by rw [blk_cell kx]; rfl
  have x1 : wa.cell? ⟨w.heap.size, 1, none⟩ = some (.slice none 0 0) := by rw [blk_cell kx]; rfl
  have xf : ∀ o, wa.frozen? ⟨w.heap.size, o, none⟩ = false := fun o => blk_frozen kx o
  have q0 : (w.alloc (.cells #[.int .i64 0, .slice none 0 0] 24)).cell? ⟨p, 0, none⟩ = some (.slice ac cs.length cc) := by rw [← hwa]; exact p0
  have BA := Lib.hid ba
  have HC := Lib.hid (hC.old ba)
  have KX := Lib.hid kx
  clear h hp hC hG ba kx
  by_cases hx0 : x < 0
  · go_enter Try.func24, Try.ntmps24
    go_wp2_with fail
    rw [← hwa]
    clear hwa
    exact bodyPost_ret (v := .tuple #[.agg #[.int .i64 0, .slice none 0 0], .bool false]) (by simp [results, Try.results24, go_sem, x0, x1]) rfl ⟨BA.out, .inr ⟨.inl hx0, rfl⟩⟩
  · by_cases hx1 : (cs.length : Int) ≤ x
    · go_enter Try.func24, Try.ntmps24
      go_wp2_with fail
      rw [← hwa]
      clear hwa
      exact bodyPost_ret (v := .tuple #[.agg #[.int .i64 0, .slice none 0 0], .bool false]) (by simp [results, Try.results24, go_sem, x0, x1]) rfl ⟨BA.out, .inr ⟨.inr hx1, rfl⟩⟩
    · obtain ⟨k, rfl⟩ : ∃ k : Nat, x = k := ⟨x.toNat, by omega⟩
      have hk : k < cs.length := by omega
      obtain ⟨⟨e, l⟩, hcm⟩ : ∃ y, cs[k]? = some y := ⟨_, List.getElem?_eq_getElem hk⟩
      obtain ⟨b, o, a', n', c', rfl, d0, d1, he0, hs0⟩ := conf_cells HC.out hcm
      have q1 : (w.alloc (.cells #[.int .i64 0, .slice none 0 0] 24)).cell? ⟨b, o + k * 2, none⟩ = some (.int .i64 e) := by rw [← hwa]; exact d0
      have q2 : (w.alloc (.cells #[.int .i64 0, .slice none 0 0] 24)).cell? ⟨b, o + k * 2 + 1, none⟩ = some (.slice a' n' c') := by rw [← hwa]; exact d1
      have CO := Lib.hid (own_any e a' n' c' l wa (ints_of_sl hs0) (fun hn => ⟨hs0.nil hn, by have := hs0.nil hn; have := hs0.cap; omega⟩) hs0.bytes)
      have HL := Lib.hid hs0.len
      have HF := Lib.hid (ints_of_sl hs0).fit
      have HBY := Lib.hid hs0.bytes
      have HCM := Lib.hid hcm
      clear hs0 hcm
      go_enter Try.func24, Try.ntmps24
      go_wp2_with fail
      rw [← hwa]
      clear hwa q0 q1 q2
      refine CO.out.mono ?_
      rintro r w6 ⟨a6, c6, rfl, ho6, b6⟩
      have k6 := blk_below KX.out b6
      have m0 : w6.cell? ⟨w.heap.size, 0, none⟩ = some (.int .i64 0) := by rw [blk_cell k6]; rfl
      have m1 : w6.cell? ⟨w.heap.size, 1, none⟩ = some (.slice none 0 0) := by rw [blk_cell k6]; rfl
      have mf : ∀ o, w6.frozen? ⟨w.heap.size, o, none⟩ = false := fun o => blk_frozen k6 o
      have HO := Lib.hid ho6
      have HB6 := Lib.hid b6
      have K6 := Lib.hid k6
      clear ho6 b6 k6 p0 x0 x1 xf d0 d1 CO
      go_wp2_with fail
      have hs := blk_set (blk_set K6.out 0 (.int .i64 e)) 1 (.slice a6 n' c6)
      have f0 : ((w6.setCell ⟨w.heap.size, 0, none⟩ (.int .i64 e)).setCell ⟨w.heap.size, 1, none⟩ (.slice a6 n' c6)).cell? ⟨w.heap.size, 0, none⟩ = some (.int .i64 e) := by rw [blk_cell hs]; rfl
      have f1 : ((w6.setCell ⟨w.heap.size, 0, none⟩ (.int .i64 e)).setCell ⟨w.heap.size, 1, none⟩ (.slice a6 n' c6)).cell? ⟨w.heap.size, 1, none⟩ = some (.slice a6 n' c6) := by rw [blk_cell hs]; rfl
      have hlt := blk_lt KX.out
      exact bodyPost_ret (v := .tuple #[.agg #[.int .i64 e, .slice a6 n' c6], .bool true]) (by simp [results, Try.results24, go_sem, f0, f1]) rfl
        ⟨((bthen BA.out HB6.out).setCell (p := ⟨w.heap.size, 0, none⟩) (Nat.le_refl _) (.int .i64 e)).setCell (p := ⟨w.heap.size, 1, none⟩) (Nat.le_refl _) (.slice a6 n' c6),
          .inl ⟨k, e, l, a6, n', c6, rfl, HCM.out, rfl, owns_lower (owns_setlow (owns_setlow HO.out hlt 0 _) hlt 1 _) (Nat.le_of_lt hlt), HL.out, he0, HF.out, HBY.out⟩⟩
end Go.Proofs.Ytdeomokhjmnfhaa

/- Walk of Chain. -/
namespace Go.Proofs.Ytdeomokhjmnfhaa
open Go.RowKit
set_option linter.unusedVariables false

/-- A link whose lists are the owner's own, from block B on. -/
def shOLink (B : Nat) : Sh Lk where
  k := 3
  bs := 56
  E := fun w y cs => ∃ a n c sa sn sc, cs = [.int .i64 y.1.1, .slice a n c, .slice sa sn sc] ∧ i64 y.1.1 ∧ w.ownsRow B 3 1 (.slice a n c) n (intsV y.1.2) ∧ y.1.2.length = n ∧ (∀ x ∈ y.1.2, i64 x) ∧ n * 8 ≤ 140737488355328 ∧
    w.ownsRow B 62 2 (.slice sa sn sc) sn (sigV y.2) ∧ y.2.length = sn ∧ (∀ s ∈ y.2, i64 s.1 ∧ s.2.size ≤ 140737488351232) ∧ sn * 24 ≤ 140737488355328
  sz := fun _ => 0
  len := fun ⟨a, n, c, sa, sn, sc, h, _⟩ => by rw [h]; rfl
  old := fun ⟨a, n, c, sa, sn, sc, h, he, h1, h2, h3, h4, h5, h6, h7, h8⟩ hb => ⟨a, n, c, sa, sn, sc, h, he, owns_old h1 hb, h2, h3, h4, owns_old h5 hb, h6, h7, h8⟩
theorem olink_link {B : Nat} {w : World} {y : Lk} {cs : List Value} (h : (shOLink B).E w y cs) : shLink.E w y cs := by
  obtain ⟨a, n, c, sa, sn, sc, rfl, he, h1, h2, h3, h4, h5, h6, h7, h8⟩ := h
  exact ⟨[.int .i64 y.1.1, .slice a n c], [.slice sa sn sc], rfl, ⟨[.int .i64 y.1.1], [.slice a n c], rfl, ⟨rfl, he⟩, a, n, c, rfl, ints_row h1 h2 h3 h4⟩, sa, sn, sc, rfl, sigs_row h5 h6 h7 h8⟩
def chainL (cs : List Cf) (ss : List (List Sg)) : List Lk := cs.tail.zip ss
theorem chainL_get {cs : List Cf} {ss : List (List Sg)} {i : Nat} {c : Cf} {s : List Sg} (h1 : cs[i + 1]? = some c) (h2 : ss[i]? = some s) : (chainL cs ss)[i]? = some (c, s) := by
  rw [chainL, List.getElem?_zip_eq_some]
  exact ⟨by rw [List.getElem?_tail]; exact h1, h2⟩

theorem link_new (w : World) (e : Int) (a : Option Addr) (n c : Nat) (sa : Option Addr) (sn sc : Nat) (t : TypeId) : ∀ j u, [Value.int .i64 e, .slice a n c, .slice sa sn sc][j]? = some u → (w.alloc (.cells #[.int .i64 e, .slice a n c, .slice sa sn sc] t)).cell? ((⟨w.heap.size, 0, none⟩ : Addr).add j) = some u := by
  intro j u h
  rw [Addr.add_lit, blk_cell (blk_alloc w _), ← h]
  simp
theorem info_link' : (Try.prog.info? 27).map (fun i => (i.zero, i.size, i.bytes)) = some (some (.agg #[.int .i64 0, .slice none 0 0, .slice none 0 0]), 3, 56) := by kernel_rfl

def ChainPost (l : List Lk) (w : World) (r : Ending) (w' : World) : Prop :=
  Below w.heap.size w w' ∧ ∃ a c xs, r = .returned (.slice a l.length c) ∧ w'.ownsRow w.heap.size 27 3 (.slice a l.length c) l.length xs ∧ rowOf (shOLink w.heap.size) (fun j => j < w.heap.size ∨ (Value.slice a l.length c).ownBlock = some j) w' l xs

set_option maxHeartbeats 1000000 in
theorem chain_any (X : Nat → Prop) (B p : Nat) (oc os : Option Nat) (cs : List Cf) (ss : List (List Sg)) (w : World) (h : Trk X w B p oc os cs ss) (hcl : cs.length = ss.length + 1) (hsl : ss.length ≤ 100) :
    Calls Try.prog 13 #[.pointer (some ⟨p, 0, none⟩)] w (ChainPost (chainL cs ss) w) := by
  obtain ⟨il, hil, hl0, hl1, hl2⟩ := info_parts info_link'
  obtain ⟨ac, cc, ag, cg, hp, hC, hG⟩ := h.view (by omega) (by omega)
  have p0 : w.cell? ⟨p, 0, none⟩ = some (.slice ac cs.length cc) := by rw [blk_cell hp]; rfl
  have p1 : w.cell? ⟨p, 1, none⟩ = some (.slice ag ss.length cg) := by rw [blk_cell hp]; rfl
  have HC := Lib.hid hC; have HG := Lib.hid hG; have HP := Lib.hid hp
  generalize hn : ss.length = n at *
  have hn0 : (0 : Int) ≤ (n : Int) := by omega
  have HCL := Lib.hid hcl; have HN := Lib.hid hn
  clear h hp hC hG hcl hn
  go_enter Try.func13, Try.ntmps13
  go_wp2_with (first | (at_make; refine wpList_make_own _ rfl _ _ 36 rfl w.heap.size 27 il (.agg #[.int .i64 0, .slice none 0 0, .slice none 0 0]) 3 Try.underlying36 hil hl0 hl1 _ _ _ n rfl rfl rfl (by rw [hl2]; omega) (by simp only [maxLen]; omega) (Nat.le_refl _) ?_) | fail)
  intro w1 hown hgrow
  have hb1 := Lib.hid (show Below w.heap.size w w1 from (Below.refl _ w).grown hgrow (Nat.le_refl _) (fun k hk => by cases hk))
  have q0 := below_cell hb1.out p0
  have q1 := below_cell hb1.out p1
  have HO0 := Lib.hid hown
  have HL2 := Lib.hid hl2
  clear hown hgrow p0 p1 hl2
  have HL := Lib.hid hil
  go_wp2_with fail
  go_loopw [3, 19] (fun v i wr => ∃ k : Nat, k ≤ n ∧ i = .int .i64 k ∧ Hid (∃ a c xs, v = .slice a k c ∧ wr.ownsRow w.heap.size 27 3 (.slice a k c) k xs ∧ rowOf (shOLink w.heap.size) (fun j => j < w.heap.size ∨ (Value.slice a k c).ownBlock = some j) wr ((chainL cs ss).take k) xs) ∧ Hid (Below w.heap.size w wr)) (fun _ i _ => n - (intOf i).toNat)
  case atStart => exact ⟨0, by omega, rfl, Lib.hid ⟨_, _, [], rfl, HO0.out, rfl⟩, hb1⟩
  case round =>
    clear HO0 q0 q1
    obtain ⟨k, hk, rfl, Hv, Hb⟩ := hrel
    have q0 : wr.cell? ⟨p, 0, none⟩ = some (.slice ac cs.length cc) := by rw [blk_cell (blk_below HP.out Hb.out)]; rfl
    have q1 : wr.cell? ⟨p, 1, none⟩ = some (.slice ag n cg) := by rw [blk_cell (blk_below HP.out Hb.out)]; rfl
    by_cases hlt : k < n
    · obtain ⟨av, cv, xs, rfl, ho, hr⟩ := Hv.out
      obtain ⟨⟨e, l⟩, hcm⟩ : ∃ y, cs[k + 1]? = some y := ⟨_, List.getElem?_eq_getElem (by rw [HCL.out]; omega)⟩
      obtain ⟨sg, hsm⟩ : ∃ y, ss[k]? = some y := ⟨_, List.getElem?_eq_getElem (by rw [HN.out]; omega)⟩
      obtain ⟨b, o, a', n', c', rfl, d0, d1, he0, hs0⟩ := conf_cells (HC.out.old Hb.out) hcm
      obtain ⟨b2, o2, ys, rfl, ⟨sa, sn, sc, rfl, hS⟩, hys⟩ := (HG.out.old Hb.out).cell k _ hsm
      have d2 := hys 0 _ rfl
      simp only [Nat.add_zero, show shSig.slice.k = 1 from rfl, Nat.mul_one] at d2
      have HK := Lib.hid (chainL_get hcm hsm)
      have HO := Lib.hid ho; have HR := Lib.hid hr; have HS0 := Lib.hid hs0; have HS := Lib.hid hS
      have hki : IntKind.i64.wrap ((k : Int) + 1) = ((k + 1 : Nat) : Int) := IntWalk.i64_in _ (by omega)
      have hk1 : k + 1 < cs.length := by rw [HCL.out]; omega
      clear ho hr hs0 hS hys hcm hsm Hv
      go_wp2_with fail
      refine (own_any e a' n' c' l wr (ints_of_sl HS0.out) (fun hn => ⟨HS0.out.nil hn, by have := HS0.out.nil hn; have := HS0.out.cap; omega⟩) HS0.out.bytes).mono ?_
      rintro r w6 ⟨a6, c6, rfl, ho6, b6⟩
      have HO6 := Lib.hid ho6; have B6 := Lib.hid b6
      clear ho6 b6 q0 q1 d0 d1 d2
      go_wp2_with fail
      refine (clone_sigs sa sn sc sg w6 (HS.out.old B6.out)).mono ?_
      rintro r w7 ⟨v7, rfl, ho7, b7⟩
      obtain ⟨a7, c7, rfl⟩ := owns_form ho7
      have HO7 := Lib.hid ho7; have B7 := Lib.hid b7
      have hzr := Hb.out.size; have hz6 := b7.size; have hz5 := B6.out.size
      clear ho7 b7
      have k1 : k + 1 ≤ maxLen := by simp only [maxLen]; omega
      have k2 : (k + 1) * 56 ≤ 140737488355328 := by omega
      have HOW := Lib.hid (owns_old HO.out (bthen (bthen B6.out B7.out) (below_alloc w7 (.cells #[.int .i64 e, .slice a6 n' c6, .slice a7 sn c7] 27))))
      go_wp2_with (first | (at_builtin; refine wpList_append_lies _ rfl (.tmp 24) (.tmp 37) 36 rfl w.heap.size 27 il (.agg #[.int .i64 0, .slice none 0 0, .slice none 0 0]) 3 56 Try.underlying36 hil hl0 hl1 HL2.out rfl (by decide) (.slice av k cv) k xs rfl HOW.out ⟨w7.heap.size, 0, none⟩ 1 1 [.int .i64 e, .slice a6 n' c6, .slice a7 sn c7] rfl rfl (link_new w7 e a6 n' c6 a7 sn c7 _) (by simp [Value.oneCell']) (by decide) k1 k2 (by simp; omega) _ rfl ?_) | fail)
      intro g cap w8 hown8 hg8 hor8 hlt8
      have HN8 := Lib.hid (show (∃ a c xs', Value.slice (some ⟨g, 0, none⟩) (k + 1) cap = .slice a (k + 1) c ∧ w8.ownsRow w.heap.size 27 3 (.slice a (k + 1) c) (k + 1) xs' ∧ rowOf (shOLink w.heap.size) (fun j => j < w.heap.size ∨ (Value.slice a (k + 1) c).ownBlock = some j) w8 ((chainL cs ss).take (k + 1)) xs') ∧ Below w.heap.size w w8 by
        have hb7 := bthen (bthen B6.out B7.out) (below_alloc w7 (.cells #[.int .i64 e, .slice a6 n' c6, .slice a7 sn c7] 27))
        have hb6 := bthen B7.out (below_alloc w7 (.cells #[.int .i64 e, .slice a6 n' c6, .slice a7 sn c7] 27))
        have K8 : Keep (fun j => (Value.slice av k cv).ownBlock = some j) wr w8 := (Keep.of_below hb7).grown hg8 (fun k hk => .inr hk)
        have K6 : Keep (fun j => (Value.slice av k cv).ownBlock = some j) w6 w8 := (Keep.of_below hb6).grown hg8 (fun k hk => .inr hk)
        have K7 : Keep (fun j => (Value.slice av k cv).ownBlock = some j) w7 w8 := (Keep.of_below (below_alloc w7 _)).grown hg8 (fun k hk => .inr hk)
        have hol := HO.out.lt
        refine ⟨⟨_, _, _, rfl, hown8, ?_⟩, grown_below (bthen Hb.out hb7) hg8 (fun j hj => (hol j hj).1)⟩
        rw [List.take_add_one, HK.out]
        have m6 := owns_keep HO6.out K6 (fun j hj hc => by have := (HO6.out.lt j hj).1; have := (hol j hc).2; omega)
        have m7 := owns_keep HO7.out K7 (fun j hj hc => by have := (HO7.out.lt j hj).1; have := (hol j hc).2; omega)
        refine (HR.out.step K8 (fun j _ hj => .inr hj) (fun j hj hx => ?_)).snoc rfl (fun w' hk' => ⟨a6, n', c6, a7, sn, c7, rfl, he0, owns_lower (owns_keep m6 hk' (fun j hj hx => ?_)) hzr, HS0.out.len, (ints_of_sl HS0.out).fit, HS0.out.bytes, owns_lower (owns_keep m7 hk' (fun j hj hx => ?_)) (by omega), HS.out.len, sl_fit HS.out, HS.out.bytes⟩)
        · rcases hx with hx | hx
          · exact .inl hx
          · have hx : some g = some j := hx
            injection hx with hx; subst hx
            rcases hor8 with h8 | h8
            · exact .inr h8
            · omega
        · have h1 := HO6.out.lt j hj
          rcases hx with hx | hx
          · omega
          · have hx : some g = some j := hx
            injection hx with hx; subst hx
            rcases hor8 with h8 | h8
            · have := (hol _ h8).2; omega
            · omega
        · have h1 := HO7.out.lt j hj
          rcases hx with hx | hx
          · omega
          · have hx : some g = some j := hx
            injection hx with hx; subst hx
            rcases hor8 with h8 | h8
            · have := (hol _ h8).2; omega
            · omega)
      clear hown8 hg8 hor8 hlt8
      go_wp2_with fail
      go_roundw
      case rel => exact ⟨k + 1, by omega, rfl, Lib.hid HN8.out.1, Lib.hid HN8.out.2⟩
      case measure => simp [intOf]; omega
    · obtain ⟨av, cv, xs, rfl, ho, hr⟩ := Hv.out
      obtain rfl : k = n := by omega
      have HO := Lib.hid ho; have HR := Lib.hid hr
      clear ho hr Hv
      go_wp2_with fail
      go_ret
      have hlen : (chainL cs ss).length = k := by rw [chainL, List.length_zip, List.length_tail, HCL.out, HN.out]; omega
      refine ⟨Hb.out, ?_⟩
      rw [hlen]
      exact ⟨av, cv, xs, rfl, HO.out, by have := HR.out; rwa [List.take_of_length_le (Nat.le_of_eq hlen)] at this⟩
end Go.Proofs.Ytdeomokhjmnfhaa

/- A tracker that isn't there. -/
namespace Go.Proofs.Ytdeomokhjmnfhaa
open Go.RowKit
set_option linter.unusedVariables false

set_option maxHeartbeats 1000000 in
theorem epoch_nil (w : World) : Calls Try.prog 14 #[.pointer none] w fun r w' => r = .returned (.int .i64 0) ∧ w = w' := by
  go_enter Try.func14, Try.ntmps14
  go_wp2_with fail
  go_ret
  exact ⟨rfl, rfl⟩
set_option maxHeartbeats 1000000 in
theorem chain_nil (w : World) : Calls Try.prog 13 #[.pointer none] w fun r w' => r = .returned (.slice none 0 0) ∧ w = w' := by
  go_enter Try.func13, Try.ntmps13
  go_wp2_with fail
  go_ret
  exact ⟨rfl, rfl⟩
set_option maxHeartbeats 1000000 in
theorem take_nil (v : Value) (w : World) : Calls Try.prog 18 #[.pointer none, v] w fun r w' => r = .returned (.int .i64 1) ∧ w = w' := by
  go_enter Try.func18, Try.ntmps18
  go_wp2_with fail
  go_ret
  exact ⟨rfl, rfl⟩
set_option maxHeartbeats 1000000 in
theorem add_nil (e : Int) (a : Option Addr) (n c : Nat) (sa : Option Addr) (sn sc : Nat) (w : World) : Calls Try.prog 25 #[.pointer none, .agg #[.int .i64 e, .slice a n c, .slice sa sn sc]] w fun r w' => r = .returned (.int .i64 1) ∧ Below w.heap.size w w' := by
  go_enter Try.func25, Try.ntmps25
  go_wp2_with fail
  go_ret
  exact ⟨rfl, below_alloc _ _⟩
set_option maxHeartbeats 1000000 in
theorem at_nil (x : Int) (w : World) : Calls Try.prog 24 #[.pointer none, .int .i64 x] w fun r w' => r = .returned (.tuple #[.agg #[.int .i64 0, .slice none 0 0], .bool false]) ∧ Below w.heap.size w w' := by
  obtain ⟨wa, hwa⟩ : ∃ wa, wa = w.alloc (.cells #[.int .i64 0, .slice none 0 0] 24) := ⟨_, rfl⟩
  have ba : Below w.heap.size w wa := by rw [hwa]; exact below_alloc _ _
  have kx : wa.heap[w.heap.size]? = some (.cells #[.int .i64 0, .slice none 0 0] 24 (0, 0)) := by rw [hwa]; exact blk_alloc _ _
  have x0 : wa.cell? ⟨w.heap.size, 0, none⟩ = some (.int .i64 0) := by rw [blk_cell kx]; rfl
  have x1 : wa.cell? ⟨w.heap.size, 1, none⟩ = some (.slice none 0 0) := by rw [blk_cell kx]; rfl
  go_enter Try.func24, Try.ntmps24
  go_wp2_with fail
  rw [← hwa]
  clear hwa
  exact bodyPost_ret (v := .tuple #[.agg #[.int .i64 0, .slice none 0 0], .bool false]) (by simp [results, Try.results24, go_sem, x0, x1]) rfl ⟨rfl, ba⟩
end Go.Proofs.Ytdeomokhjmnfhaa

/- Walk of four. -/
namespace Go.Proofs.Ytdeomokhjmnfhaa
open Go.RowKit
set_option linter.unusedVariables false

set_option maxHeartbeats 1000000 in
theorem four_any (w : World) : Calls Try.prog 27 #[] w fun r w' => ∃ b, r = .returned (.agg #[.int .i64 0, .slice (some ⟨b, 0, none⟩) 4 4]) ∧ SlAt Sh.int w' (some ⟨b, 0, none⟩) 4 4 [0, 1, 2, 3] ∧ Below w.heap.size w w' := by
  go_enter Try.func27, Try.ntmps27
  go_wp2_with fail
  have k1 := blk_alloc w (.cells #[.int .i64 0, .slice (some ⟨w.heap.size + 1, 0, none⟩) 4 4] 24)
  have b2 := below_alloc (w.alloc (.cells #[.int .i64 0, .slice (some ⟨w.heap.size + 1, 0, none⟩) 4 4] 24)) (.cells #[.int .i64 0, .int .i64 1, .int .i64 2, .int .i64 3] 3)
  have k2 := blk_alloc (w.alloc (.cells #[.int .i64 0, .slice (some ⟨w.heap.size + 1, 0, none⟩) 4 4] 24)) (.cells #[.int .i64 0, .int .i64 1, .int .i64 2, .int .i64 3] 3)
  have k3 := blk_below k1 b2
  rw [World.size_alloc] at k2
  have B2 := bthen (below_alloc w _) b2
  generalize World.alloc (World.alloc _ _) _ = w2 at *
  have x0 : w2.cell? ⟨w.heap.size, 0, none⟩ = some (.int .i64 0) := by rw [blk_cell k3]; rfl
  have x1 : w2.cell? ⟨w.heap.size, 1, none⟩ = some (.slice (some ⟨w.heap.size + 1, 0, none⟩) 4 4) := by rw [blk_cell k3]; rfl
  refine bodyPost_ret (v := .agg #[.int .i64 0, .slice (some ⟨w.heap.size + 1, 0, none⟩) 4 4]) (by simp [results, Try.results27, go_sem, x0, x1]) rfl ⟨w.heap.size + 1, rfl, ?_, B2⟩
  refine ⟨rfl, Nat.le_refl _, by decide, by decide, fun h => (by cases h), fun i y hy => ⟨w.heap.size + 1, 0, [.int .i64 y], rfl, ?_, fun j v hv => ?_⟩⟩
  · have hi : i < 4 := (List.getElem?_eq_some_iff.1 hy).1
    obtain rfl | rfl | rfl | rfl : i = 0 ∨ i = 1 ∨ i = 2 ∨ i = 3 := by omega
    all_goals (injection hy with hy; subst hy; exact ⟨rfl, by simp [i64]⟩)
  · have hj : j = 0 := by have := (List.getElem?_eq_some_iff.1 hv).1; simp at this; omega
    subst hj
    injection hv with hv; subst hv
    have hi : i < 4 := (List.getElem?_eq_some_iff.1 hy).1
    obtain rfl | rfl | rfl | rfl : i = 0 ∨ i = 1 ∨ i = 2 ∨ i = 3 := by omega
    all_goals (injection hy with hy; subst hy; rw [blk_cell k2]; rfl)
end Go.Proofs.Ytdeomokhjmnfhaa
