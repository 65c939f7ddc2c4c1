
/- The client: reply. -/
import Derived.Test.YtijeieamodjgbabCs
import Derived.Test.YtijeieamodjgbabCt
import Derived.Test.YtijeieamodjgbabNews3

namespace Go.Proofs.Ytijeieamodjgbab
set_option maxRecDepth 100000
open Go.RowKit Go.Maps Go.Deep
attribute [local irreducible] wpQuiet
set_option linter.unusedVariables false
set_option linter.unusedSimpArgs false
attribute [local go_sem] run_store_float

theorem conf_at {X : Nat → Prop} {B p t : Nat} {oc os om oa ob : Option Nat} {s : Cst} (w : World) (h : CliAt X w B p t oc os om oa ob s) (x : Int) :
    Calls Try.prog 65 #[.pointer (some ⟨t, 0, none⟩), .int .i64 x] w fun r w' => Below w.heap.size w w' ∧ ∃ a c, r = .returned (.tuple #[.agg #[.int .i64 (confL s x).1, .slice a (confL s x).2.length c], .bool (confAt s x).isSome]) ∧ w'.ownsRow w.heap.size 3 1 (.slice a (confL s x).2.length c) (confL s x).2.length (intsV (confL s x).2) := by
  refine (at_any X B t oc os (s.c0 :: s.cs) s.ss x w h.trk (by have := h.len; have := h.l64; simp; omega) (by have := h.l64; omega)).mono ?_
  rintro r w' ⟨hb, hh⟩
  refine ⟨hb, ?_⟩
  rcases hh with ⟨k, e, l, a, n, c, rfl, hc, rfl, ho, hl, -⟩ | ⟨hx, rfl⟩
  · have hk : confAt s (k : Int) = some (e, l) := by unfold confAt; rw [if_neg (by omega)]; simpa using hc
    unfold confL
    rw [hk]
    subst hl
    exact ⟨a, c, rfl, ho⟩
  · have hk : confAt s x = none := by
      unfold confAt
      split
      · rfl
      · rw [List.getElem?_eq_none_iff]; simp only [List.length_cons] at *; omega
    unfold confL
    rw [hk]
    exact ⟨none, 0, rfl, World.ownsRow_nil _ _ _ _⟩
theorem conf_end2 {w6 w : World} {e : Int} {l : List Int} {cb c7 : Nat} {a7 : Option Addr} (hk : w.heap[cb]? = some (.cells #[.int .i64 e, .slice a7 l.length c7] 24 (0, 0))) (hc : w6.heap.size ≤ cb) (ho : w.ownsRow w6.heap.size 3 1 (.slice a7 l.length c7) l.length (intsV l)) (hb : Below w6.heap.size w6 w) :
    ∃ cb' a7' c7', (Value.pointer (some ⟨cb, 0, none⟩)) = .pointer (some ⟨cb', 0, none⟩) ∧ w6.heap.size ≤ cb' ∧ w.heap[cb']? = some (.cells #[.int .i64 e, .slice a7' l.length c7'] 24 (0, 0)) ∧ w.ownsRow w6.heap.size 3 1 (.slice a7' l.length c7') l.length (intsV l) ∧ Below w6.heap.size w6 w :=
  ⟨cb, a7, c7, rfl, hc, hk, ho, hb⟩
theorem keep_set1 (w : World) (p o : Nat) (v : Value) : Keep (fun k => k = p) w (w.setCell ⟨p, o, none⟩ v) := (Keep.refl (fun k => k = p) w).set (.inr rfl) o v
theorem keep_sub {X Y : Nat → Prop} {w w' : World} (h : Keep X w w') (hX : ∀ k, X k → Y k) : Keep Y w w' := ⟨h.os, h.tape, h.output, h.size, fun k hk hy => h.block k hk (fun hx => hy (hX k hx))⟩
def cameA (p m : Nat) (ep fr : Int) (T : ByteArray) : Nat → World → Value → Prop
  | 0 => fun _ v => v = .pointer (some ⟨p, 0, none⟩)
  | 1 => fun _ v => v = .pointer (some ⟨p, 0, none⟩)
  | 2 => fun _ v => v = .pointer (some ⟨p, 9, none⟩)
  | 3 => fun _ v => v = .map (some m)
  | 4 => fun _ v => v = .agg #[.int .i64 ep, .int .i64 fr]
  | 5 => fun _ v => v = .string T
  | 6 => fun _ v => v = .agg #[.string T]
  | _ => fun _ _ => False
theorem cameA_stab {p m : Nat} {ep fr : Int} {T : ByteArray} : ∀ i w w' v, cameA p m ep fr T i w v → Below w.heap.size w w' → cameA p m ep fr T i w' v
  | 0, w, w', v, h, hb => h
  | 1, w, w', v, h, hb => h
  | 2, w, w', v, h, hb => h
  | 3, w, w', v, h, hb => h
  | 4, w, w', v, h, hb => h
  | 5, w, w', v, h, hb => h
  | 6, w, w', v, h, hb => h
  | _ + 7, w, w', v, h, hb => h
def accA (W W0 p na cl : Nat) (al : Option Addr) (o1 : Option Nat) (xs : List Value) (c s kind : Int) (key : ByteArray) (b : Nat) (qi : Int) : Nat → World → Value → Prop
  | 0 => fun _ v => v = .pointer (some ⟨p, 0, none⟩)
  | 1 => fun _ v => v = .pointer (some ⟨p, 0, none⟩)
  | 2 => fun _ v => v = .pointer (some ⟨p, 0, none⟩)
  | 3 => fun _ v => v = .pointer (some ⟨p, 10, none⟩)
  | 4 => fun _ v => v = .slice al na cl
  | 5 => fun _ v => v = .pointer (some ⟨p, 0, none⟩)
  | 6 => fun _ v => v = .pointer (some ⟨p, 0, none⟩)
  | 7 => fun _ v => v = .pointer (some ⟨p, 10, none⟩)
  | 8 => fun _ v => v = .slice al na cl
  | 9 => fun _ v => v = .int .i64 (na : Int)
  | 10 => fun _ v => v = .int .i64 ((na : Int) + 1)
  | 11 => fun _ v => v = .pointer (some ⟨p, 0, none⟩)
  | 12 => fun _ v => v = .pointer (some ⟨p, 0, none⟩)
  | 13 => fun _ v => v = .pointer (some ⟨p, 3, none⟩)
  | 14 => fun _ v => v = .agg #[.int .i64 c, .int .i64 s, .int .i64 kind, .string key, .float .f64 b, .int .i64 qi]
  | 15 => fun _ v => v = .agg #[.int .i64 ((na : Int) + 1), .int .i64 c, .int .i64 s, .int .i64 kind, .string key, .float .f64 b, .int .i64 qi]
  | 16 => fun w v => ∃ h, v = .slice (some ⟨h, 0, none⟩) 1 1 ∧ W0 ≤ h ∧ w.heap[h]? = some (.cells #[.int .i64 ((na : Int) + 1), .int .i64 c, .int .i64 s, .int .i64 kind, .string key, .float .f64 b, .int .i64 qi] 57 (0, 0))
  | 17 => fun w v => ∃ h e, v = .slice (some ⟨h, 0, none⟩) (na + 1) e ∧ w.ownsRow W 57 7 (.slice (some ⟨h, 0, none⟩) (na + 1) e) (na + 1) (xs ++ ([.int .i64 ((na : Int) + 1), .int .i64 c, .int .i64 s, .int .i64 kind, .string key, .float .f64 b, .int .i64 qi] : List Value)) ∧ (o1 = some h ∨ W0 ≤ h)
  | 18 => fun _ v => v = .pointer (some ⟨p, 0, none⟩)
  | 19 => fun _ v => v = .pointer (some ⟨p, 10, none⟩)
  | _ => fun _ _ => False
theorem accA_stab {W W0 p na cl : Nat} {al : Option Addr} {o1 : Option Nat} {xs : List Value} {c s kind : Int} {key : ByteArray} {b : Nat} {qi : Int} (hY : ∀ k, W0 ≤ k → ¬ (o1 = some k)) : ∀ i w w' v, accA W W0 p na cl al o1 xs c s kind key b qi i w v → (i = 17 → Below w.heap.size w w') → Keep (fun k => o1 = some k) w w' → accA W W0 p na cl al o1 xs c s kind key b qi i w' v
  | 0, w, w', v, h, hb, hk => h
  | 1, w, w', v, h, hb, hk => h
  | 2, w, w', v, h, hb, hk => h
  | 3, w, w', v, h, hb, hk => h
  | 4, w, w', v, h, hb, hk => h
  | 5, w, w', v, h, hb, hk => h
  | 6, w, w', v, h, hb, hk => h
  | 7, w, w', v, h, hb, hk => h
  | 8, w, w', v, h, hb, hk => h
  | 9, w, w', v, h, hb, hk => h
  | 10, w, w', v, h, hb, hk => h
  | 11, w, w', v, h, hb, hk => h
  | 12, w, w', v, h, hb, hk => h
  | 13, w, w', v, h, hb, hk => h
  | 14, w, w', v, h, hb, hk => h
  | 15, w, w', v, h, hb, hk => h
  | 16, w, w', v, ⟨h, h1, h2, h3⟩, hb, hk => ⟨h, h1, h2, by rw [hk.block h (blk_lt h3) (hY h h2)]; exact h3⟩
  | 17, w, w', v, ⟨h, e, h1, h2, h3⟩, hb, hk => ⟨h, e, h1, owns_old h2 (hb rfl), h3⟩
  | 18, w, w', v, h, hb, hk => h
  | 19, w, w', v, h, hb, hk => h
  | _ + 20, w, w', v, h, hb, hk => h
def resA (W W0 p mb nb dl : Nat) (bl : Option Addr) (o1 : Option Nat) (xs : List Value) (rc : Int) (rb : Nat) : Nat → World → Value → Prop
  | 0 => fun _ v => v = .pointer (some ⟨p, 0, none⟩)
  | 1 => fun _ v => v = .pointer (some ⟨p, 0, none⟩)
  | 2 => fun _ v => v = .pointer (some ⟨p, 0, none⟩)
  | 3 => fun _ v => v = .pointer (some ⟨p, 11, none⟩)
  | 4 => fun _ v => v = .slice bl nb dl
  | 5 => fun _ v => v = .pointer (some ⟨mb, 10, none⟩)
  | 6 => fun _ v => v = .agg #[.int .i64 rc, .float .f64 rb]
  | 7 => fun w v => ∃ h, v = .slice (some ⟨h, 0, none⟩) 1 1 ∧ W0 ≤ h ∧ w.heap[h]? = some (.cells #[.int .i64 rc, .float .f64 rb] 45 (0, 0))
  | 8 => fun w v => ∃ h e, v = .slice (some ⟨h, 0, none⟩) (nb + 1) e ∧ w.ownsRow W 45 2 (.slice (some ⟨h, 0, none⟩) (nb + 1) e) (nb + 1) (xs ++ ([.int .i64 rc, .float .f64 rb] : List Value)) ∧ (o1 = some h ∨ W0 ≤ h)
  | 9 => fun _ v => v = .pointer (some ⟨p, 0, none⟩)
  | 10 => fun _ v => v = .pointer (some ⟨p, 11, none⟩)
  | _ => fun _ _ => False
theorem resA_stab {W W0 p mb nb dl : Nat} {bl : Option Addr} {o1 : Option Nat} {xs : List Value} {rc : Int} {rb : Nat} (hY : ∀ k, W0 ≤ k → ¬ (o1 = some k)) : ∀ i w w' v, resA W W0 p mb nb dl bl o1 xs rc rb i w v → (i = 8 → Below w.heap.size w w') → Keep (fun k => o1 = some k) w w' → resA W W0 p mb nb dl bl o1 xs rc rb i w' v
  | 0, w, w', v, h, hb, hk => h
  | 1, w, w', v, h, hb, hk => h
  | 2, w, w', v, h, hb, hk => h
  | 3, w, w', v, h, hb, hk => h
  | 4, w, w', v, h, hb, hk => h
  | 5, w, w', v, h, hb, hk => h
  | 6, w, w', v, h, hb, hk => h
  | 7, w, w', v, ⟨h, h1, h2, h3⟩, hb, hk => ⟨h, h1, h2, by rw [hk.block h (blk_lt h3) (hY h h2)]; exact h3⟩
  | 8, w, w', v, ⟨h, e, h1, h2, h3⟩, hb, hk => ⟨h, e, h1, owns_old h2 (hb rfl), h3⟩
  | 9, w, w', v, h, hb, hk => h
  | 10, w, w', v, h, hb, hk => h
  | _ + 11, w, w', v, h, hb, hk => h
def ReplyPost (Z : Nat → Prop) (B p : Nat) (s s' : Cst) (w : World) (r : Ending) (w' : World) : Prop :=
  r = .returned (.tuple #[]) ∧ Keep Z w w' ∧ ∃ Z' : Nat → Prop, (∀ k, Z' k → Z k ∨ w.heap.size ≤ k) ∧ Cli Z' w' B p s'
theorem reply_none {Z : Nat → Prop} {B p : Nat} {s : Cst} {w w' : World} (h : Cli Z w B p s) (hb : Below w.heap.size w w') : ReplyPost Z B p s s w (.returned (.tuple #[])) w' :=
  ⟨rfl, Keep.of_below hb, Z, fun k hk => .inl hk, h.old hb⟩
set_option maxHeartbeats 4000000 in
theorem reply_any {Z : Nat → Prop} {B p : Nat} {s : Cst} (w : World) (h : Cli Z w B p s) (fr ep : Int) (rq : Rq) (hrq : rq.Ok) (rc : Int) (rb : Nat) (hrb : rb < 18446744073709551616) (x0 x2 x3 x12 x13 x14 x15 x16 : Value) (hfr : i64 fr) (hep : i64 ep) (hhs : s.hs < 70368744177664) :
    Calls Try.prog 35 #[.pointer (some ⟨p, 0, none⟩), .int .i64 fr, .agg #[x0, .int .i64 ep, x2, x3, .int .i64 rq.c, .int .i64 rq.s, .int .i64 rq.kind, .string rq.key, .float .f64 rq.b, .int .i64 rq.id, .int .i64 rc, .float .f64 rb, x12, x13, x14, x15, x16]] w (ReplyPost Z B p s (replyS s fr ep rq rc rb) w) := by
  have H0 := Lib.hid h
  obtain ⟨X, t, oc, os, om, oa, ob, h, hz⟩ := h.ex
  obtain ⟨va, vb, hp, -⟩ := h.ex
  obtain ⟨w6, hw6⟩ : ∃ w6, w6 = w.alloc (.cells #[x0, .int .i64 ep, x2, x3, .int .i64 rq.c, .int .i64 rq.s, .int .i64 rq.kind, .string rq.key, .float .f64 rq.b, .int .i64 rq.id, .int .i64 rc, .float .f64 rb, x12, x13, x14, x15, x16] 50 (0, 0)) := ⟨_, rfl⟩
  have b6 : Below w.heap.size w w6 := by rw [hw6]; exact below_alloc _ _
  have k6 : w6.heap[w.heap.size]? = some (.cells #[x0, .int .i64 ep, x2, x3, .int .i64 rq.c, .int .i64 rq.s, .int .i64 rq.kind, .string rq.key, .float .f64 rq.b, .int .i64 rq.id, .int .i64 rc, .float .f64 rb, x12, x13, x14, x15, x16] 50 (0, 0)) := by rw [hw6]; exact blk_alloc _ _
  have HP := Lib.hid (blk_below hp b6)
  have KM := Lib.hid k6
  have B6 := Lib.hid b6
  have HZ := Lib.hid hz; have H := Lib.hid h
  have CA := Lib.hid (fun (wa : World) (hb : Below w6.heap.size w6 wa) => conf_at wa (h.old (bthen b6 hb)) ep)
  have CW := Lib.hid (fun (wa : World) (hb : Below w6.heap.size w6 wa) => waiting_any wa (h.old (bthen b6 hb)))
  have CS := Lib.hid (fun (wa : World) => same_rq rq s.q hrq h.q wa)
  have CT := Lib.hid (fun (wa : World) => restext_any rc rb wa hrb)
  have HR := Lib.hid (show ∀ c, confAt s ep = some c → 4 ≤ c.2.length ∧ c.2.length ≤ 10 ∧ (∀ y ∈ c.2, 0 ≤ y ∧ y < 16) ∧ 0 ≤ ep ∧ ep ≤ 64 from fun c hc => conf_right h.inv hc)
  have HL := Lib.hid (show confL s ep = (confAt s ep).getD (0, []) from rfl)
  have HG := Lib.hid (show replyG s fr ep rq = (wtB s && (confAt s ep).isSome && hasB (confL s ep).2 fr && sameQ rq s.q) from rfl)
  have HS := Lib.hid (show replyS s fr ep rq rc rb = if replyG s fr ep rq = false then s else if cHas s.cm (ep, fr) = true then s else if weakP ((confL s ep).2.length : Int) ≤ (alikeN (s.cm ++ [((ep, fr), resText rc rb)]) ep (confL s ep).2 (resText rc rb) : Int) then takenS (cameS s fr ep (resText rc rb)) rc rb else cameS s fr ep (resText rc rb) from rfl)
  have HW := Lib.hid (show wtB s = decide (0 < s.q.c) from rfl)
  generalize replyG s fr ep rq = G at *
  generalize replyS s fr ep rq rc rb = s' at *
  generalize hK : (confAt s ep).isSome = K at *
  have HK := Lib.hid hK
  clear hK
  generalize confL s ep = cf at *
  obtain ⟨e, l⟩ := cf
  generalize hD : wtB s = D at *
  generalize hQ : sameQ rq s.q = S at *
  generalize resText rc rb = T at *
  dsimp only [Rq.v] at CS
  have p1 : w6.cell? ⟨p, 1, none⟩ = some (.pointer (some ⟨t, 0, none⟩)) := by rw [blk_cell HP.out]; rfl
  have q1 : (w6.alloc (.cells #[.int .i64 0, .slice none 0 0] 24)).cell? ⟨p, 1, none⟩ = some (.pointer (some ⟨t, 0, none⟩)) := below_cell (below_alloc _ _) p1
  have m1 : w6.cell? ⟨w.heap.size, 1, none⟩ = some (.int .i64 ep) := by rw [blk_cell k6]; rfl
  have n1 : (w6.alloc (.cells #[.int .i64 0, .slice none 0 0] 24)).cell? ⟨w.heap.size, 1, none⟩ = some (.int .i64 ep) := below_cell (below_alloc _ _) m1
  have hl10 : l.length ≤ 10 ∧ ∀ x ∈ l, 0 ≤ x ∧ x < 16 := by
    have h1 := HL.out
    cases hc : confAt s ep with
    | none =>
      rw [hc] at h1
      obtain ⟨rfl, rfl⟩ : e = 0 ∧ l = [] := by simpa using h1
      exact ⟨by simp, fun x hx => (by cases hx)⟩
    | some c =>
      have h2 := HR.out c hc
      rw [hc] at h1
      obtain rfl : (e, l) = c := by simpa using h1
      exact ⟨h2.2.1, h2.2.2.1⟩
  obtain ⟨hln, hlr⟩ := hl10
  clear h hz hp b6 k6 hD hQ hrq
  go_enter Try.func35, Try.ntmps35
  go_upto_region 1 with (fail)
  rw [← hw6]
  clear hw6
  go_cut [6, 7] (fun v6 v7 wc => Hid (v7 = .bool K ∧ ∃ cb a7 c7, v6 = .pointer (some ⟨cb, 0, none⟩) ∧ w6.heap.size ≤ cb ∧ wc.heap[cb]? = some (.cells #[.int .i64 e, .slice a7 l.length c7] 24 (0, 0)) ∧ wc.ownsRow w6.heap.size 3 1 (.slice a7 l.length c7) l.length (intsV l) ∧ Below w6.heap.size w6 wc))
  case first =>
    go_region_law (first | (refine step_at 65 rfl ?_; refine step_calls rfl 65 #[.pointer (some ⟨t, 0, none⟩), .int .i64 ep] (by go_simp) (CA.out _ (by first | exact bdrew (Below.refl _ _) | exact bdrew (below_alloc _ _) | exact bthen (bdrew (Below.refl _ _)) (below_alloc _ _))) ?_; rintro r w8 ⟨b8, a7, c7, rfl, ho7⟩; refine ⟨_, rfl, ?_⟩; have hb68 : Below w6.heap.size w6 w8 := (by first | exact bthen (bdrew (Below.refl _ _)) b8 | exact bthen (bdrew (below_alloc _ _)) b8 | exact bthen (bthen (bdrew (Below.refl _ _)) (below_alloc _ _)) b8); (first | (have kk : w8.heap[w6.heap.size]? = some (.cells #[.int .i64 0, .slice none 0 0] 24 (0, 0)) := (by rw [b8.block _ (by simp)]; exact blk_alloc _ _); have m0 : w8.cell? ⟨w6.heap.size, 0, none⟩ = some (.int .i64 0) := (by rw [blk_cell kk]; rfl); have m1 : w8.cell? ⟨w6.heap.size, 1, none⟩ = some (.slice none 0 0) := (by rw [blk_cell kk]; rfl); have mf : ∀ o, w8.frozen? ⟨w6.heap.size, o, none⟩ = false := (fun o => blk_frozen kk o)) | skip)))
    all_goals
      have ho7' : w8.ownsRow w6.heap.size 3 1 (.slice a7 l.length c7) l.length (intsV l) := owns_lower ho7 (by first | exact Nat.le_refl _ | simp)
      first
        | (have G := Lib.hid (conf_end2 (e := e) (w := w8.alloc (.cells #[.int .i64 e, .slice a7 l.length c7] 24)) (cb := w8.heap.size) (blk_alloc _ _) hb68.size (owns_old ho7' (below_alloc _ _)) (bthen hb68 (below_alloc _ _)))
           clear hb68 ho7 ho7' b8 hlr
           go_wp2_with fail
           go_meet
           case rel => exact ⟨rfl, G.out⟩)
        | (have G := Lib.hid (conf_end2 (e := e) (w := (w8.setCell ⟨w6.heap.size, 0, none⟩ (.int .i64 e)).setCell ⟨w6.heap.size, 1, none⟩ (.slice a7 l.length c7)) (cb := w6.heap.size) (by rw [blk_set (blk_set kk 0 _) 1 _]; rfl) (Nat.le_refl _) (owns_lower (B' := w6.heap.size) (owns_setlow (owns_setlow ho7 (by simp) 0 _) (by simp) 1 _) (by first | exact Nat.le_refl _ | simp)) ((hb68.setCell (by exact Nat.le_refl _) _).setCell (by exact Nat.le_refl _) _))
           clear hb68 ho7 ho7' b8 hlr
           go_wp2_with fail
           go_meet
           case rel => exact ⟨rfl, G.out⟩)
  case rest =>
    obtain ⟨rfl, cb, a7, c7, rfl, hcb, k8, ho8, b8⟩ := hcut.out
    have hI8 : SlAt Sh.int wc a7 l.length c7 l := ints_row ho8 rfl (fun x hx => by have := hlr x hx; unfold i64; omega) (by omega)
    have HO8 := Lib.hid ho8
    clear hcut p1 q1 m1 n1 CA
    have B8 := Lib.hid (bthen B6.out b8)
    have KC := Lib.hid k8
    have CWc := Lib.hid (fun (wa : World) (hb : Below wc.heap.size wc wa) => CW.out wa (bthen b8 hb))
    have CHc := Lib.hid (fun (wa : World) (hb : Below wc.heap.size wc wa) => has_any e a7 l.length c7 l fr wa (ints_of_sl (hI8.old hb)))
    have KMc := Lib.hid (blk_below KM.out b8)
    have HPc := Lib.hid (blk_below HP.out b8)
    generalize hH : hasB l fr = HH at *
    have HH' := Lib.hid hH
    have x0 : wc.cell? ⟨cb, 0, none⟩ = some (.int .i64 e) := by rw [blk_cell k8]; rfl
    have x1 : wc.cell? ⟨cb, 1, none⟩ = some (.slice a7 l.length c7) := by rw [blk_cell k8]; rfl
    have y4 : wc.cell? ⟨w.heap.size, 4, none⟩ = some (.int .i64 rq.c) := by rw [blk_cell KMc.out]; rfl
    have y5 : wc.cell? ⟨w.heap.size, 5, none⟩ = some (.int .i64 rq.s) := by rw [blk_cell KMc.out]; rfl
    have y6 : wc.cell? ⟨w.heap.size, 6, none⟩ = some (.int .i64 rq.kind) := by rw [blk_cell KMc.out]; rfl
    have y7 : wc.cell? ⟨w.heap.size, 7, none⟩ = some (.string rq.key) := by rw [blk_cell KMc.out]; rfl
    have y8 : wc.cell? ⟨w.heap.size, 8, none⟩ = some (.float .f64 rq.b) := by rw [blk_cell KMc.out]; rfl
    have y9 : wc.cell? ⟨w.heap.size, 9, none⟩ = some (.int .i64 rq.id) := by rw [blk_cell KMc.out]; rfl
    have z3 : wc.cell? ⟨p, 3, none⟩ = some (.int .i64 s.q.c) := by rw [blk_cell HPc.out]; rfl
    have z4 : wc.cell? ⟨p, 4, none⟩ = some (.int .i64 s.q.s) := by rw [blk_cell HPc.out]; rfl
    have z5 : wc.cell? ⟨p, 5, none⟩ = some (.int .i64 s.q.kind) := by rw [blk_cell HPc.out]; rfl
    have z6 : wc.cell? ⟨p, 6, none⟩ = some (.string s.q.key) := by rw [blk_cell HPc.out]; rfl
    have z7 : wc.cell? ⟨p, 7, none⟩ = some (.float .f64 s.q.b) := by rw [blk_cell HPc.out]; rfl
    have z8 : wc.cell? ⟨p, 8, none⟩ = some (.int .i64 s.q.id) := by rw [blk_cell HPc.out]; rfl
    have hx1 := World.block_lt x1
    have hx2 := World.block_lt y4
    have hx3 := World.block_lt z3
    clear k8 hI8 ho8 b8 hH CW
    go_upto_region 2 with (fail)
    cases D with
    | false =>
        have HX := Lib.hid (show s' = s by rw [HS.out, HG.out, if_pos (by simp)])
        refine wp_region_below (by kernel_rfl) (by kernel_rfl) ?_
        repeat (refine wpQuiet_step (fun K hK => ?_); go_simp; first | (refine hK _ ?_; clear hK K) | (apply Exists.intro; refine ⟨fun w' hw' => ?_, hK _ ?_⟩; (first | (go_at_call 24; exact Calls.quiet_below_same hw' (CWc.out _ hw')) | (go_at_call 66; exact Calls.quiet_below hw' (CHc.out _ hw')) | (go_at_call 67; exact Calls.quiet_below hw' (CS.out _)) | (with_reducible rfl) | (obtain ⟨cc, dd⟩ := bcell hw'; go_simp; rfl)); clear hK K))
        refine wpQuiet_nil ?_
        intro w9 hb9
        have B9 := Lib.hid (bthen B8.out hb9)
        clear hb9
        go_wp2_with fail
        refine bodyPost_ret (results_none rfl _ _ _) rfl ?_
        rw [HX.out]
        exact reply_none H0.out B9.out
    | true =>
      cases K with
      | false =>
        have HX := Lib.hid (show s' = s by rw [HS.out, HG.out, if_pos (by simp)])
        refine wp_region_below (by kernel_rfl) (by kernel_rfl) ?_
        repeat (refine wpQuiet_step (fun K hK => ?_); go_simp; first | (refine hK _ ?_; clear hK K) | (apply Exists.intro; refine ⟨fun w' hw' => ?_, hK _ ?_⟩; (first | (go_at_call 24; exact Calls.quiet_below_same hw' (CWc.out _ hw')) | (go_at_call 66; exact Calls.quiet_below hw' (CHc.out _ hw')) | (go_at_call 67; exact Calls.quiet_below hw' (CS.out _)) | (with_reducible rfl) | (obtain ⟨cc, dd⟩ := bcell hw'; go_simp; rfl)); clear hK K))
        refine wpQuiet_nil ?_
        intro w9 hb9
        have B9 := Lib.hid (bthen B8.out hb9)
        clear hb9
        go_wp2_with fail
        refine bodyPost_ret (results_none rfl _ _ _) rfl ?_
        rw [HX.out]
        exact reply_none H0.out B9.out
      | true =>
        cases HH with
        | false =>
          have HX := Lib.hid (show s' = s by rw [HS.out, HG.out, if_pos (by simp)])
          refine wp_region_below (by kernel_rfl) (by kernel_rfl) ?_
          repeat (refine wpQuiet_step (fun K hK => ?_); go_simp; first | (refine hK _ ?_; clear hK K) | (apply Exists.intro; refine ⟨fun w' hw' => ?_, hK _ ?_⟩; (first | (go_at_call 24; exact Calls.quiet_below_same hw' (CWc.out _ hw')) | (go_at_call 66; exact Calls.quiet_below hw' (CHc.out _ hw')) | (go_at_call 67; exact Calls.quiet_below hw' (CS.out _)) | (with_reducible rfl) | (obtain ⟨cc, dd⟩ := bcell hw'; go_simp; rfl)); clear hK K))
          refine wpQuiet_nil ?_
          intro w9 hb9
          have B9 := Lib.hid (bthen B8.out hb9)
          clear hb9
          go_wp2_with fail
          refine bodyPost_ret (results_none rfl _ _ _) rfl ?_
          rw [HX.out]
          exact reply_none H0.out B9.out
        | true =>
          cases S with
          | false =>
            have HX := Lib.hid (show s' = s by rw [HS.out, HG.out, if_pos (by simp)])
            refine wp_region_below (by kernel_rfl) (by kernel_rfl) ?_
            repeat (refine wpQuiet_step (fun K hK => ?_); go_simp; first | (refine hK _ ?_; clear hK K) | (apply Exists.intro; refine ⟨fun w' hw' => ?_, hK _ ?_⟩; (first | (go_at_call 24; exact Calls.quiet_below_same hw' (CWc.out _ hw')) | (go_at_call 66; exact Calls.quiet_below hw' (CHc.out _ hw')) | (go_at_call 67; exact Calls.quiet_below hw' (CS.out _)) | (with_reducible rfl) | (obtain ⟨cc, dd⟩ := bcell hw'; go_simp; rfl)); clear hK K))
            refine wpQuiet_nil ?_
            intro w9 hb9
            have B9 := Lib.hid (bthen B8.out hb9)
            clear hb9
            go_wp2_with fail
            refine bodyPost_ret (results_none rfl _ _ _) rfl ?_
            rw [HX.out]
            exact reply_none H0.out B9.out
          | true =>
            refine wp_region_below (by kernel_rfl) (by kernel_rfl) ?_
            repeat (refine wpQuiet_step (fun K hK => ?_); go_simp; first | (refine hK _ ?_; clear hK K) | (apply Exists.intro; refine ⟨fun w' hw' => ?_, hK _ ?_⟩; (first | (go_at_call 24; exact Calls.quiet_below_same hw' (CWc.out _ hw')) | (go_at_call 66; exact Calls.quiet_below hw' (CHc.out _ hw')) | (go_at_call 67; exact Calls.quiet_below hw' (CS.out _)) | (with_reducible rfl) | (obtain ⟨cc, dd⟩ := bcell hw'; go_simp; rfl)); clear hK K))
            refine wpQuiet_nil ?_
            intro w9 hb9
            clear x0 x1 y4 y5 y6 y7 y8 y9 z3 z4 z5 z6 z7 z8 hx1 hx2 hx3 CWc CHc CS HH' HP KM
            rw [if_neg (by rw [HG.out]; simp)] at HS
            have HC0 := HR.out (e, l) (by have h1 := HK.out; have h2 := HL.out; cases hc : confAt s ep with | none => rw [hc] at h1; cases h1 | some c => rw [hc] at h2; exact congrArg some (by simpa using h2.symm))
            have B9 := Lib.hid (bthen B8.out hb9)
            have KM9 := Lib.hid (blk_below KMc.out hb9)
            have HP9 := Lib.hid (blk_below HPc.out hb9)
            have HO9 := Lib.hid (owns_old HO8.out hb9)
            have KC9 := Lib.hid (blk_below KC.out hb9)
            have HC1 := Lib.hid HC0
            clear hb9 KMc HPc HO8 KC B8 HC0 HR HK HL HG
            have y10 : w9.cell? ⟨w.heap.size, 10, none⟩ = some (.int .i64 rc) := by rw [blk_cell KM9.out]; rfl
            have y11 : w9.cell? ⟨w.heap.size, 11, none⟩ = some (.float .f64 rb) := by rw [blk_cell KM9.out]; rfl
            go_wp2_with fail
            refine (CT.out _).mono ?_
            rintro r w10 ⟨rfl, hb10⟩
            have B10 := Lib.hid (bthen B9.out hb10)
            have KM10 := Lib.hid (blk_below KM9.out hb10)
            have HP10 := Lib.hid (blk_below HP9.out hb10)
            have HO10 := Lib.hid (owns_old HO9.out hb10)
            have KC10 := Lib.hid (blk_below KC9.out hb10)
            clear hb10 KM9 HP9 HO9 KC9 B9 y10 y11 CT
            have y1 : w10.cell? ⟨w.heap.size, 1, none⟩ = some (.int .i64 ep) := by rw [blk_cell KM10.out]; rfl
            go_upto_region 5 with (fail)
            obtain ⟨m, n, M, hom, hmo, hmn, hmc⟩ := H.out.mp (of_decide_eq_true HW.out.symm)
            have hmlt := hmo.lt
            obtain ⟨w11, hw11⟩ : ∃ u, u = w10.alloc (.cells #[.int .i64 ep, .int .i64 fr] 128 (0, 0)) := ⟨_, rfl⟩
            have b11 : Below w10.heap.size w10 w11 := by rw [hw11]; exact below_alloc _ _
            have KK := Lib.hid (show w11.heap[w10.heap.size]? = some (.cells #[.int .i64 ep, .int .i64 fr] 128 (0, 0)) by rw [hw11]; exact blk_alloc _ _)
            rw [← hw11]
            have HP11 := Lib.hid (blk_below HP10.out b11)
            rw [hom] at HP11
            have B11 := Lib.hid (bthen B10.out b11)
            have b1a := below_alloc w11 (.cells #[.string ⟨#[]⟩] 130 (0, 0))
            have LK := Lib.hid (fun (wa : World) (hb : Below w.heap.size w wa) => look_came (rawC_block hmo (hb.block m hmlt)) hmc (k := (ep, fr)) ⟨hep, hfr⟩)
            have lk1 := LK.out w11.drew (bdrew B11.out)
            have lk2 := LK.out _ (bdrew (bthen B11.out b1a))
            have p9 : w11.cell? ⟨p, 9, none⟩ = some (.map (some m)) := by rw [blk_cell HP11.out]; rfl
            have q9 := below_cell b1a p9
            have k0 : w11.cell? ⟨w10.heap.size, 0, none⟩ = some (.int .i64 ep) := by rw [blk_cell KK.out]; rfl
            have k1 : w11.cell? ⟨w10.heap.size, 1, none⟩ = some (.int .i64 fr) := by rw [blk_cell KK.out]; rfl
            have j0 := below_cell b1a k0
            have j1 := below_cell b1a k1
            have HM := Lib.hid (And.intro hom (And.intro hmo (And.intro hmn hmc)))
            have KM11 := Lib.hid (blk_below KM10.out b11)
            have HO11 := Lib.hid (owns_old HO10.out b11)
            have KC11 := Lib.hid (blk_below KC10.out b11)
            have TN := Lib.hid (show ∀ t, cHas s.cm (ep, fr) = false → CMp (s.cm ++ [((ep, fr), t)]) (M.put (ckL (ep, fr)) (.held (.agg #[.string t]))) from fun t hh => hmc.put (hmo.tidy ckK) ⟨hep, hfr⟩ hh t)
            have hw10 : w10.heap.size < w11.heap.size := blk_lt KK.out
            generalize hTH : cHas s.cm (ep, fr) = TH at *
            generalize cGet s.cm (ep, fr) = CG at *
            generalize w10.heap.size = kb at *
            dsimp only at lk1 lk2
            clear y1 b11 hw11 hmo hmn hmc hmlt b1a KM10 HP10 HO10 KC10 B10 hTH
            go_cut [11, 12] (fun v11 v12 wc => Hid (v12 = .bool TH ∧ ∃ cb, v11 = .pointer (some ⟨cb, 0, none⟩) ∧ Below w11.heap.size w11 wc))
            case first =>
              go_region
              all_goals go_wp2_with fail
              all_goals go_meet
              all_goals exact Lib.hid ⟨rfl, _, rfl, bdrew (below_alloc _ _)⟩
            case rest =>
              obtain ⟨rfl, cb2, rfl, b12⟩ := hcut.out
              have B12 := Lib.hid (bthen B11.out b12)
              have KM12 := Lib.hid (blk_below KM11.out b12)
              have HO12 := Lib.hid (owns_old HO11.out b12)
              have KC12 := Lib.hid (blk_below KC11.out b12)
              have HP12 := Lib.hid (blk_below HP11.out b12)
              have KK12 := Lib.hid (blk_below KK.out b12)
              clear hcut b12 KM11 HO11 KC11 HP11 KK B11 p9 q9 k0 k1 j0 j1 lk1 lk2
              cases TH with
              | true =>
                have HX := Lib.hid (show s' = s by rw [HS.out, if_pos rfl])
                go_wp2_with fail
                refine bodyPost_ret (results_none rfl _ _ _) rfl ?_
                rw [HX.out]
                exact reply_none H0.out B12.out
              | false =>
                rw [if_neg (by decide)] at HS
                go_upto_region 7 with (fail)
                clear hw10
                refine wp_region_made 7 (cameA p m ep fr T) (fun _ _ => none) rfl (by kernel_rfl) (by kernel_rfl) cameA_stab (fun _ _ _ _ _ h => by cases h) (fun i oo hi ho => ?_) (fun vs w7 hb7 hs hne => ?_)
                · intro ac wa hba hE hF K hK
                  have b7 := below_undrew hba
                  have hno : ∀ k, (none : Option Nat) = some k → wa.heap.size ≤ k := fun _ h => by cases h
                  have KPa := blk_below HP12.out b7
                  have KKa := blk_below KK12.out b7
                  have z9 : wa.cell? ⟨p, 9, none⟩ = some (.map (some m)) := by rw [blk_cell KPa]; rfl
                  have j0 : wa.cell? ⟨kb, 0, none⟩ = some (.int .i64 ep) := by rw [blk_cell KKa]; rfl
                  have j1 : wa.cell? ⟨kb, 1, none⟩ = some (.int .i64 fr) := by rw [blk_cell KKa]; rfl
                  have hi' : i = 0 ∨ i = 1 ∨ i = 2 ∨ i = 3 ∨ i = 4 ∨ i = 5 ∨ i = 6 := by omega
                  rcases hi' with rfl | rfl | rfl | rfl | rfl | rfl | rfl
                  · obtain rfl := Option.some.inj ho
                    have h1 : ac.eval (.tmp 0) = .pointer (some ⟨p, 0, none⟩) := hE 0 (by decide)
                    exact news_val rfl rfl (by generalize ac.eval = ρ at h1; simp only [execOp]; go_simp) (hK _ _ (Below.refl _ _) rfl hno)
                  · obtain rfl := Option.some.inj ho
                    have h1 : ac.eval (.tmp 71) = .pointer (some ⟨p, 0, none⟩) := hF ⟨0, .data⟩ (by simp) rfl 71 rfl
                    exact news_val rfl rfl (by generalize ac.eval = ρ at h1; simp only [execOp]; go_simp) (hK _ _ (Below.refl _ _) rfl hno)
                  · obtain rfl := Option.some.inj ho
                    have h1 : ac.eval (.tmp 72) = .pointer (some ⟨p, 0, none⟩) := hF ⟨1, .data⟩ (by simp) rfl 72 rfl
                    exact news_val rfl rfl (by generalize ac.eval = ρ at h1; simp only [execOp]; go_simp) (hK _ _ (Below.refl _ _) rfl hno)
                  · obtain rfl := Option.some.inj ho
                    have h1 : ac.eval (.tmp 73) = .pointer (some ⟨p, 9, none⟩) := hF ⟨2, .data⟩ (by simp) rfl 73 rfl
                    exact news_val rfl rfl (by generalize ac.eval = ρ at h1; simp only [execOp]; go_simp) (hK _ _ (Below.refl _ _) rfl hno)
                  · obtain rfl := Option.some.inj ho
                    have h1 : ac.eval (.tmp 10) = .pointer (some ⟨kb, 0, none⟩) := hE 10 (by decide)
                    exact news_val rfl rfl (by generalize ac.eval = ρ at h1; simp only [execOp]; go_simp) (hK _ _ (Below.refl _ _) rfl hno)
                  · obtain rfl := Option.some.inj ho
                    have h1 : ac.eval (.tmp 8) = .string T := hE 8 (by decide)
                    exact news_val rfl rfl (by generalize ac.eval = ρ at h1; simp only [execOp]; go_simp) (hK _ _ (Below.refl _ _) rfl hno)
                  · obtain rfl := Option.some.inj ho
                    have h1 : ac.eval (.tmp 76) = .string T := hF ⟨5, .data⟩ (by simp) rfl 76 rfl
                    exact news_val rfl rfl (by generalize ac.eval = ρ at h1; simp only [execOp]; go_simp) (hK _ _ (Below.refl _ _) rfl hno)
                · have e0 : vs 0 = _ := hs 0 (by omega)
                  have e1 : vs 1 = _ := hs 1 (by omega)
                  have e2 : vs 2 = _ := hs 2 (by omega)
                  have e3 : vs 3 = _ := hs 3 (by omega)
                  have e4 : vs 4 = _ := hs 4 (by omega)
                  have e5 : vs 5 = _ := hs 5 (by omega)
                  have e6 : vs 6 = _ := hs 6 (by omega)
                  show wpList _ _ _ _ (((((((Act.put _ (some 71) (vs 0)).put (some 72) (vs 1)).put (some 73) (vs 2)).put (some 74) (vs 3)).put (some 75) (vs 4)).put (some 76) (vs 5)).put (some 77) (vs 6)) _
                  rw [e0, e1, e2, e3, e4, e5, e6]
                  clear e0 e1 e2 e3 e4 e5 e6 hs hne vs
                  obtain ⟨hom, hmo, hmn, hmc⟩ := HM.out
                  have B13 := Lib.hid (bthen B12.out hb7)
                  have KM13 := Lib.hid (blk_below KM12.out hb7)
                  have HO13 := Lib.hid (owns_old HO12.out hb7)
                  have KC13 := Lib.hid (blk_below KC12.out hb7)
                  have HP13 := Lib.hid (blk_below HP12.out hb7)
                  have OM := Lib.hid (rawC_block hmo (B13.out.block m hmo.lt))
                  have HNN := Lib.hid (show n < maxLen from by have := H.out.inv.hs; unfold maxLen; omega)
                  have hml := (H.out.hm m hom).2
                  clear hb7 KM12 HO12 KC12 HP12 B12 hmo hmc KK12
                  simp only [List.drop_succ_cons, List.drop_zero, Act.put, List.setIfInBounds_toArray, List.set_cons_succ, List.set_cons_zero]
                  go_wp2_with (first | (at_mapUpdate; refine wpList_mapUpdate_own _ rfl (.tmp 74) (.tmp 75) (.tmp 77) 77 rfl 128 130 ckK Try.underlying77 rawC m n M rfl OM.out HNN.out (.agg #[.int .i64 ep, .int .i64 fr]) (.agg #[.string T]) (ckL (ep, fr)) rfl rfl (ckKey (k := (ep, fr)) ⟨hep, hfr⟩) (.held (.agg #[.string T])) [] rfl ?_) | fail)
                  intro w8 ho8 hg8
                  have hk8 : Keep (fun k => k = m) w w8 := (Keep.of_below B13.out).grown hg8 (fun k hk => .inr (by injection hk with hk; exact hk.symm))
                  have H2 := Lib.hid (H.out.came hom hk8 ho8 (by have := HM.out.2.2.1; omega) (TN.out T (by simp)))
                  have hge : ∀ k, w.heap.size ≤ k → k < w7.heap.size → w8.heap[k]? = w7.heap[k]? := fun k h1 h2 => hg8.block k h2 (fun e => by injection e with e; omega)
                  have KM8 := Lib.hid ((hge _ (Nat.le_refl _) (blk_lt KM13.out)).trans KM13.out)
                  have hcb2 : w.heap.size ≤ cb := Nat.le_trans B6.out.size hcb
                  have KC8 := Lib.hid ((hge _ hcb2 (blk_lt KC13.out)).trans KC13.out)
                  have HO8 := Lib.hid (owns_keep HO13.out (Keep.grown (X := fun k => k = m) (Keep.refl _ _) hg8 (fun k hk => .inr (by injection hk with hk; exact hk.symm))) (fun k hk e => by subst e; have := (HO13.out.lt k hk).1; have := B6.out.size; omega))
                  have HI8 := Lib.hid (ints_row HO8.out rfl (fun x hx => by have := hlr x hx; unfold i64; omega) (by omega))
                  have HK8 := Lib.hid hk8
                  have HMAP := Lib.hid (And.intro ho8 (TN.out T (by simp)))
                  clear hk8 hge ho8 hg8 KM13 KC13 HO13 HP13 OM HNN HM TN B13
                  obtain ⟨w9, hw9⟩ : ∃ u, u = w8 := ⟨_, rfl⟩
                  have HP8 := Lib.hid (show ∃ va vb, w8.heap[p]? = some (.cells #[.int .i64 s.id, .pointer (some ⟨t, 0, none⟩), .int .i64 s.st, .int .i64 s.q.c, .int .i64 s.q.s, .int .i64 s.q.kind, .string s.q.key, .float .f64 s.q.b, .int .i64 s.q.id, .map (some m), va, vb] 79 (0, 0)) by
                    obtain ⟨va, vb, h1, -⟩ := H2.out.ex
                    rw [hom] at h1
                    exact ⟨va, vb, h1⟩)
                  generalize hCM : s.cm ++ [((ep, fr), T)] = CM at *
                  have x1 : w8.cell? ⟨cb, 1, none⟩ = some (.slice a7 l.length c7) := by rw [blk_cell KC8.out]; rfl
                  go_wp2_with fail
                  go_loopw [13, 81] (fun v i wr => ∃ k : Nat, k ≤ l.length ∧ i = .int .i64 k ∧ v = .int .i64 (alikeN CM ep (l.take k) T) ∧ Hid (Below w8.heap.size w8 wr)) (fun _ i _ => l.length - (intOf i).toNat)
                  case atStart => exact ⟨0, by omega, rfl, rfl, Lib.hid (Below.refl _ _)⟩
                  case round =>
                    obtain ⟨k, hk, rfl, rfl, Hb⟩ := hrel
                    by_cases hlt : k < l.length
                    · obtain ⟨b, o, x', rfl, hc, b0, b1, -, hx⟩ := (ints_of_sl (HI8.out.old Hb.out)).elem k hlt
                      have HX := Lib.hid (alike_step (cm := CM) (ep := ep) (t := T) (show l.take (k + 1) = l.take k ++ [x'] by rw [List.take_add_one, hx.out]; rfl))
                      have hxi : i64 x' := by have := hlr x' (List.mem_of_getElem? hx.out); unfold i64; omega
                      have hki : IntKind.i64.wrap ((k : Int) + 1) = ((k + 1 : Nat) : Int) := IntWalk.i64_in _ (by omega)
                      have hdd : decide ((k : Int) < (l.length : Int)) = true := by simp; omega
                      have hal : alikeN CM ep (l.take k) T ≤ k := Nat.le_trans (alike_le _ _ _ _) (by rw [List.length_take]; omega)
                      have hai : IntKind.i64.wrap ((alikeN CM ep (l.take k) T : Int) + 1) = ((alikeN CM ep (l.take k) T + 1 : Nat) : Int) := IntWalk.i64_in _ (by omega)
                      have LK := fun (wa : World) (hb : Below w8.heap.size w8 wa) => look_came (rawC_block HMAP.out.1 (hb.block m HMAP.out.1.lt)) HMAP.out.2 (k := (ep, x')) ⟨hep, hxi⟩
                      have b1a := below_alloc wr (.cells #[.string ⟨#[]⟩] 130 (0, 0))
                      have lk1 := LK wr.drew (bdrew Hb.out)
                      have lk2 := LK _ (bdrew (bthen Hb.out b1a))
                      obtain ⟨va2, vb2, hp8⟩ := HP8.out
                      have p9 : wr.cell? ⟨p, 9, none⟩ = some (.map (some m)) := by rw [blk_cell (blk_below hp8 Hb.out)]; rfl
                      have q9 := below_cell b1a p9
                      have y1 : wr.cell? ⟨w.heap.size, 1, none⟩ = some (.int .i64 ep) := by rw [blk_cell (blk_below KM8.out Hb.out)]; rfl
                      have j1 := below_cell b1a y1
                      generalize cHas CM (ep, x') = TH2 at *
                      generalize hCG : cGet CM (ep, x') = CG2 at *
                      generalize alikeN CM ep (l.take k) T = ak at *
                      have HE := Lib.hid (show (CG2.toList == T.toList) = decide (CG2 = T) from str_beq _ _)
                      generalize decide (CG2 = T) = E2 at *
                      dsimp only at lk1 lk2
                      clear LK hCG b1a hx hp8
                      go_upto_region 12 with (fail)
                      go_cut [16, 17] (fun v16 v17 wc => Hid (v17 = .bool TH2 ∧ ∃ cb3, v16 = .pointer (some ⟨cb3, 0, none⟩) ∧ wc.heap[cb3]? = some (.cells #[.string CG2] 130 (0, 0)) ∧ Below wr.heap.size wr wc))
                      case first =>
                        go_region
                        all_goals go_wp2_with fail
                        all_goals go_meet
                        all_goals exact Lib.hid ⟨rfl, _, rfl, blk_alloc _ _, bdrew (below_alloc _ _)⟩
                      case rest =>
                        obtain ⟨rfl, cb3, rfl, kc3, bc3⟩ := hcut.out
                        have Hb3 := Lib.hid (bthen Hb.out bc3)
                        have x3 : wc.cell? ⟨cb3, 0, none⟩ = some (.string CG2) := by rw [blk_cell kc3]; rfl
                        clear hcut lk1 lk2 p9 q9 y1 j1 kc3 bc3 Hb
                        cases TH2 with
                        | false =>
                          have HN := Lib.hid (show alikeN CM ep (l.take (k + 1)) T = ak by rw [HX.out, if_neg (by simp)]; rfl)
                          clear HX hai
                          go_wp2_with fail
                          go_roundw
                          case rel => exact ⟨k + 1, by omega, by go_num, by rw [HN.out], Hb3⟩
                          case measure => simp [intOf]; omega
                        | true =>
                          cases E2 with
                          | false =>
                            have HN := Lib.hid (show alikeN CM ep (l.take (k + 1)) T = ak by rw [HX.out, if_neg (by simp)]; rfl)
                            have he := HE.out
                            clear HX hai
                            go_wp2_with fail
                            go_roundw
                            case rel => exact ⟨k + 1, by omega, by go_num, by rw [HN.out], Hb3⟩
                            case measure => simp [intOf]; omega
                          | true =>
                            have HN := Lib.hid (show alikeN CM ep (l.take (k + 1)) T = ak + 1 by rw [HX.out, if_pos (by simp)])
                            have he := HE.out
                            clear HX
                            go_wp2_with fail
                            go_roundw
                            case rel => exact ⟨k + 1, by omega, by go_num, by rw [HN.out]; simp, Hb3⟩
                            case measure => simp [intOf]; omega
                    · have hkn : k = l.length := by omega
                      subst hkn
                      have hd : decide ((l.length : Int) < (l.length : Int)) = false := by simp
                      have hal : alikeN CM ep l T ≤ l.length := alike_le _ _ _ _
                      rw [List.take_of_length_le (Nat.le_refl _)]
                      generalize hak : alikeN CM ep l T = ak at *
                      have x1r := below_cell Hb.out x1
                      have CWk := Lib.hid (fun w' : World => weak_any (l.length : Int) w' (by omega) (by omega))
                      have HAK := Lib.hid hak
                      generalize hwk : weakP (l.length : Int) = wk at *
                      have HR1 := Lib.hid (bthen (show Below w8.heap.size w8 w8 from Below.refl _ _) Hb.out)
                      clear hak
                      by_cases hge : wk ≤ (ak : Int)
                      · have hdg : decide (wk ≤ (ak : Int)) = true := decide_eq_true hge
                        have HX := Lib.hid (show s' = takenS (cameS s fr ep T) rc rb by rw [HS.out, if_pos hge])
                        go_upto_region 16 with (fail)
                        go_wp2_with fail
                        refine (CWk.out _).mono ?_
                        rintro r w10 ⟨rfl, rfl⟩
                        obtain ⟨i1, hi1, hc0, hc1, hc2⟩ := info_parts info_ent
                        obtain ⟨i2, hi2, hs0, hs1, hs2⟩ := info_parts info_res
                        have HA := Lib.hid (H2.out.old Hb.out)
                        obtain ⟨va1, vb1, hp1, h7, e7, h8, e8⟩ := HA.out.ex
                        obtain ⟨al, cl, rfl⟩ := owns_form h7
                        obtain ⟨bl, dl, rfl⟩ := owns_form h8
                        rw [hom] at hp1
                        have hac := HA.out.inv.acl
                        have hrs := HA.out.inv.nr
                        have hna : (cameS s fr ep T).ac = s.ac := rfl
                        have hnr : (cameS s fr ep T).rs = s.rs := rfl
                        rw [hna] at h7 hp1 e7 hac hrs
                        rw [hnr] at h8 hp1 e8 hrs
                        have hp1 : wr.heap[p]? = some (.cells #[.int .i64 s.id, .pointer (some ⟨t, 0, none⟩), .int .i64 s.st, .int .i64 s.q.c, .int .i64 s.q.s, .int .i64 s.q.kind, .string s.q.key, .float .f64 s.q.b, .int .i64 s.q.id, .map (some m), .slice al s.ac.length cl, .slice bl s.rs.length dl] 79 (0, 0)) := hp1
                        have hge1 : B ≤ wr.heap.size := Nat.le_trans HA.out.hB (Nat.le_of_lt (blk_lt hp1))
                        have HXN := Lib.hid (show entsV (s.ac ++ [((s.ac.length : Int) + 1, s.q)]) = entsV s.ac ++ [.int .i64 ((s.ac.length : Int) + 1), .int .i64 s.q.c, .int .i64 s.q.s, .int .i64 s.q.kind, .string s.q.key, .float .f64 s.q.b, .int .i64 s.q.id] by unfold entsV; rw [List.flatMap_append]; simp [Rq.cs])
                        have HXR := Lib.hid (show ressV (s.rs ++ [(rc, rb)]) = ressV s.rs ++ [.int .i64 rc, .float .f64 rb] by unfold ressV; rw [List.flatMap_append]; simp)
                        have HOK := Lib.hid (HA.out.nop)
                        have HNO := Lib.hid (show ¬ ((Value.slice al s.ac.length cl).ownBlock = some p) from fun e => HOK.out.2.1 (by rw [← e7]; exact e))
                        have HNP := Lib.hid (show ¬ ((Value.slice bl s.rs.length dl).ownBlock = some p) from fun e => HOK.out.2.2 (by rw [← e8]; exact e))
                        have HNB := Lib.hid (show ∀ k, (Value.slice al s.ac.length cl).ownBlock = some k → (Value.slice bl s.rs.length dl).ownBlock ≠ some k from fun k h1 h2 => HA.out.noa k (by rw [← e7]; exact h1) (by rw [← e8]; exact h2))
                        have H7 := Lib.hid h7
                        have H8 := Lib.hid h8
                        have E7 := Lib.hid e7; have E8 := Lib.hid e8
                        have HOL := Lib.hid (show ∀ z, wr.heap.size ≤ z → ¬ ((Value.slice al s.ac.length cl).ownBlock = some z) from fun z hz hc => by have := (H7.out.lt z hc).2; omega)
                        have HP17 := Lib.hid hp1
                        have HSZ := Lib.hid (show s.ac.length ≤ 1048576 ∧ s.rs.length = s.ac.length from ⟨hac, hrs⟩)
                        have hwn : IntKind.i64.wrap ((s.ac.length : Int) + 1) = (s.ac.length : Int) + 1 := IntWalk.i64_in _ (by omega)
                        have k5 : s.ac.length + 1 ≤ maxLen := by unfold maxLen; omega
                        have k6 : (s.ac.length + 1) * 64 ≤ 140737488355328 := by omega
                        have KMr := Lib.hid (blk_below KM8.out Hb.out)
                        have HGE := Lib.hid hge1
                        clear hp1 h7 h8 e7 e8 hac hrs hna hnr hge1 hal
                        go_upto_region 17 with (fail)
                        clear x1r
                        refine wp_region_kept2 20 (fun z => (Value.slice al s.ac.length cl).ownBlock = some z) 17 (accA B wr.heap.size p s.ac.length cl al (Value.slice al s.ac.length cl).ownBlock (entsV s.ac) s.q.c s.q.s s.q.kind s.q.key s.q.b s.q.id) (fun _ _ => none) rfl (by kernel_rfl) (by kernel_rfl) (accA_stab HOL.out) (fun _ _ _ _ _ h => by cases h) (fun i oo hi ho => ?_) (fun vs w17 hb7 hs hne => ?_)
                        · intro ac wa hba hbs hE hF K hK
                          have b7 := keep_undrew13 hba
                          have hno : ∀ k, (none : Option Nat) = some k → wa.heap.size ≤ k := fun _ h => by cases h
                          have KPa : wa.heap[p]? = _ := (b7.block p (blk_lt HP17.out) HNO.out).trans HP17.out
                          have z10 : wa.cell? ⟨p, 10, none⟩ = some (.slice al s.ac.length cl) := by rw [blk_cell KPa]; rfl
                          have z3 : wa.cell? ⟨p, 3, none⟩ = some (.int .i64 s.q.c) := by rw [blk_cell KPa]; rfl
                          have z4 : wa.cell? ⟨p, 4, none⟩ = some (.int .i64 s.q.s) := by rw [blk_cell KPa]; rfl
                          have z5 : wa.cell? ⟨p, 5, none⟩ = some (.int .i64 s.q.kind) := by rw [blk_cell KPa]; rfl
                          have z6 : wa.cell? ⟨p, 6, none⟩ = some (.string s.q.key) := by rw [blk_cell KPa]; rfl
                          have z7 : wa.cell? ⟨p, 7, none⟩ = some (.float .f64 s.q.b) := by rw [blk_cell KPa]; rfl
                          have z8 : wa.cell? ⟨p, 8, none⟩ = some (.int .i64 s.q.id) := by rw [blk_cell KPa]; rfl
                          have hi' : i = 0 ∨ i = 1 ∨ i = 2 ∨ i = 3 ∨ i = 4 ∨ i = 5 ∨ i = 6 ∨ i = 7 ∨ i = 8 ∨ i = 9 ∨ i = 10 ∨ i = 11 ∨ i = 12 ∨ i = 13 ∨ i = 14 ∨ i = 15 ∨ i = 16 ∨ i = 17 ∨ i = 18 ∨ i = 19 := by omega
                          rcases hi' with rfl | rfl | rfl | rfl | rfl | rfl | rfl | rfl | rfl | rfl | rfl | rfl | rfl | rfl | rfl | rfl | rfl | rfl | rfl | rfl
                          · obtain rfl := Option.some.inj ho
                            have h1 : ac.eval (.tmp 0) = .pointer (some ⟨p, 0, none⟩) := hE 0 (by decide)
                            exact news_val rfl rfl (by generalize ac.eval = ρ at h1; simp only [execOp]; go_simp) (hK _ _ (fun _ => Below.refl _ _) (Keep.refl _ _) rfl hno)
                          · obtain rfl := Option.some.inj ho
                            have h1 : ac.eval (.tmp 0) = .pointer (some ⟨p, 0, none⟩) := hE 0 (by decide)
                            exact news_val rfl rfl (by generalize ac.eval = ρ at h1; simp only [execOp]; go_simp) (hK _ _ (fun _ => Below.refl _ _) (Keep.refl _ _) rfl hno)
                          · obtain rfl := Option.some.inj ho
                            have h1 : ac.eval (.tmp 114) = .pointer (some ⟨p, 0, none⟩) := hF ⟨1, .data⟩ (by simp) rfl 114 rfl
                            exact news_val rfl rfl (by generalize ac.eval = ρ at h1; simp only [execOp]; go_simp) (hK _ _ (fun _ => Below.refl _ _) (Keep.refl _ _) rfl hno)
                          · obtain rfl := Option.some.inj ho
                            have h1 : ac.eval (.tmp 115) = .pointer (some ⟨p, 0, none⟩) := hF ⟨2, .data⟩ (by simp) rfl 115 rfl
                            exact news_val rfl rfl (by generalize ac.eval = ρ at h1; simp only [execOp]; go_simp) (hK _ _ (fun _ => Below.refl _ _) (Keep.refl _ _) rfl hno)
                          · obtain rfl := Option.some.inj ho
                            have h1 : ac.eval (.tmp 116) = .pointer (some ⟨p, 10, none⟩) := hF ⟨3, .data⟩ (by simp) rfl 116 rfl
                            exact news_val rfl rfl (by generalize ac.eval = ρ at h1; simp only [execOp]; go_simp) (hK _ _ (fun _ => Below.refl _ _) (Keep.refl _ _) rfl hno)
                          · obtain rfl := Option.some.inj ho
                            have h1 : ac.eval (.tmp 0) = .pointer (some ⟨p, 0, none⟩) := hE 0 (by decide)
                            exact news_val rfl rfl (by generalize ac.eval = ρ at h1; simp only [execOp]; go_simp) (hK _ _ (fun _ => Below.refl _ _) (Keep.refl _ _) rfl hno)
                          · obtain rfl := Option.some.inj ho
                            have h1 : ac.eval (.tmp 118) = .pointer (some ⟨p, 0, none⟩) := hF ⟨5, .data⟩ (by simp) rfl 118 rfl
                            exact news_val rfl rfl (by generalize ac.eval = ρ at h1; simp only [execOp]; go_simp) (hK _ _ (fun _ => Below.refl _ _) (Keep.refl _ _) rfl hno)
                          · obtain rfl := Option.some.inj ho
                            have h1 : ac.eval (.tmp 119) = .pointer (some ⟨p, 0, none⟩) := hF ⟨6, .data⟩ (by simp) rfl 119 rfl
                            exact news_val rfl rfl (by generalize ac.eval = ρ at h1; simp only [execOp]; go_simp) (hK _ _ (fun _ => Below.refl _ _) (Keep.refl _ _) rfl hno)
                          · obtain rfl := Option.some.inj ho
                            have h1 : ac.eval (.tmp 120) = .pointer (some ⟨p, 10, none⟩) := hF ⟨7, .data⟩ (by simp) rfl 120 rfl
                            exact news_val rfl rfl (by generalize ac.eval = ρ at h1; simp only [execOp]; go_simp) (hK _ _ (fun _ => Below.refl _ _) (Keep.refl _ _) rfl hno)
                          · obtain rfl := Option.some.inj ho
                            have h1 : ac.eval (.tmp 121) = .slice al s.ac.length cl := hF ⟨8, .data⟩ (by simp) rfl 121 rfl
                            exact news_val rfl rfl (by generalize ac.eval = ρ at h1; simp only [execOp]; go_simp) (hK _ _ (fun _ => Below.refl _ _) (Keep.refl _ _) rfl hno)
                          · obtain rfl := Option.some.inj ho
                            have h1 : ac.eval (.tmp 122) = .int .i64 (s.ac.length : Int) := hF ⟨9, .data⟩ (by simp) rfl 122 rfl
                            have h2 : ac.eval (.const (.int .i64 1)) = .int .i64 1 := rfl
                            exact news_val rfl rfl (by generalize ac.eval = ρ at h1 h2; simp only [execOp]; go_simp) (hK _ _ (fun _ => Below.refl _ _) (Keep.refl _ _) rfl hno)
                          · obtain rfl := Option.some.inj ho
                            have h1 : ac.eval (.tmp 0) = .pointer (some ⟨p, 0, none⟩) := hE 0 (by decide)
                            exact news_val rfl rfl (by generalize ac.eval = ρ at h1; simp only [execOp]; go_simp) (hK _ _ (fun _ => Below.refl _ _) (Keep.refl _ _) rfl hno)
                          · obtain rfl := Option.some.inj ho
                            have h1 : ac.eval (.tmp 124) = .pointer (some ⟨p, 0, none⟩) := hF ⟨11, .data⟩ (by simp) rfl 124 rfl
                            exact news_val rfl rfl (by generalize ac.eval = ρ at h1; simp only [execOp]; go_simp) (hK _ _ (fun _ => Below.refl _ _) (Keep.refl _ _) rfl hno)
                          · obtain rfl := Option.some.inj ho
                            have h1 : ac.eval (.tmp 125) = .pointer (some ⟨p, 0, none⟩) := hF ⟨12, .data⟩ (by simp) rfl 125 rfl
                            exact news_val rfl rfl (by generalize ac.eval = ρ at h1; simp only [execOp]; go_simp) (hK _ _ (fun _ => Below.refl _ _) (Keep.refl _ _) rfl hno)
                          · obtain rfl := Option.some.inj ho
                            have h1 : ac.eval (.tmp 126) = .pointer (some ⟨p, 3, none⟩) := hF ⟨13, .data⟩ (by simp) rfl 126 rfl
                            exact news_val rfl rfl (by generalize ac.eval = ρ at h1; simp only [execOp]; go_simp) (hK _ _ (fun _ => Below.refl _ _) (Keep.refl _ _) rfl hno)
                          · obtain rfl := Option.some.inj ho
                            have h1 : ac.eval (.tmp 123) = .int .i64 ((s.ac.length : Int) + 1) := hF ⟨10, .data⟩ (by simp) rfl 123 rfl
                            have h2 : ac.eval (.tmp 127) = .agg #[.int .i64 s.q.c, .int .i64 s.q.s, .int .i64 s.q.kind, .string s.q.key, .float .f64 s.q.b, .int .i64 s.q.id] := hF ⟨14, .data⟩ (by simp) rfl 127 rfl
                            exact news_val rfl rfl (by generalize ac.eval = ρ at h1 h2; simp only [execOp]; go_simp) (hK _ _ (fun _ => Below.refl _ _) (Keep.refl _ _) rfl hno)
                          · obtain rfl := Option.some.inj ho
                            have h1 : ac.eval (.tmp 128) = .agg #[.int .i64 ((s.ac.length : Int) + 1), .int .i64 s.q.c, .int .i64 s.q.s, .int .i64 s.q.kind, .string s.q.key, .float .f64 s.q.b, .int .i64 s.q.id] := hF ⟨15, .data⟩ (by simp) rfl 128 rfl
                            exact news_val (w' := wa.alloc (.cells #[.int .i64 ((s.ac.length : Int) + 1), .int .i64 s.q.c, .int .i64 s.q.s, .int .i64 s.q.kind, .string s.q.key, .float .f64 s.q.b, .int .i64 s.q.id] 57 (0, 0))) rfl rfl (by generalize ac.eval = ρ at h1; simp only [execOp]; go_simp) (hK _ _ (fun _ => below_alloc _ _) (Keep.of_below (below_alloc _ _)) ⟨wa.heap.size, rfl, b7.size, blk_alloc _ _⟩ hno)
                          · obtain rfl := Option.some.inj ho
                            have h1 : ac.eval (.tmp 117) = .slice al s.ac.length cl := hF ⟨4, .data⟩ (by simp) rfl 117 rfl
                            obtain ⟨gb, h2, hgb, hbb⟩ : ∃ h, (ac.eval (.tmp 129)) = .slice (some ⟨h, 0, none⟩) 1 1 ∧ wr.heap.size ≤ h ∧ wa.heap[h]? = some (.cells #[.int .i64 ((s.ac.length : Int) + 1), .int .i64 s.q.c, .int .i64 s.q.s, .int .i64 s.q.kind, .string s.q.key, .float .f64 s.q.b, .int .i64 s.q.id] 57 (0, 0)) := hF ⟨16, .data⟩ (by simp) rfl 129 rfl
                            refine wpOp_step rfl fun K' hK' => ?_
                            refine step_append_lies _ rfl (.tmp 117) (.tmp 129) 38 rfl B 57 i1 (.agg #[.int .i64 0, .int .i64 0, .int .i64 0, .int .i64 0, .string ⟨#[]⟩, .float .f64 0, .int .i64 0]) 7 64 Try.underlying38 hi1 hc0 hc1 hc2 rfl (by decide) (.slice al s.ac.length cl) s.ac.length (entsV s.ac) h1 (owns_old H7.out (below_undrew (hbs (.inl rfl)))) ⟨gb, 0, none⟩ 1 1 [.int .i64 ((s.ac.length : Int) + 1), .int .i64 s.q.c, .int .i64 s.q.s, .int .i64 s.q.kind, .string s.q.key, .float .f64 s.q.b, .int .i64 s.q.id] h2 rfl (World.news_of_block hbb) (by simp [Value.oneCell']) (by decide) k5 k6 (Nat.le_trans HGE.out b7.size) _ rfl ?_
                            intro g cap w8 hown8 hg8 hor8 hlt8
                            exact hK' _ _ (hK _ _ (fun h => (h rfl).elim) ((Keep.refl _ wa).grown hg8 (fun k hk => .inr hk)) ⟨_, _, rfl, hown8, hor8.imp id (fun h => by have := b7.size; omega)⟩ hno)
                          · obtain rfl := Option.some.inj ho
                            have h1 : ac.eval (.tmp 113) = .pointer (some ⟨p, 0, none⟩) := hF ⟨0, .data⟩ (by simp) rfl 113 rfl
                            exact news_val rfl rfl (by generalize ac.eval = ρ at h1; simp only [execOp]; go_simp) (hK _ _ (fun _ => Below.refl _ _) (Keep.refl _ _) rfl hno)
                          · obtain rfl := Option.some.inj ho
                            have h1 : ac.eval (.tmp 131) = .pointer (some ⟨p, 0, none⟩) := hF ⟨18, .data⟩ (by simp) rfl 131 rfl
                            exact news_val rfl rfl (by generalize ac.eval = ρ at h1; simp only [execOp]; go_simp) (hK _ _ (fun _ => Below.refl _ _) (Keep.refl _ _) rfl hno)
                        · have e0 : vs 0 = _ := hs 0 (by omega)
                          have e1 : vs 1 = _ := hs 1 (by omega)
                          have e2 : vs 2 = _ := hs 2 (by omega)
                          have e3 : vs 3 = _ := hs 3 (by omega)
                          have e4 : vs 4 = _ := hs 4 (by omega)
                          have e5 : vs 5 = _ := hs 5 (by omega)
                          have e6 : vs 6 = _ := hs 6 (by omega)
                          have e7 : vs 7 = _ := hs 7 (by omega)
                          have e8 : vs 8 = _ := hs 8 (by omega)
                          have e9 : vs 9 = _ := hs 9 (by omega)
                          have e10 : vs 10 = _ := hs 10 (by omega)
                          have e11 : vs 11 = _ := hs 11 (by omega)
                          have e12 : vs 12 = _ := hs 12 (by omega)
                          have e13 : vs 13 = _ := hs 13 (by omega)
                          have e14 : vs 14 = _ := hs 14 (by omega)
                          have e15 : vs 15 = _ := hs 15 (by omega)
                          obtain ⟨gb, e16, hgb, hbb⟩ : ∃ h, (vs 16) = .slice (some ⟨h, 0, none⟩) 1 1 ∧ wr.heap.size ≤ h ∧ w17.heap[h]? = some (.cells #[.int .i64 ((s.ac.length : Int) + 1), .int .i64 s.q.c, .int .i64 s.q.s, .int .i64 s.q.kind, .string s.q.key, .float .f64 s.q.b, .int .i64 s.q.id] 57 (0, 0)) := hs 16 (by omega)
                          obtain ⟨g8, c8, e17, ho8, hor8⟩ : ∃ h e, (vs 17) = .slice (some ⟨h, 0, none⟩) (s.ac.length + 1) e ∧ w17.ownsRow B 57 7 (.slice (some ⟨h, 0, none⟩) (s.ac.length + 1) e) (s.ac.length + 1) ((entsV s.ac) ++ ([.int .i64 ((s.ac.length : Int) + 1), .int .i64 s.q.c, .int .i64 s.q.s, .int .i64 s.q.kind, .string s.q.key, .float .f64 s.q.b, .int .i64 s.q.id] : List Value)) ∧ ((Value.slice al s.ac.length cl).ownBlock = some h ∨ wr.heap.size ≤ h) := hs 17 (by omega)
                          have e18 : vs 18 = _ := hs 18 (by omega)
                          have e19 : vs 19 = _ := hs 19 (by omega)
                          show wpList _ _ _ _ ((((((((((((((((((((Act.put _ (some 113) (vs 0)).put (some 114) (vs 1)).put (some 115) (vs 2)).put (some 116) (vs 3)).put (some 117) (vs 4)).put (some 118) (vs 5)).put (some 119) (vs 6)).put (some 120) (vs 7)).put (some 121) (vs 8)).put (some 122) (vs 9)).put (some 123) (vs 10)).put (some 124) (vs 11)).put (some 125) (vs 12)).put (some 126) (vs 13)).put (some 127) (vs 14)).put (some 128) (vs 15)).put (some 129) (vs 16)).put (some 130) (vs 17)).put (some 131) (vs 18)).put (some 132) (vs 19)) _
                          rw [e0, e1, e2, e3, e4, e5, e6, e7, e8, e9, e10, e11, e12, e13, e14, e15, e16, e17, e18, e19]
                          clear e0 e1 e2 e3 e4 e5 e6 e7 e8 e9 e10 e11 e12 e13 e14 e15 e16 e17 e18 e19 hs hne vs
                          simp only [List.drop_succ_cons, List.drop_zero, List.drop_nil, Act.put, List.setIfInBounds_toArray, List.set_cons_succ, List.set_cons_zero]
                          have hp17 : w17.heap[p]? = _ := (hb7.block p (blk_lt HP17.out) HNO.out).trans HP17.out
                          have m8 : w17.cell? ⟨p, 10, none⟩ = some (.slice al s.ac.length cl) := by rw [blk_cell hp17]; rfl
                          have m9 := blk_frozen hp17 10
                          have lp17 := blk_lt hp17
                          obtain ⟨w18, hw18⟩ : ∃ u, u = w17.setCell ⟨p, 10, none⟩ (.slice (some ⟨g8, 0, none⟩) (s.ac.length + 1) c8) := ⟨_, rfl⟩
                          have hp18 := blk_set hp17 10 (.slice (some ⟨g8, 0, none⟩) (s.ac.length + 1) c8)
                          rw [← hw18] at hp18
                          simp only [List.setIfInBounds_toArray, List.set_cons_succ, List.set_cons_zero] at hp18
                          have HP18 := Lib.hid hp18
                          have hne8 : ¬ g8 = p := fun e => by
                            subst e
                            rcases hor8 with h | h
                            · exact HNO.out h
                            · have := blk_lt HP17.out; omega
                          have hk18 : Keep (fun k => k = p ∨ (Value.slice al s.ac.length cl).ownBlock = some k) wr w18 := by
                            rw [hw18]
                            exact (keep_sub hb7 (fun k hk => .inr hk)).trans (keep_set1 w17 p 10 _) (fun k _ hk => .inl hk)
                          have HK18 := Lib.hid hk18
                          have HA18 := Lib.hid (show w18.ownsRow B 57 7 (.slice (some ⟨g8, 0, none⟩) (s.ac.length + 1) c8) (s.ac.length + 1) (entsV (s.ac ++ [((s.ac.length : Int) + 1, s.q)])) by
                            rw [HXN.out, hw18]
                            exact owns_keep ho8 (keep_set1 w17 p 10 _) (fun k hk e => hne8 (by have hk : some g8 = some k := hk; injection hk with hk; omega)))
                          have HB18 := Lib.hid (show w18.ownsRow B 45 2 (.slice bl s.rs.length dl) s.rs.length (ressV s.rs) from owns_keep H8.out hk18 (fun k hk e => by
                            rcases e with rfl | e
                            · exact HNP.out hk
                            · exact HNB.out k e hk))
                          have HO8' := Lib.hid hor8
                          clear hp17 hp18 hb7 ho8 hor8 hbb hgb hk18
                          go_upto_region 18 with (fail)
                          rw [← hw18]
                          clear hw18 m8 m9 lp17
                          have hnm : ¬ ((Value.slice al s.ac.length cl).ownBlock = some w.heap.size) ∧ ¬ ((Value.slice bl s.rs.length dl).ownBlock = some w.heap.size) ∧ ¬ w.heap.size = p := by
                            have hlt := H.out.lt
                            refine ⟨fun e => ?_, fun e => ?_, fun e => ?_⟩
                            · rw [E7.out] at e; have := (hlt _ (.inr (.inr (.inl e)))).2; omega
                            · rw [E8.out] at e; have := (hlt _ (.inr (.inr (.inr e)))).2; omega
                            · have := (hlt p (.inl rfl)).2; omega
                          have KM18 := Lib.hid ((HK18.out.block w.heap.size (blk_lt KMr.out) (fun e => by
                            rcases e with e | e
                            · exact hnm.2.2 e
                            · exact hnm.1 e)).trans KMr.out)
                          have HNM := Lib.hid hnm.2.1
                          have HOL2 := Lib.hid (show ∀ z, w18.heap.size ≤ z → ¬ ((Value.slice bl s.rs.length dl).ownBlock = some z) from fun z hz hc => by have := (HB18.out.lt z hc).2; omega)
                          have k7 : s.rs.length + 1 ≤ maxLen := by have := HSZ.out; unfold maxLen; omega
                          have k8 : (s.rs.length + 1) * 16 ≤ 140737488355328 := by have := HSZ.out; omega
                          have HGE18 := Lib.hid (Nat.le_trans HGE.out HK18.out.size)
                          clear hnm hwn k5 k6
                          refine wp_region_kept2 11 (fun z => (Value.slice bl s.rs.length dl).ownBlock = some z) 8 (resA B w18.heap.size p w.heap.size s.rs.length dl bl (Value.slice bl s.rs.length dl).ownBlock (ressV s.rs) rc rb) (fun _ _ => none) rfl (by kernel_rfl) (by kernel_rfl) (resA_stab HOL2.out) (fun _ _ _ _ _ h => by cases h) (fun i oo hi ho => ?_) (fun vs w19 hb7 hs hne => ?_)
                          · intro ac wa hba hbs hE hF K hK
                            have b7 := keep_undrew13 hba
                            have hno : ∀ k, (none : Option Nat) = some k → wa.heap.size ≤ k := fun _ h => by cases h
                            have KPa : wa.heap[p]? = _ := (b7.block p (blk_lt HP18.out) HNP.out).trans HP18.out
                            have z11 : wa.cell? ⟨p, 11, none⟩ = some (.slice bl s.rs.length dl) := by rw [blk_cell KPa]; rfl
                            have KMa : wa.heap[w.heap.size]? = _ := (b7.block _ (blk_lt KM18.out) HNM.out).trans KM18.out
                            have zm0 : wa.cell? ⟨w.heap.size, 10, none⟩ = some (.int .i64 rc) := by rw [blk_cell KMa]; rfl
                            have zm1 : wa.cell? ⟨w.heap.size, 11, none⟩ = some (.float .f64 rb) := by rw [blk_cell KMa]; rfl
                            have hi' : i = 0 ∨ i = 1 ∨ i = 2 ∨ i = 3 ∨ i = 4 ∨ i = 5 ∨ i = 6 ∨ i = 7 ∨ i = 8 ∨ i = 9 ∨ i = 10 := by omega
                            rcases hi' with rfl | rfl | rfl | rfl | rfl | rfl | rfl | rfl | rfl | rfl | rfl
                            · obtain rfl := Option.some.inj ho
                              have h1 : ac.eval (.tmp 0) = .pointer (some ⟨p, 0, none⟩) := hE 0 (by decide)
                              exact news_val rfl rfl (by generalize ac.eval = ρ at h1; simp only [execOp]; go_simp) (hK _ _ (fun _ => Below.refl _ _) (Keep.refl _ _) rfl hno)
                            · obtain rfl := Option.some.inj ho
                              have h1 : ac.eval (.tmp 0) = .pointer (some ⟨p, 0, none⟩) := hE 0 (by decide)
                              exact news_val rfl rfl (by generalize ac.eval = ρ at h1; simp only [execOp]; go_simp) (hK _ _ (fun _ => Below.refl _ _) (Keep.refl _ _) rfl hno)
                            · obtain rfl := Option.some.inj ho
                              have h1 : ac.eval (.tmp 134) = .pointer (some ⟨p, 0, none⟩) := hF ⟨1, .data⟩ (by simp) rfl 134 rfl
                              exact news_val rfl rfl (by generalize ac.eval = ρ at h1; simp only [execOp]; go_simp) (hK _ _ (fun _ => Below.refl _ _) (Keep.refl _ _) rfl hno)
                            · obtain rfl := Option.some.inj ho
                              have h1 : ac.eval (.tmp 135) = .pointer (some ⟨p, 0, none⟩) := hF ⟨2, .data⟩ (by simp) rfl 135 rfl
                              exact news_val rfl rfl (by generalize ac.eval = ρ at h1; simp only [execOp]; go_simp) (hK _ _ (fun _ => Below.refl _ _) (Keep.refl _ _) rfl hno)
                            · obtain rfl := Option.some.inj ho
                              have h1 : ac.eval (.tmp 136) = .pointer (some ⟨p, 11, none⟩) := hF ⟨3, .data⟩ (by simp) rfl 136 rfl
                              exact news_val rfl rfl (by generalize ac.eval = ρ at h1; simp only [execOp]; go_simp) (hK _ _ (fun _ => Below.refl _ _) (Keep.refl _ _) rfl hno)
                            · obtain rfl := Option.some.inj ho
                              have h1 : ac.eval (.tmp 5) = .pointer (some ⟨w.heap.size, 0, none⟩) := hE 5 (by decide)
                              exact news_val rfl rfl (by generalize ac.eval = ρ at h1; simp only [execOp]; go_simp) (hK _ _ (fun _ => Below.refl _ _) (Keep.refl _ _) rfl hno)
                            · obtain rfl := Option.some.inj ho
                              have h1 : ac.eval (.tmp 138) = .pointer (some ⟨w.heap.size, 10, none⟩) := hF ⟨5, .data⟩ (by simp) rfl 138 rfl
                              exact news_val rfl rfl (by generalize ac.eval = ρ at h1; simp only [execOp]; go_simp) (hK _ _ (fun _ => Below.refl _ _) (Keep.refl _ _) rfl hno)
                            · obtain rfl := Option.some.inj ho
                              have h1 : ac.eval (.tmp 139) = .agg #[.int .i64 rc, .float .f64 rb] := hF ⟨6, .data⟩ (by simp) rfl 139 rfl
                              exact news_val (w' := wa.alloc (.cells #[.int .i64 rc, .float .f64 rb] 45 (0, 0))) rfl rfl (by generalize ac.eval = ρ at h1; simp only [execOp]; go_simp) (hK _ _ (fun _ => below_alloc _ _) (Keep.of_below (below_alloc _ _)) ⟨wa.heap.size, rfl, b7.size, blk_alloc _ _⟩ hno)
                            · obtain rfl := Option.some.inj ho
                              have h1 : ac.eval (.tmp 137) = .slice bl s.rs.length dl := hF ⟨4, .data⟩ (by simp) rfl 137 rfl
                              obtain ⟨gb, h2, hgb, hbb⟩ : ∃ h, (ac.eval (.tmp 140)) = .slice (some ⟨h, 0, none⟩) 1 1 ∧ w18.heap.size ≤ h ∧ wa.heap[h]? = some (.cells #[.int .i64 rc, .float .f64 rb] 45 (0, 0)) := hF ⟨7, .data⟩ (by simp) rfl 140 rfl
                              refine wpOp_step rfl fun K' hK' => ?_
                              refine step_append_lies _ rfl (.tmp 137) (.tmp 140) 53 rfl B 45 i2 (.agg #[.int .i64 0, .float .f64 0]) 2 16 Try.underlying53 hi2 hs0 hs1 hs2 rfl (by decide) (.slice bl s.rs.length dl) s.rs.length (ressV s.rs) h1 (owns_old HB18.out (below_undrew (hbs (.inl rfl)))) ⟨gb, 0, none⟩ 1 1 [.int .i64 rc, .float .f64 rb] h2 rfl (World.news_of_block hbb) (by simp [Value.oneCell']) (by decide) k7 k8 (Nat.le_trans HGE18.out b7.size) _ rfl ?_
                              intro g cap w8 hown8 hg8 hor8 hlt8
                              exact hK' _ _ (hK _ _ (fun h => (h rfl).elim) ((Keep.refl _ wa).grown hg8 (fun k hk => .inr hk)) ⟨_, _, rfl, hown8, hor8.imp id (fun h => by have := b7.size; omega)⟩ hno)
                            · obtain rfl := Option.some.inj ho
                              have h1 : ac.eval (.tmp 133) = .pointer (some ⟨p, 0, none⟩) := hF ⟨0, .data⟩ (by simp) rfl 133 rfl
                              exact news_val rfl rfl (by generalize ac.eval = ρ at h1; simp only [execOp]; go_simp) (hK _ _ (fun _ => Below.refl _ _) (Keep.refl _ _) rfl hno)
                            · obtain rfl := Option.some.inj ho
                              have h1 : ac.eval (.tmp 142) = .pointer (some ⟨p, 0, none⟩) := hF ⟨9, .data⟩ (by simp) rfl 142 rfl
                              exact news_val rfl rfl (by generalize ac.eval = ρ at h1; simp only [execOp]; go_simp) (hK _ _ (fun _ => Below.refl _ _) (Keep.refl _ _) rfl hno)
                          · have e0 : vs 0 = _ := hs 0 (by omega)
                            have e1 : vs 1 = _ := hs 1 (by omega)
                            have e2 : vs 2 = _ := hs 2 (by omega)
                            have e3 : vs 3 = _ := hs 3 (by omega)
                            have e4 : vs 4 = _ := hs 4 (by omega)
                            have e5 : vs 5 = _ := hs 5 (by omega)
                            have e6 : vs 6 = _ := hs 6 (by omega)
                            obtain ⟨gb, e7, hgb, hbb⟩ : ∃ h, (vs 7) = .slice (some ⟨h, 0, none⟩) 1 1 ∧ w18.heap.size ≤ h ∧ w19.heap[h]? = some (.cells #[.int .i64 rc, .float .f64 rb] 45 (0, 0)) := hs 7 (by omega)
                            obtain ⟨g9, c9, e8, ho9, hor9⟩ : ∃ h e, (vs 8) = .slice (some ⟨h, 0, none⟩) (s.rs.length + 1) e ∧ w19.ownsRow B 45 2 (.slice (some ⟨h, 0, none⟩) (s.rs.length + 1) e) (s.rs.length + 1) ((ressV s.rs) ++ ([.int .i64 rc, .float .f64 rb] : List Value)) ∧ ((Value.slice bl s.rs.length dl).ownBlock = some h ∨ w18.heap.size ≤ h) := hs 8 (by omega)
                            have e9 : vs 9 = _ := hs 9 (by omega)
                            have e10 : vs 10 = _ := hs 10 (by omega)
                            show wpList _ _ _ _ (((((((((((Act.put _ (some 133) (vs 0)).put (some 134) (vs 1)).put (some 135) (vs 2)).put (some 136) (vs 3)).put (some 137) (vs 4)).put (some 138) (vs 5)).put (some 139) (vs 6)).put (some 140) (vs 7)).put (some 141) (vs 8)).put (some 142) (vs 9)).put (some 143) (vs 10)) _
                            rw [e0, e1, e2, e3, e4, e5, e6, e7, e8, e9, e10]
                            clear e0 e1 e2 e3 e4 e5 e6 e7 e8 e9 e10 hs hne vs
                            simp only [List.drop_succ_cons, List.drop_zero, List.drop_nil, Act.put, List.setIfInBounds_toArray, List.set_cons_succ, List.set_cons_zero]
                            have hp19 : w19.heap[p]? = _ := (hb7.block p (blk_lt HP18.out) HNP.out).trans HP18.out
                            have m8 : w19.cell? ⟨p, 11, none⟩ = some (.slice bl s.rs.length dl) := by rw [blk_cell hp19]; rfl
                            have m9 := blk_frozen hp19 11
                            have lp19 := blk_lt hp19
                            obtain ⟨w20, hw20⟩ : ∃ u, u = w19.setCell ⟨p, 11, none⟩ (.slice (some ⟨g9, 0, none⟩) (s.rs.length + 1) c9) := ⟨_, rfl⟩
                            have hp20 := blk_set hp19 11 (.slice (some ⟨g9, 0, none⟩) (s.rs.length + 1) c9)
                            rw [← hw20] at hp20
                            simp only [List.setIfInBounds_toArray, List.set_cons_succ, List.set_cons_zero] at hp20
                            have hne9 : ¬ g9 = p := fun e => by
                              subst e
                              rcases hor9 with h | h
                              · exact HNP.out h
                              · have := blk_lt HP18.out; omega
                            have hk20 : Keep (fun k => k = p ∨ (Value.slice bl s.rs.length dl).ownBlock = some k) w18 w20 := by
                              rw [hw20]
                              exact (keep_sub hb7 (fun k hk => .inr hk)).trans (keep_set1 w19 p 11 _) (fun k _ hk => .inl hk)
                            have hgg : ∀ k, (Value.slice (some ⟨g8, 0, none⟩) (s.ac.length + 1) c8).ownBlock = some k → g8 = k := fun k hk => by have hk : some g8 = some k := hk; injection hk
                            have hgh : ∀ k, (Value.slice (some ⟨g9, 0, none⟩) (s.rs.length + 1) c9).ownBlock = some k → g9 = k := fun k hk => by have hk : some g9 = some k := hk; injection hk
                            have hg8n : ¬ ((Value.slice bl s.rs.length dl).ownBlock = some g8) := fun e => by
                              rcases HO8'.out with h | h
                              · exact HNB.out g8 h e
                              · have := (H8.out.lt g8 e).2; omega
                            have hg8l : g8 < w18.heap.size := (HA18.out.lt g8 rfl).2
                            have hg89 : ¬ g8 = g9 := fun e => by
                              subst e
                              rcases hor9 with h | h
                              · exact hg8n h
                              · omega
                            obtain ⟨w21, hw21⟩ : ∃ u, u = (((((w20.setCell ⟨p, 3, none⟩ (.int .i64 0)).setCell ⟨p, 4, none⟩ (.int .i64 0)).setCell ⟨p, 5, none⟩ (.int .i64 0)).setCell ⟨p, 6, none⟩ (.string ⟨#[]⟩)).setCell ⟨p, 7, none⟩ (.float .f64 0)).setCell ⟨p, 8, none⟩ (.int .i64 0) := ⟨_, rfl⟩
                            have hp21 := (blk_set (blk_set (blk_set (blk_set (blk_set (blk_set hp20 3 (.int .i64 0)) 4 (.int .i64 0)) 5 (.int .i64 0)) 6 (.string ⟨#[]⟩)) 7 (.float .f64 0)) 8 (.int .i64 0))
                            rw [← hw21] at hp21
                            simp only [List.setIfInBounds_toArray, List.set_cons_succ, List.set_cons_zero] at hp21
                            have hk21 : Keep (fun k => k = p) w20 w21 := by
                              rw [hw21]
                              exact (((((keep_set1 w20 p 3 (.int .i64 0)).set (.inr rfl) 4 (.int .i64 0)).set (.inr rfl) 5 (.int .i64 0)).set (.inr rfl) 6 (.string ⟨#[]⟩)).set (.inr rfl) 7 (.float .f64 0)).set (.inr rfl) 8 (.int .i64 0)
                            have hfin : CliAt X w21 B p t oc os om (some g8) (some g9) s' := by
                              rw [HX.out]
                              have hkf : Keep (fun k => k = p ∨ oa = some k ∨ ob = some k) wr w21 := by
                                refine (((keep_sub HK18.out (fun k hk => ?_)).trans hk20 (fun k _ hk => ?_))).trans hk21 (fun k _ hk => .inl hk)
                                · rcases hk with hk | hk
                                  · exact .inl hk
                                  · exact .inr (.inl (by rw [← E7.out]; exact hk))
                                · rcases hk with hk | hk
                                  · exact .inl hk
                                  · exact .inr (.inr (by rw [← E8.out]; exact hk))
                              refine HA.out.taken (show decide (0 < s.q.c) = true from HW.out.symm) hkf (by rw [hom]; exact hp21) ?_ rfl ?_ rfl (fun k hk => ?_) (fun k hk => ?_) (fun k hk hc => ?_)
                              · exact owns_keep (owns_keep HA18.out hk20 (fun k hk e => by
                                  have := hgg k hk
                                  subst this
                                  rcases e with e | e
                                  · exact hne8 e
                                  · exact hg8n e)) hk21 (fun k hk e => hne8 ((hgg k hk).trans e))
                              · show w21.ownsRow B 45 2 _ (s.rs.length + 1) (ressV (s.rs ++ [(rc, rb)]))
                                rw [HXR.out]
                                refine owns_keep (X := fun k => k = p) ho9 ?_ (fun k hk e => hne9 ((hgh k hk).trans e))
                                rw [hw20] at hk21
                                exact (keep_set1 w19 p 11 _).trans hk21 (fun k _ hk => hk)
                              · injection hk with hk
                                subst hk
                                rcases HO8'.out with h | h
                                · exact .inl (by rw [← E7.out]; exact h)
                                · exact .inr h
                              · injection hk with hk
                                subst hk
                                rcases hor9 with h | h
                                · exact .inl (by rw [← E8.out]; exact h)
                                · exact .inr (by have := HK18.out.size; omega)
                              · injection hk with hk
                                injection hc with hc
                                exact hg89 (hk.trans hc.symm)
                            have HKW := Lib.hid (show Keep Z w w21 from by
                              have hz := HZ.out
                              refine (((keep_sub HK8.out (fun k hk => ?_)).trans (Keep.of_below (X := Z) Hb.out) (fun _ _ h => h)).trans (keep_sub HK18.out (fun k hk => ?_)) (fun _ _ h => h)).trans ((keep_sub hk20 (fun k hk => ?_)).trans (keep_sub hk21 (fun k hk => ?_)) (fun _ _ h => h)) (fun _ _ h => h)
                              · subst hk; exact (hz _).2 (.inl (.inr (.inl hom)))
                              · rcases hk with rfl | hk
                                · exact (hz _).2 (.inl (.inl rfl))
                                · exact (hz _).2 (.inl (.inr (.inr (.inl (by rw [← E7.out]; exact hk)))))
                              · rcases hk with rfl | hk
                                · exact (hz _).2 (.inl (.inl rfl))
                                · exact (hz _).2 (.inl (.inr (.inr (.inr (by rw [← E8.out]; exact hk)))))
                              · subst hk; exact (hz _).2 (.inl (.inl rfl)))
                            have HPOST := Lib.hid (show ReplyPost Z B p s s' w (.returned (.tuple #[])) w21 from by
                              have hz := HZ.out
                              have hsz := HK8.out.size
                              have hsz2 := Hb.out.size
                              refine ⟨rfl, HKW.out, _, ?_, ⟨_, _, _, _, _, _, _, hfin, fun k => Iff.rfl⟩⟩
                              rintro k ((hk | hk | hk | hk) | hk)
                              · exact .inl ((hz _).2 (.inl (.inl hk)))
                              · exact .inl ((hz _).2 (.inl (.inr (.inl hk))))
                              · injection hk with hk
                                subst hk
                                rcases HO8'.out with h | h
                                · exact .inl ((hz _).2 (.inl (.inr (.inr (.inl (by rw [← E7.out]; exact h))))))
                                · exact .inr (by omega)
                              · injection hk with hk
                                subst hk
                                rcases hor9 with h | h
                                · exact .inl ((hz _).2 (.inl (.inr (.inr (.inr (by rw [← E8.out]; exact h))))))
                                · exact .inr (by have := HK18.out.size; omega)
                              · exact .inl ((hz _).2 (.inr hk)))
                            have HP20 := Lib.hid hp20
                            have HW21 := Lib.hid hw21
                            clear hfin hp19 hp20 hp21 hk20 hk21 hgg hgh hg8n hg8l hg89 hne8 hne9 hb7 ho9 hor9 hw21 hbb hgb k7 k8
                            go_upto_region 19 with (fail)
                            rw [← hw20]
                            clear hw20 m8 m9 lp19
                            have y3 : w20.cell? ⟨p, 3, none⟩ = some (.int .i64 s.q.c) := by rw [blk_cell HP20.out]; rfl
                            have y4 : w20.cell? ⟨p, 4, none⟩ = some (.int .i64 s.q.s) := by rw [blk_cell HP20.out]; rfl
                            have y5 : w20.cell? ⟨p, 5, none⟩ = some (.int .i64 s.q.kind) := by rw [blk_cell HP20.out]; rfl
                            have y6 : w20.cell? ⟨p, 6, none⟩ = some (.string s.q.key) := by rw [blk_cell HP20.out]; rfl
                            have y7 : w20.cell? ⟨p, 7, none⟩ = some (.float .f64 s.q.b) := by rw [blk_cell HP20.out]; rfl
                            have y8 : w20.cell? ⟨p, 8, none⟩ = some (.int .i64 s.q.id) := by rw [blk_cell HP20.out]; rfl
                            have yf : ∀ o, w20.frozen? ⟨p, o, none⟩ = false := fun o => blk_frozen HP20.out o
                            go_wp2_with fail
                            go_end0
                            rw [← HW21.out]
                            exact HPOST.out
                      · have hdg : decide (wk ≤ (ak : Int)) = false := decide_eq_false hge
                        have HX := Lib.hid (show s' = cameS s fr ep T by rw [HS.out, if_neg hge])
                        go_wp2_with fail
                        refine (CWk.out _).mono ?_
                        rintro r w10 ⟨rfl, rfl⟩
                        go_wp2_with fail
                        go_end0
                        rw [HX.out]
                        refine ⟨rfl, ?_, Z, fun k hk => .inl hk, ⟨_, _, _, _, _, _, _, H2.out.old Hb.out, HZ.out⟩⟩
                        exact (keep_sub HK8.out (fun k hk => by subst hk; exact (HZ.out _).2 (.inl (.inr (.inl hom))))).trans (Keep.of_below (X := Z) Hb.out) (fun _ _ h => h)
end Go.Proofs.Ytijeieamodjgbab
