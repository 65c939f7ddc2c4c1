
/- The client: anew. -/
import Derived.Test.YtijeieamodjgbabCt

namespace Go.Proofs.Ytijeieamodjgbab
set_option maxRecDepth 100000
open Go.RowKit Go.Maps Go.Deep
set_option linter.unusedVariables false
set_option linter.unusedSimpArgs false
attribute [local go_sem] run_store_float

def anewMs (c s kind : Int) (key : ByteArray) (b : Nat) (qi : Int) (h : Nat) : List Value := [.int .i64 1, .int .i64 0, .int .i64 0, .int .i64 0, .int .i64 c, .int .i64 s, .int .i64 kind, .string key, .float .f64 b, .int .i64 qi, .int .i64 0, .float .f64 0, .string ⟨#[]⟩, .slice none 0 0, .slice (some ⟨h, 0, none⟩) 1 1, .slice none 0 0, .slice none 0 0]
def anewA (p : Nat) (id c s kind : Int) (key : ByteArray) (b : Nat) (qi : Int) (T : ByteArray) : Nat → World → Value → Prop
  | 0 => fun _ v => v = .pointer (some ⟨p, 0, none⟩)
  | 1 => fun _ v => v = .pointer (some ⟨p, 0, none⟩)
  | 2 => fun _ v => v = .pointer (some ⟨p, 0, none⟩)
  | 3 => fun _ v => v = .pointer (some ⟨p, 3, none⟩)
  | 4 => fun _ v => v = .agg #[.int .i64 c, .int .i64 s, .int .i64 kind, .string key, .float .f64 b, .int .i64 qi]
  | 5 => fun _ v => v = .pointer (some ⟨p, 0, none⟩)
  | 6 => fun w v => v = .int .i64 (100 + id)
  | 7 => fun _ v => v = .string T
  | 8 => fun _ v => v = .agg #[.int .i64 (100 + id), .string T]
  | 9 => fun w v => ∃ h, v = .slice (some ⟨h, 0, none⟩) 1 1
  | 10 => fun w v => ∃ h, v = .agg (anewMs c s kind key b qi h).toArray
  | _ => fun _ _ => False
theorem anewA_stab {p : Nat} {id c s kind : Int} {key : ByteArray} {b : Nat} {qi : Int} {T : ByteArray} : ∀ i w w' v, anewA p id c s kind key b qi T i w v → Below w.heap.size w w' → anewA p id c s kind key b qi T i w' v
  | 0, w, w', v, h, hb => h
  | 1, w, w', v, h, hb => h
  | 2, w, w', v, h, hb => h
  | 3, w, w', v, h, hb => h
  | 4, w, w', v, h, hb => h
  | 5, w, w', v, h, hb => h
  | 6, w, w', v, h, hb => h
  | 7, w, w', v, h, hb => h
  | 8, w, w', v, h, hb => h
  | 9, w, w', v, ⟨h, h1⟩, hb => ⟨h, h1⟩
  | 10, w, w', v, ⟨h, h1⟩, hb => ⟨h, h1⟩
  | _ + 11, w, w', v, h, hb => h
/-- Packets to all of l in new memory. -/
def TellPost (l : List Int) (w : World) (r : Ending) (w' : World) : Prop :=
  ∃ a c xs, r = .returned (.slice a l.length c) ∧ w'.ownsRow w.heap.size 134 19 (.slice a l.length c) l.length xs ∧ Below w.heap.size w w'
set_option maxHeartbeats 4000000 in
theorem anew_any {X : Nat → Prop} {B p t : Nat} {oc os om oa ob : Option Nat} {s : Cst} (w : World) (h : CliAt X w B p t oc os om oa ob s) (e : Int) (l : List Int) (hl : (s.c0 :: s.cs)[s.ss.length]? = some (e, l)) :
    Calls Try.prog 32 #[.pointer (some ⟨p, 0, none⟩)] w (TellPost l w) := by
  obtain ⟨va, vb, hp, -⟩ := h.ex
  have CQ := Lib.hid (text_rq s.q h.q w)
  have CN := Lib.hid (fun (wa : World) (hb : Below w.heap.size w wa) => node_any wa (h.old hb))
  have CT := Lib.hid (fun (wa : World) (hb : Below w.heap.size w wa) (ms : List Value) (h1 : ms.length = 17) (h2 : ∀ u ∈ ms, u.oneCell' = true) => tell_any wa (h.old hb) ms h1 h2 e l hl)
  generalize s.q.text = T at *
  generalize s.q.err = E at *
  generalize s.id = id at *
  generalize s.st = st at *
  generalize s.q = q at *
  obtain ⟨c, s, kind, key, b, qi⟩ := q
  dsimp only [Rq.v] at *
  have p3 : w.cell? ⟨p, 3, none⟩ = some (.int .i64 c) := by rw [blk_cell hp]; rfl
  have p4 : w.cell? ⟨p, 4, none⟩ = some (.int .i64 s) := by rw [blk_cell hp]; rfl
  have p5 : w.cell? ⟨p, 5, none⟩ = some (.int .i64 kind) := by rw [blk_cell hp]; rfl
  have p6 : w.cell? ⟨p, 6, none⟩ = some (.string key) := by rw [blk_cell hp]; rfl
  have p7 : w.cell? ⟨p, 7, none⟩ = some (.float .f64 b) := by rw [blk_cell hp]; rfl
  have p8 : w.cell? ⟨p, 8, none⟩ = some (.int .i64 qi) := by rw [blk_cell hp]; rfl
  have HP := Lib.hid hp
  clear h hl hp
  go_enter Try.func32, Try.ntmps32
  go_wp2_with fail
  refine CQ.out.mono ?_
  rintro r w6 ⟨rfl, hb6⟩
  have B6 := Lib.hid hb6
  have HP6 := Lib.hid (blk_below HP.out hb6)
  clear p3 p4 p5 p6 p7 p8 hb6
  go_upto_region 2 with (fail)
  refine wp_region_made 11 (anewA p id c s kind key b qi T) (fun _ _ => none) rfl (by kernel_rfl) (by kernel_rfl) anewA_stab (fun _ _ _ _ _ h => by cases h) (fun i oo hi ho => ?_) (fun vs w7 hb7 hs hne => ?_)
  · intro ac wa hba hE hF K hK
    have b7 := below_undrew hba
    have hno : ∀ k, (none : Option Nat) = some k → wa.heap.size ≤ k := fun _ h => by cases h
    have KPa := blk_below HP6.out b7
    have z0 : wa.cell? ⟨p, 3, none⟩ = some (.int .i64 c) := by rw [blk_cell KPa]; rfl
    have z1 : wa.cell? ⟨p, 4, none⟩ = some (.int .i64 s) := by rw [blk_cell KPa]; rfl
    have z2 : wa.cell? ⟨p, 5, none⟩ = some (.int .i64 kind) := by rw [blk_cell KPa]; rfl
    have z3 : wa.cell? ⟨p, 6, none⟩ = some (.string key) := by rw [blk_cell KPa]; rfl
    have z4 : wa.cell? ⟨p, 7, none⟩ = some (.float .f64 b) := by rw [blk_cell KPa]; rfl
    have z5 : wa.cell? ⟨p, 8, none⟩ = some (.int .i64 qi) := by rw [blk_cell KPa]; rfl
    have hi' : i = 0 ∨ i = 1 ∨ i = 2 ∨ i = 3 ∨ i = 4 ∨ i = 5 ∨ i = 6 ∨ i = 7 ∨ i = 8 ∨ i = 9 ∨ i = 10 := by omega
    rcases hi' with rfl | rfl | rfl | rfl | rfl | rfl | rfl | rfl | rfl | rfl | rfl
    · obtain rfl := Option.some.inj ho
      have h1 : ac.eval (.tmp 0) = .pointer (some ⟨p, 0, none⟩) := hE 0 (by decide)
      exact news_val rfl rfl (by generalize ac.eval = ρ at h1; simp only [execOp]; go_simp) (hK _ _ (Below.refl _ _) rfl hno)
    · obtain rfl := Option.some.inj ho
      have h1 : ac.eval (.tmp 0) = .pointer (some ⟨p, 0, none⟩) := hE 0 (by decide)
      exact news_val rfl rfl (by generalize ac.eval = ρ at h1; simp only [execOp]; go_simp) (hK _ _ (Below.refl _ _) rfl hno)
    · obtain rfl := Option.some.inj ho
      have h1 : ac.eval (.tmp 14) = .pointer (some ⟨p, 0, none⟩) := hF ⟨1, .data⟩ (by simp) rfl 14 rfl
      exact news_val rfl rfl (by generalize ac.eval = ρ at h1; simp only [execOp]; go_simp) (hK _ _ (Below.refl _ _) rfl hno)
    · obtain rfl := Option.some.inj ho
      have h1 : ac.eval (.tmp 15) = .pointer (some ⟨p, 0, none⟩) := hF ⟨2, .data⟩ (by simp) rfl 15 rfl
      exact news_val rfl rfl (by generalize ac.eval = ρ at h1; simp only [execOp]; go_simp) (hK _ _ (Below.refl _ _) rfl hno)
    · obtain rfl := Option.some.inj ho
      have h1 : ac.eval (.tmp 16) = .pointer (some ⟨p, 3, none⟩) := hF ⟨3, .data⟩ (by simp) rfl 16 rfl
      exact news_val rfl rfl (by generalize ac.eval = ρ at h1; simp only [execOp]; go_simp) (hK _ _ (Below.refl _ _) rfl hno)
    · obtain rfl := Option.some.inj ho
      have h1 : ac.eval (.tmp 0) = .pointer (some ⟨p, 0, none⟩) := hE 0 (by decide)
      exact news_val rfl rfl (by generalize ac.eval = ρ at h1; simp only [execOp]; go_simp) (hK _ _ (Below.refl _ _) rfl hno)
    · obtain rfl := Option.some.inj ho
      have h1 : ac.eval (.tmp 18) = .pointer (some ⟨p, 0, none⟩) := hF ⟨5, .data⟩ (by simp) rfl 18 rfl
      have hf : ac.eval (.func 53) = .func (.func 53) #[] #[] := rfl
      refine made_call rfl rfl 53 #[.pointer (some ⟨p, 0, none⟩)] (by generalize ac.eval = ρ at h1 hf; simp only [execOp]; go_simp) (CN.out wa (bthen B6.out b7)) ?_
      rintro r w8 ⟨rfl, rfl⟩
      exact ⟨_, rfl, hK _ _ (Below.refl _ _) rfl hno⟩
    · obtain rfl := Option.some.inj ho
      have h1 : ac.eval (.tmp 3) = .string T := hE 3 (by decide)
      exact news_val rfl rfl (by generalize ac.eval = ρ at h1; simp only [execOp]; go_simp) (hK _ _ (Below.refl _ _) rfl hno)
    · obtain rfl := Option.some.inj ho
      obtain h1 : (ac.eval (.tmp 19)) = .int .i64 (100 + id) := hF ⟨6, .data⟩ (by simp) rfl 19 rfl
      have h2 : ac.eval (.tmp 20) = .string T := hF ⟨7, .data⟩ (by simp) rfl 20 rfl
      exact news_val rfl rfl (by generalize ac.eval = ρ at h1 h2; simp only [execOp]; go_simp) (hK _ _ (Below.refl _ _) rfl hno)
    · obtain rfl := Option.some.inj ho
      have h1 : ac.eval (.tmp 21) = .agg #[.int .i64 (100 + id), .string T] := hF ⟨8, .data⟩ (by simp) rfl 21 rfl
      exact news_val (w' := wa.alloc (.cells #[.int .i64 (100 + id), .string T] 108 (0, 0))) rfl rfl (by generalize ac.eval = ρ at h1; simp only [execOp]; go_simp) (hK _ _ (below_alloc _ _) ⟨wa.heap.size, rfl⟩ hno)
    · obtain rfl := Option.some.inj ho
      have h1 : ac.eval (.tmp 17) = .agg #[.int .i64 c, .int .i64 s, .int .i64 kind, .string key, .float .f64 b, .int .i64 qi] := hF ⟨4, .data⟩ (by simp) rfl 17 rfl
      obtain ⟨g8, h2⟩ : ∃ h, (ac.eval (.tmp 22)) = .slice (some ⟨h, 0, none⟩) 1 1 := hF ⟨9, .data⟩ (by simp) rfl 22 rfl
      have h3 : ac.eval (.const (.int .i64 1)) = .int .i64 1 := rfl
      exact news_val rfl rfl (by unfold anewMs; generalize ac.eval = ρ at h1 h2 h3; simp only [execOp]; go_simp) (hK _ _ (Below.refl _ _) ⟨g8, rfl⟩ hno)
  · have e0 : vs 0 = _ := hs 0 (by omega)
    have e1 : vs 1 = _ := hs 1 (by omega)
    have e2 : vs 2 = _ := hs 2 (by omega)
    have e3 : vs 3 = _ := hs 3 (by omega)
    have e4 : vs 4 = _ := hs 4 (by omega)
    have e5 : vs 5 = _ := hs 5 (by omega)
    obtain e6 : (vs 6) = .int .i64 (100 + id) := hs 6 (by omega)
    have e7 : vs 7 = _ := hs 7 (by omega)
    have e8 : vs 8 = _ := hs 8 (by omega)
    obtain ⟨g8, e9⟩ : ∃ h, (vs 9) = .slice (some ⟨h, 0, none⟩) 1 1 := hs 9 (by omega)
    obtain ⟨g9, e10⟩ : ∃ h, (vs 10) = .agg (anewMs c s kind key b qi h).toArray := hs 10 (by omega)
    show wpList _ _ _ _ (((((((((((Act.put _ (some 13) (vs 0)).put (some 14) (vs 1)).put (some 15) (vs 2)).put (some 16) (vs 3)).put (some 17) (vs 4)).put (some 18) (vs 5)).put (some 19) (vs 6)).put (some 20) (vs 7)).put (some 21) (vs 8)).put (some 22) (vs 9)).put (some 23) (vs 10)) _
    rw [e0, e1, e2, e3, e4, e5, e6, e7, e8, e9, e10]
    clear e0 e1 e2 e3 e4 e5 e6 e7 e8 e9 e10 hs hne vs
    simp only [List.drop_succ_cons, List.drop_zero, Act.put, List.setIfInBounds_toArray, List.set_cons_succ, List.set_cons_zero]
    have CTT := Lib.hid (CT.out w7 (bthen B6.out hb7) (anewMs c s kind key b qi g9) rfl (by unfold anewMs; simp [Value.oneCell']))
    have B7 := Lib.hid (bthen B6.out hb7)
    clear hb7 CT CN CQ
    generalize anewMs c s kind key b qi g9 = ms at *
    go_wp2_with fail
    refine CTT.out.mono ?_
    rintro r w9 ⟨a9, c9, rfl, ho9, hb9⟩
    have HO9 := Lib.hid (owns_lower ho9 B7.out.size)
    have B9 := Lib.hid (bthen B7.out hb9)
    clear ho9 hb9
    go_wp2_with fail
    go_ret
    exact ⟨a9, c9, _, rfl, HO9.out, B9.out⟩
end Go.Proofs.Ytijeieamodjgbab
