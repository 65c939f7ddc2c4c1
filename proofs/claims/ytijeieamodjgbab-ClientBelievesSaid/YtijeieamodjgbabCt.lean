
/- The client: tell, anew. -/
import Derived.Test.YtijeieamodjgbabCi
import Derived.Test.YtijeieamodjgbabLg

namespace Go.Proofs.Ytijeieamodjgbab
set_option maxRecDepth 100000
open Go.RowKit Go.Maps Go.Deep
set_option linter.unusedVariables false
set_option linter.unusedSimpArgs false
attribute [local go_sem] run_store_float

/-- What is known is known. -/
theorem at_known {X : Nat → Prop} {B p : Nat} {oc os : Option Nat} {cs : List Cf} {ss : List (List Sg)} (w : World) (h : Trk X w B p oc os cs ss) (hcl : cs.length ≤ 1000) (hsl : ss.length ≤ 1000) {k : Nat} {e : Int} {l : List Int} (hk : cs[k]? = some (e, l)) :
    Calls Try.prog 65 #[.pointer (some ⟨p, 0, none⟩), .int .i64 (k : Int)] w fun r w' => Below w.heap.size w w' ∧ ∃ a c, r = .returned (.tuple #[.agg #[.int .i64 e, .slice a l.length c], .bool true]) ∧ w'.ownsRow w.heap.size 3 1 (.slice a l.length c) l.length (intsV l) := by
  refine (at_any X B p oc os cs ss (k : Int) w h hcl hsl).mono ?_
  rintro r w' ⟨hb, hh⟩
  refine ⟨hb, ?_⟩
  rcases hh with ⟨k', e', l', a, n, c, hx, hc, rfl, ho, hl, -⟩ | ⟨hx, -⟩
  · have : k = k' := by exact_mod_cast hx
    subst this
    rw [hk] at hc
    obtain ⟨rfl, rfl⟩ : e = e' ∧ l = l' := by simpa using hc
    subst hl
    exact ⟨a, c, rfl, ho⟩
  · have := (List.getElem?_eq_some_iff.1 hk).1
    omega
theorem build_pkt (ρ : Operand → Value) (o : Oper) (x y z : Operand) (ho : o.op = .build 134 #[(0, x), (1, y), (2, z)]) {ms : List Value} {i j : Int} (hcl : ms.length = 17) (hx : ρ x = .int .i64 i) (hy : ρ y = .int .i64 j) (hz : ρ z = .agg ms.toArray) (w : World) :
    (execOp ρ o).run Try.prog w = .ok (.value (.agg (.int .i64 i :: .int .i64 j :: ms).toArray)) w := by
  match ms, hcl with
  | [c0, c1, c2, c3, c4, c5, c6, c7, c8, c9, c10, c11, c12, c13, c14, c15, c16], _ =>
    simp only [execOp, ho]
    go_simp
theorem bdrew {w0 w : World} (h : Below w0.heap.size w0 w) : Below w0.heap.size w0 w.drew := ⟨h.os, h.tape, h.output, h.size, h.block⟩
theorem conf_end {w6 w : World} {e : Int} {l : List Int} {B cb c7 : Nat} {a7 : Option Addr} (hk : w.heap[cb]? = some (.cells #[.int .i64 e, .slice a7 l.length c7] 24 (0, 0))) (ho : w.ownsRow B 3 1 (.slice a7 l.length c7) l.length (intsV l)) (hf : ∀ x ∈ l, i64 x) (hby : l.length * 8 ≤ 140737488355328) (hb : Below w6.heap.size w6 w) :
    ∃ cb' a7' c7', (Value.pointer (some ⟨cb, 0, none⟩)) = .pointer (some ⟨cb', 0, none⟩) ∧ w.heap[cb']? = some (.cells #[.int .i64 e, .slice a7' l.length c7'] 24 (0, 0)) ∧ SlAt Sh.int w a7' l.length c7' l ∧ Below w6.heap.size w6 w :=
  ⟨cb, a7, c7, rfl, hk, ints_row ho rfl hf hby, hb⟩
/-- The packets to all of l. -/
def tellV (id : Int) (l : List Int) (ms : List Value) : List Value := l.flatMap fun x => .int .i64 id :: .int .i64 x :: ms
def tellB (p k cv mb : Nat) (av : Option Addr) (id x : Int) (ms : List Value) : Nat → World → Value → Prop
  | 0 => fun _ v => v = .slice av k cv
  | 1 => fun _ v => v = .pointer (some ⟨p, 0, none⟩)
  | 2 => fun w v => v = .int .i64 (100 + id)
  | 3 => fun _ v => v = .int .i64 x
  | 4 => fun w v => v = .agg ms.toArray
  | 5 => fun w v => v = .agg (.int .i64 (100 + id) :: .int .i64 x :: ms).toArray
  | 6 => fun w v => ∃ h, v = .slice (some ⟨h, 0, none⟩) 1 1 ∧ w.heap[h]? = some (.cells (.int .i64 (100 + id) :: .int .i64 x :: ms).toArray 134 (0, 0))
  | _ => fun _ _ => False
theorem tellB_stab {p k cv mb : Nat} {av : Option Addr} {id x : Int} {ms : List Value} : ∀ i w w' v, tellB p k cv mb av id x ms i w v → Below w.heap.size w w' → tellB p k cv mb av id x ms i w' v
  | 0, w, w', v, h, hb => h
  | 1, w, w', v, h, hb => h
  | 2, w, w', v, h, hb => h
  | 3, w, w', v, h, hb => h
  | 4, w, w', v, h, hb => h
  | 5, w, w', v, h, hb => h
  | 6, w, w', v, ⟨h, h1, h2⟩, hb => ⟨h, h1, blk_below h2 hb⟩
  | _ + 7, w, w', v, h, hb => h
set_option maxHeartbeats 4000000 in
theorem tell_any {X : Nat → Prop} {B p t : Nat} {oc os om oa ob : Option Nat} {s : Cst} (w : World) (h : CliAt X w B p t oc os om oa ob s) (ms : List Value) (hml : ms.length = 17) (hm1 : ∀ u ∈ ms, u.oneCell' = true) (e : Int) (l : List Int) (hl : (s.c0 :: s.cs)[s.ss.length]? = some (e, l)) :
    Calls Try.prog 37 #[.pointer (some ⟨p, 0, none⟩), .agg ms.toArray] w fun r w' => ∃ a c, r = .returned (.slice a l.length c) ∧ w'.ownsRow w.heap.size 134 19 (.slice a l.length c) l.length (tellV (100 + s.id) l ms) ∧ Below w.heap.size w w' := by
  obtain ⟨ii, hii, hz0, hz1, hz2⟩ := info_parts info_pk
  have hr := (rightB_rising (h.right _ (List.mem_of_getElem? hl))).2.2
  have hln : l.length ≤ 10 := (risingB_len hr).2
  have hlr : ∀ x ∈ l, 0 ≤ x ∧ x < 16 := risingB_range hr
  obtain ⟨va, vb, hp, -⟩ := h.ex
  have hns := h.l64
  have hcs := h.len
  generalize hns' : s.ss.length = ns at *
  have HP0 := Lib.hid hp
  obtain ⟨w6, hw6⟩ : ∃ w6, w6 = w.alloc (.cells ms.toArray 50 (0, 0)) := ⟨_, rfl⟩
  have hb6 : Below w.heap.size w w6 := by rw [hw6]; exact below_alloc _ _
  have kM : w6.heap[w.heap.size]? = some (.cells ms.toArray 50 (0, 0)) := by rw [hw6]; exact blk_alloc _ _
  have HP := Lib.hid (blk_below hp hb6)
  have B6 := Lib.hid hb6
  have CE := Lib.hid (fun (wa : World) (hb : Below w6.heap.size w6 wa) => epoch_any X B t oc os (s.c0 :: s.cs) s.ss wa (h.old (bthen hb6 hb)).trk (by simp; omega) (by omega))
  have CA := Lib.hid (fun (wa : World) (hb : Below w6.heap.size w6 wa) => at_known wa (h.old (bthen hb6 hb)).trk (by simp; omega) (by omega) hl)
  have CN := Lib.hid (fun (wa : World) (hb : Below w6.heap.size w6 wa) => node_any wa (h.old (bthen hb6 hb)))
  rw [hns'] at CE
  have HML := Lib.hid hml; have HM1 := Lib.hid hm1; have KM := Lib.hid kM
  generalize hid : s.id = id at *
  clear h hl hr hp hb6 kM
  go_enter Try.func37, Try.ntmps37
  go_upto_region 1 with (fail)
  rw [← hw6]
  clear hw6
  have p1 : w6.cell? ⟨p, 1, none⟩ = some (.pointer (some ⟨t, 0, none⟩)) := by rw [blk_cell HP.out]; rfl
  have q1 : (w6.alloc (.cells #[.int .i64 0, .slice none 0 0] 24)).cell? ⟨p, 1, none⟩ = some (.pointer (some ⟨t, 0, none⟩)) := below_cell (below_alloc _ _) p1
  go_cut [5, 6] (fun v5 v6 wc => Hid (∃ cb a7 c7, v5 = .pointer (some ⟨cb, 0, none⟩) ∧ wc.heap[cb]? = some (.cells #[.int .i64 e, .slice a7 l.length c7] 24 (0, 0)) ∧ SlAt Sh.int wc a7 l.length c7 l ∧ Below w6.heap.size w6 wc))
  case first =>
    go_region_law (first | (refine step_at 38 rfl ?_; refine step_calls rfl 38 #[.pointer (some ⟨t, 0, none⟩)] (by go_simp) (CE.out _ (by first | exact bdrew (Below.refl _ _) | exact bdrew (below_alloc _ _) | exact bthen (bdrew (Below.refl _ _)) (below_alloc _ _))) ?_; rintro r w8 ⟨rfl, rfl⟩; refine ⟨_, rfl, ?_⟩) | (refine step_at 65 rfl ?_; refine step_calls rfl 65 #[.pointer (some ⟨t, 0, none⟩), .int .i64 (ns : Int)] (by go_simp) (CA.out _ (by first | exact bdrew (Below.refl _ _) | exact bdrew (below_alloc _ _) | exact bthen (bdrew (Below.refl _ _)) (below_alloc _ _))) ?_; rintro r w8 ⟨b8, a7, c7, rfl, ho7⟩; refine ⟨_, rfl, ?_⟩; have hb68 : Below w6.heap.size w6 w8 := (by first | exact bthen (bdrew (Below.refl _ _)) b8 | exact bthen (bdrew (below_alloc _ _)) b8 | exact bthen (bthen (bdrew (Below.refl _ _)) (below_alloc _ _)) b8); (first | (have kk : w8.heap[w6.heap.size]? = some (.cells #[.int .i64 0, .slice none 0 0] 24 (0, 0)) := (by rw [b8.block _ (by simp)]; exact blk_alloc _ _); have m0 : w8.cell? ⟨w6.heap.size, 0, none⟩ = some (.int .i64 0) := (by rw [blk_cell kk]; rfl); have m1 : w8.cell? ⟨w6.heap.size, 1, none⟩ = some (.slice none 0 0) := (by rw [blk_cell kk]; rfl); have mf : ∀ o, w8.frozen? ⟨w6.heap.size, o, none⟩ = false := (fun o => blk_frozen kk o)) | skip)))
    all_goals
      have hfit : ∀ x ∈ l, i64 x := fun x hx => by have := hlr x hx; unfold i64; omega
      have hby : l.length * 8 ≤ 140737488355328 := by omega
      first
        | (have G := Lib.hid (conf_end (e := e) (w := w8.alloc (.cells #[.int .i64 e, .slice a7 l.length c7] 24)) (cb := w8.heap.size) (blk_alloc _ _) (owns_old ho7 (below_alloc _ _)) hfit hby (bthen hb68 (below_alloc _ _)))
           clear hb68 ho7 b8 hfit hby hlr
           go_wp2_with fail
           go_meet
           case rel => exact G)
        | (have G := Lib.hid (conf_end (e := e) (w := (w8.setCell ⟨w6.heap.size, 0, none⟩ (.int .i64 e)).setCell ⟨w6.heap.size, 1, none⟩ (.slice a7 l.length c7)) (cb := w6.heap.size) (by rw [blk_set (blk_set kk 0 _) 1 _]; rfl) (owns_setlow (owns_setlow ho7 (by simp) 0 _) (by simp) 1 _) hfit hby ((hb68.setCell (by exact Nat.le_refl _) _).setCell (by exact Nat.le_refl _) _))
           clear hb68 ho7 b8 hfit hby hlr
           go_wp2_with fail
           go_meet
           case rel => exact G)
  case rest =>
    obtain ⟨cb, a7, c7, rfl, k8, hI8, b8⟩ := hcut.out
    clear hcut
    have x1 : wc.cell? ⟨cb, 1, none⟩ = some (.slice a7 l.length c7) := by rw [blk_cell k8]; rfl
    have HI := Lib.hid hI8
    have BB8 := Lib.hid b8
    have B8 := Lib.hid (bthen B6.out b8)
    have hle := B8.out.size
    clear k8 hI8 b8 p1 q1
    go_wp2_with (first | (at_make; refine wpList_make_own _ rfl _ _ 65 rfl wc.heap.size 134 ii (.agg zeroPk.toArray) 19 Try.underlying65 hii hz0 hz1 _ _ _ l.length rfl rfl rfl (by rw [hz2]; omega) (by simp only [maxLen]; omega) (Nat.le_refl _) ?_) | fail)
    intro w9 hown hgrow
    have hb9 := Lib.hid (show Below wc.heap.size wc w9 from (Below.refl _ wc).grown hgrow (Nat.le_refl _) (fun k hk => by cases hk))
    have X1 := Lib.hid x1
    have x1' := below_cell hb9.out x1
    have HO0 := Lib.hid hown
    clear hown hgrow x1
    go_wp2_with fail
    go_loopw [7, 30] (fun v i wr => ∃ k : Nat, k ≤ l.length ∧ i = .int .i64 k ∧ Hid (∃ a c, v = .slice a k c ∧ wr.ownsRow wc.heap.size 134 19 (.slice a k c) k (tellV (100 + id) (l.take k) ms)) ∧ Hid (Below wc.heap.size wc wr)) (fun _ i _ => l.length - (intOf i).toNat)
    case atStart => exact ⟨0, by omega, rfl, Lib.hid ⟨_, _, rfl, HO0.out⟩, hb9⟩
    case round =>
      clear HO0 x1' hb9
      obtain ⟨k, hk, rfl, Hv, Hb⟩ := hrel
      have x1' := below_cell Hb.out X1.out
      by_cases hlt : k < l.length
      · obtain ⟨av, cv, rfl, ho⟩ := Hv.out
        obtain ⟨b, o, x', rfl, hc, b0, b1, -, hx⟩ := (ints_of_sl (HI.out.old Hb.out)).elem k hlt
        have HX := Lib.hid (show l.take (k + 1) = l.take k ++ [x'] by rw [List.take_add_one, hx.out]; rfl)
        have HO := Lib.hid ho
        have hki : IntKind.i64.wrap ((k : Int) + 1) = ((k + 1 : Nat) : Int) := IntWalk.i64_in _ (by omega)
        have hdd : decide ((k : Int) < (l.length : Int)) = true := by simp; omega
        clear ho hx Hv
        go_upto_region 6 with (fail)
        have KMr := blk_below KM.out (bthen BB8.out Hb.out)
        have HLM := Lib.hid (fun (wa : World) (hb : Below wr.heap.size wr wa) => run_loadVar_row (P := Try.prog) wa w.heap.size 50 50 ms.toArray (0, 0) _ (blk_below KMr hb) Try.underlying50 rfl (by rw [show ms.toArray.size = 17 by simp [HML.out]]; kernel_rfl))
        clear KMr
        refine wp_region_made 7 (tellB p k cv w.heap.size av id x' ms) (fun _ _ => none) rfl (by kernel_rfl) (by kernel_rfl) tellB_stab (fun _ _ _ _ _ h => by cases h) (fun i oo hi ho => ?_) (fun vs w7 hb7 hs hne => ?_)
        · intro ac wa hba hE hF K hK
          have b7 := below_undrew hba
          have hno : ∀ k, (none : Option Nat) = some k → wa.heap.size ≤ k := fun _ h => by cases h
          have b9 := bthen BB8.out (bthen Hb.out b7)
          have hi' : i = 0 ∨ i = 1 ∨ i = 2 ∨ i = 3 ∨ i = 4 ∨ i = 5 ∨ i = 6 := by omega
          rcases hi' with rfl | rfl | rfl | rfl | rfl | rfl | rfl
          · obtain rfl := Option.some.inj ho
            have h1 : ac.eval (.tmp 7) = .slice av k cv := hE 7 (by decide)
            exact news_val rfl rfl (by generalize ac.eval = ρ at h1; simp only [execOp]; go_simp) (hK _ _ (Below.refl _ _) rfl hno)
          · obtain rfl := Option.some.inj ho
            have h1 : ac.eval (.tmp 0) = .pointer (some ⟨p, 0, none⟩) := hE 0 (by decide)
            exact news_val rfl rfl (by generalize ac.eval = ρ at h1; simp only [execOp]; go_simp) (hK _ _ (Below.refl _ _) rfl hno)
          · obtain rfl := Option.some.inj ho
            have h1 : ac.eval (.tmp 35) = .pointer (some ⟨p, 0, none⟩) := hF ⟨1, .data⟩ (by simp) rfl 35 rfl
            have hf : ac.eval (.func 53) = .func (.func 53) #[] #[] := rfl
            refine made_call rfl rfl 53 #[.pointer (some ⟨p, 0, none⟩)] (by generalize ac.eval = ρ at h1 hf; simp only [execOp]; go_simp) (CN.out wa b9) ?_
            rintro r w8 ⟨rfl, rfl⟩
            exact ⟨_, rfl, hK _ _ (Below.refl _ _) rfl hno⟩
          · obtain rfl := Option.some.inj ho
            have h1 : ac.eval (.tmp 9) = .int .i64 x' := hE 9 (by decide)
            exact news_val rfl rfl (by generalize ac.eval = ρ at h1; simp only [execOp]; go_simp) (hK _ _ (Below.refl _ _) rfl hno)
          · obtain rfl := Option.some.inj ho
            have h1 : ac.eval (.tmp 3) = .pointer (some ⟨w.heap.size, 0, none⟩) := hE 3 (by decide)
            exact news_load rfl rfl 50 (.tmp 3) rfl w.heap.size 0 h1 (HLM.out wa b7) (hK _ _ (Below.refl _ _) rfl hno)
          · obtain rfl := Option.some.inj ho
            obtain h1 : (ac.eval (.tmp 36)) = .int .i64 (100 + id) := hF ⟨2, .data⟩ (by simp) rfl 36 rfl
            have h2 : ac.eval (.tmp 37) = .int .i64 x' := hF ⟨3, .data⟩ (by simp) rfl 37 rfl
            obtain h3 : (ac.eval (.tmp 38)) = .agg ms.toArray := hF ⟨4, .data⟩ (by simp) rfl 38 rfl
            exact news_val rfl rfl (build_pkt _ _ _ _ _ rfl (ms := ms) HML.out h1 h2 h3 wa) (hK _ _ (Below.refl _ _) rfl hno)
          · obtain rfl := Option.some.inj ho
            obtain h1 : (ac.eval (.tmp 39)) = .agg (.int .i64 (100 + id) :: .int .i64 x' :: ms).toArray := hF ⟨5, .data⟩ (by simp) rfl 39 rfl
            exact news_val rfl rfl (build_pk1 _ _ (.tmp 39) rfl (.int .i64 (100 + id) :: .int .i64 x' :: ms) (by simp [HML.out]) h1 wa) (hK _ _ (below_alloc _ _) ⟨wa.heap.size, rfl, blk_alloc _ _⟩ hno)
        · have e0 : vs 0 = _ := hs 0 (by omega)
          have e1 : vs 1 = _ := hs 1 (by omega)
          obtain e2 : (vs 2) = .int .i64 (100 + id) := hs 2 (by omega)
          have e3 : vs 3 = _ := hs 3 (by omega)
          obtain e4 : (vs 4) = .agg ms.toArray := hs 4 (by omega)
          obtain e5 : (vs 5) = .agg (.int .i64 (100 + id) :: .int .i64 x' :: ms).toArray := hs 5 (by omega)
          obtain ⟨gb, e6, hgb⟩ : ∃ h, (vs 6) = .slice (some ⟨h, 0, none⟩) 1 1 ∧ w7.heap[h]? = some (.cells (.int .i64 (100 + id) :: .int .i64 x' :: ms).toArray 134 (0, 0)) := hs 6 (by omega)
          show wpList _ _ _ _ (((((((Act.put _ (some 34) (vs 0)).put (some 35) (vs 1)).put (some 36) (vs 2)).put (some 37) (vs 3)).put (some 38) (vs 4)).put (some 39) (vs 5)).put (some 40) (vs 6)) _
          rw [e0, e1, e2, e3, e4, e5, e6]
          clear e0 e1 e2 e3 e4 e5 e6 hs hne vs
          simp only [List.drop_succ_cons, List.drop_zero, Act.put, List.setIfInBounds_toArray, List.set_cons_succ, List.set_cons_zero]
          have k1 : k + 1 ≤ maxLen := by unfold maxLen; omega
          have k2 : (k + 1) * 232 ≤ 140737488355328 := by omega
          have hle7 : wc.heap.size ≤ w7.heap.size := (bthen Hb.out hb7).size
          refine wpList_append_any_at w7 rfl (.tmp 34) (.tmp 40) 65 rfl wc.heap.size 134 ii (.agg zeroPk.toArray) 19 232 Try.underlying65 hii hz0 hz1 hz2 rfl (by decide) (.slice av k cv) k (tellV (100 + id) (l.take k) ms) rfl (owns_old HO.out hb7) (some ⟨gb, 0, none⟩) 1 1 (.int .i64 (100 + id) :: .int .i64 x' :: ms) rfl (by simp [HML.out]) (fun h => by cases h) (fun ad had j u hj => by
            injection had with had
            subst had
            rw [Addr.add_lit, blk_cell hgb, Nat.zero_add, ← hj]
            simp) (fun u hu => by
            rcases List.mem_cons.1 hu with rfl | hu
            · rfl
            · rcases List.mem_cons.1 hu with rfl | hu
              · rfl
              · exact HM1.out u hu) k1 k2 hle7 ?_
          intro v8 w8 ho8 hg8 hor8
          obtain ⟨a8, c8, rfl⟩ := owns_form ho8
          have HB8 := Lib.hid (grown_below (bthen Hb.out hb7) hg8 (fun j hj => (HO.out.lt j hj).1))
          have HO8 := Lib.hid (show w8.ownsRow wc.heap.size 134 19 (.slice a8 (k + 1) c8) (k + 1) (tellV (100 + id) (l.take (k + 1)) ms) by
            have : tellV (100 + id) (l.take (k + 1)) ms = tellV (100 + id) (l.take k) ms ++ (.int .i64 (100 + id) :: .int .i64 x' :: ms) := by rw [HX.out, tellV, List.flatMap_append]; simp [tellV]
            rw [this]; exact ho8)
          clear ho8 hg8 hor8 hgb hb7 k1 k2 hle7 hc
          simp only [Act.put, List.setIfInBounds_toArray, List.set_cons_succ, List.set_cons_zero]
          go_wp2_with fail
          go_roundw
          case rel => exact ⟨k + 1, by omega, by go_num, Lib.hid ⟨_, _, rfl, HO8.out⟩, HB8⟩
          case measure => simp [intOf]; omega
      · have hkn : k = l.length := by omega
        subst hkn
        have hd : decide ((l.length : Int) < (l.length : Int)) = false := by simp
        obtain ⟨av, cv, rfl, ho⟩ := Hv.out
        rw [List.take_of_length_le (Nat.le_refl _)] at ho
        have HO := Lib.hid (owns_lower ho hle)
        have B := Lib.hid (bthen B8.out Hb.out)
        clear ho Hv
        go_wp2_with fail
        go_ret
        exact ⟨av, cv, rfl, HO.out, B.out⟩
end Go.Proofs.Ytijeieamodjgbab
