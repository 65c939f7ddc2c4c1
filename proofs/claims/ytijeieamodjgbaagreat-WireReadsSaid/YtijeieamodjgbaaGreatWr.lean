
/- Wire: the reader's walks: must, sig, sigs, request. -/
import Derived.Test.YtijeieamodjgbaaGreatWm
import Derived.Test.YtijeieamodjgbaaGreatKp
import Derived.Test.YtijeieamodjgbaaGreatVal
import Derived.Test.YtijeieamodjgbaaGreatTk
import Derived.Test.YtijeieamodjgbaaGreatReW
import Derived.Deep.RegionLaw

namespace Go.Proofs.YtijeieamodjgbaaGreat
set_option maxRecDepth 100000
open Go.RowKit Go.Deep
set_option linter.unusedVariables false
set_option linter.unusedSimpArgs false
attribute [local go_sem] run_store_float

/-- What a reader gives up with. -/
def pan13 : List PanicEntry := [{ v := .iface 66 (.agg #[]), recovered := false }]
theorem endE_bad {s : R} : endE s = 2 ↔ s.bad = true := by
  unfold endE
  split
  · rename_i h; simp [h]
  · rename_i h
    split <;> simp [h]
set_option maxHeartbeats 400000 in
theorem must_any (ok : Bool) (p : Nat) (text : ByteArray) (s : R) (w : World) (h : PRd w p text s) :
    Calls Tryz.prog 76 #[.agg #[.pointer (some ⟨p, 0, none⟩)], .bool ok] w fun e w' => Below w.heap.size w w' ∧ e = if (ok && !s.bad) = true then .returned (.tuple #[]) else .panicked pan13 := by
  obtain ⟨w1, hw1⟩ : ∃ u, u = w.alloc (.cells #[.pointer (some ⟨p, 0, none⟩)] 71 (0, 0)) := ⟨_, rfl⟩
  have b1 : Below w.heap.size w w1 := by rw [hw1]; exact below_alloc _ _
  have k1 : w1.heap[w.heap.size]? = some (.cells #[.pointer (some ⟨p, 0, none⟩)] 71 (0, 0)) := by rw [hw1]; exact blk_alloc _ _
  have a0 : w1.cell? ⟨w.heap.size, 0, none⟩ = some (.pointer (some ⟨p, 0, none⟩)) := by rw [blk_cell k1]; rfl
  have B1 := Lib.hid b1
  have CE := Lib.hid (end_any p text s w1 (prd_below h b1))
  have HE := Lib.hid (endE_bad (s := s))
  generalize endE s = E at *
  clear h b1 k1
  cases ok with
  | false =>
    go_enter Tryz.func76, Tryz.ntmps76
    go_upto_region 1 with (fail)
    rw [← hw1]
    clear hw1
    go_wp2_with fail
    exact ⟨rfl, B1.out, rfl⟩
  | true =>
    cases hb : s.bad with
    | true =>
      have he : E = 2 := HE.out.2 hb
      subst he
      clear HE hb
      go_enter Tryz.func76, Tryz.ntmps76
      go_upto_region 1 with (fail)
      rw [← hw1]
      clear hw1
      go_wp2_with fail
      refine CE.out.mono ?_
      rintro e w2 ⟨rfl, q, rfl⟩
      have B2 := Lib.hid (below_drewN B1.out q)
      go_wp2_with fail
      exact ⟨rfl, B2.out, rfl⟩
    | false =>
      have he : (E == 2) = false := by
        have : ¬ E = 2 := fun hc => by have := HE.out.1 hc; rw [hb] at this; cases this
        simpa using this
      clear HE hb
      go_enter Tryz.func76, Tryz.ntmps76
      go_upto_region 1 with (fail)
      rw [← hw1]
      clear hw1
      go_wp2_with fail
      refine CE.out.mono ?_
      rintro e w2 ⟨rfl, q, rfl⟩
      have B2 := Lib.hid (below_drewN B1.out q)
      go_wp2_with fail
      go_end0
      exact ⟨B2.out, rfl⟩

def sgV (s : R) : Sg := (rVal s 1, ⟨(tVal (rNext s 1)).toArray⟩)
def sgN (s : R) : R := tNext (rNext s 1)
theorem pr_sig (s : R) : Pr pSig s (sgV s) (sgN s) := (pr_num s 1).then ((pr_text (rNext s 1)).then (Pr.ret _ _))
theorem sgV_i64 (s : R) : i64 (sgV s).1 := by have := rVal_lt s 1; show i64 ((rVal s 1 : Nat) : Int); unfold i64; omega
theorem sgV_len (s : R) : (sgV s).2.size ≤ 1125899906842624 := by
  have := tValLen (rNext s 1)
  show (⟨(tVal (rNext s 1)).toArray⟩ : ByteArray).size ≤ _
  simp only [ByteArray.size, List.size_toArray]; omega
set_option maxHeartbeats 400000 in
theorem rsig_any (p : Nat) (text : ByteArray) (s : R) (w : World) (h : PRd w p text s) :
    Calls Tryz.prog 126 #[.agg #[.pointer (some ⟨p, 0, none⟩)]] w fun e w' => e = .returned (.agg #[.int .i64 (sgV s).1, .string (sgV s).2]) ∧ PRd w' p text (sgN s) ∧ Only p none w w' := by
  obtain ⟨w1, hw1⟩ : ∃ u, u = w.alloc (.cells #[.pointer (some ⟨p, 0, none⟩)] 71 (0, 0)) := ⟨_, rfl⟩
  obtain ⟨w2, hw2⟩ : ∃ u, u = w1.alloc (.cells #[.int .i64 0, .string ⟨#[]⟩] 84 (0, 0)) := ⟨_, rfl⟩
  have b1 : Below w.heap.size w w1 := by rw [hw1]; exact below_alloc _ _
  have hz1 : w1.heap.size = w.heap.size + 1 := by rw [hw1]; simp
  have b2 : Below w1.heap.size w1 w2 := by rw [hw2]; exact below_alloc _ _
  have K1 := Lib.hid (show w2.heap[w.heap.size]? = some (.cells #[.pointer (some ⟨p, 0, none⟩)] 71 (0, 0)) from blk_below (by rw [hw1]; exact blk_alloc _ _) b2)
  have K2 := Lib.hid (show w2.heap[w.heap.size + 1]? = some (.cells #[.int .i64 0, .string ⟨#[]⟩] 84 (0, 0)) by rw [← hz1, hw2]; exact blk_alloc _ _)
  have B2 := Lib.hid (bthen b1 b2)
  have hp := prd_lt h
  have C1 := Lib.hid (rbyte_any p text s w2 (prd_below h B2.out))
  have CT := Lib.hid (fun w h => rdtext_any p text (rNext s 1) w h)
  have HV := Lib.hid (show sgV s = (((rVal s 1 : Nat) : Int), (⟨(tVal (rNext s 1)).toArray⟩ : ByteArray)) from rfl)
  generalize sgV s = V at HV ⊢
  obtain ⟨V1, V2⟩ := V
  have a0 : w2.cell? ⟨w.heap.size, 0, none⟩ = some (.pointer (some ⟨p, 0, none⟩)) := by rw [blk_cell K1.out]; rfl
  clear h b1 b2 hz1
  go_enter Tryz.func126, Tryz.ntmps126
  go_upto_region 1 with (fail)
  rw [← hw1, ← hw2]
  clear hw1 hw2
  go_wp2_with fail
  refine C1.out.mono ?_
  rintro e w3 ⟨rfl, hr3, ho3⟩
  have R3 := Lib.hid hr3
  have O3 := Lib.hid ((Only.of_below B2.out : Only p none w w2).trans ho3 (.inl rfl))
  have k1 : w3.heap[w.heap.size]? = _ := (ho3.block _ (blk_lt K1.out) (by omega) (by simp)).trans K1.out
  have K2' := Lib.hid ((ho3.block _ (blk_lt K2.out) (by omega) (by simp)).trans K2.out)
  have c0 : w3.cell? ⟨w.heap.size, 0, none⟩ = some (.pointer (some ⟨p, 0, none⟩)) := by rw [blk_cell k1]; rfl
  clear hr3 ho3 k1 a0 C1
  go_wp2_with fail
  refine (CT.out w3 R3.out).mono ?_
  rintro e w4 ⟨rfl, hr4, ho4⟩
  have R4 := Lib.hid hr4
  have O4 := Lib.hid (O3.out.trans ho4 (.inl rfl))
  have k2 := (ho4.block _ (blk_lt K2'.out) (by omega) (by simp)).trans K2'.out
  have d0 : w4.cell? ⟨w.heap.size + 1, 0, none⟩ = some (.int .i64 0) := by rw [blk_cell k2]; rfl
  have d1 : w4.cell? ⟨w.heap.size + 1, 1, none⟩ = some (.string ⟨#[]⟩) := by rw [blk_cell k2]; rfl
  have z : ∀ o, w4.frozen? ⟨w.heap.size + 1, o, none⟩ = false := fun o => blk_frozen k2 o
  have hne : ¬ w.heap.size + 1 = p := by omega
  have hle : w.heap.size ≤ w.heap.size + 1 := by omega
  clear hr4 ho4 k2 c0 CT
  go_wp2_with fail
  refine bodyPost_ret (v := .agg #[.int .i64 ((rVal s 1 : Nat) : Int), .string ⟨(tVal (rNext s 1)).toArray⟩]) (by simp [results, Tryz.results126, go_sem, d0, d1]) rfl ?_
  injection HV.out with e1 e2
  refine ⟨by rw [e1, e2], prd_set (prd_set R4.out _ _ hne) _ _ hne, (O4.out.set_new _ _ hle).set_new _ _ hle⟩

theorem keep_only {p : Nat} {w w' : World} (h : Only p none w w') : Keep (fun k => k = p) w w' := ⟨h.os, h.tape, h.output, h.size, fun k hk hx => h.block k hk hx (by simp)⟩
theorem keep_then {p : Nat} {w w1 w2 : World} (h : Keep (fun k => k = p) w w1) (h2 : Keep (fun k => k = p) w1 w2) : Keep (fun k => k = p) w w2 := h.trans h2 (fun _ _ h => h)
theorem prd_block {p : Nat} {text : ByteArray} {w w' : World} {s : R} (h : PRd w p text s) (hb : w'.heap[p]? = w.heap[p]?) : PRd w' p text s := by
  obtain ⟨at0, h1, h2, hk, hr⟩ := h
  exact ⟨at0, h1, h2, by rw [hb]; exact hk, hr⟩
theorem rbyte_got (p : Nat) (text : ByteArray) (s : R) (w : World) (h : PRd w p text s) :
    Calls Tryz.prog 71 #[.pointer (some ⟨p, 0, none⟩)] w fun e w' => e = .returned (.int .i64 ((rVal s 1 : Nat) : Int)) ∧ PRd w' p text (rNext s 1) ∧ Keep (fun k => k = p) w w' := (rbyte_any p text s w h).mono fun e w' ⟨h1, h2, h3⟩ => ⟨h1, h2, keep_only h3⟩
theorem rword_got (p : Nat) (text : ByteArray) (s : R) (w : World) (h : PRd w p text s) :
    Calls Tryz.prog 72 #[.pointer (some ⟨p, 0, none⟩)] w fun e w' => e = .returned (.int .i64 ((rVal s 2 : Nat) : Int)) ∧ PRd w' p text (rNext s 2) ∧ Keep (fun k => k = p) w w' := (rword_any p text s w h).mono fun e w' ⟨h1, h2, h3⟩ => ⟨h1, h2, keep_only h3⟩
theorem rtext_got (p : Nat) (text : ByteArray) (s : R) (w : World) (h : PRd w p text s) :
    Calls Tryz.prog 75 #[.pointer (some ⟨p, 0, none⟩)] w fun e w' => e = .returned (.string ⟨(tVal s).toArray⟩) ∧ PRd w' p text (tNext s) ∧ Keep (fun k => k = p) w w' := (rdtext_any p text s w h).mono fun e w' ⟨h1, h2, h3⟩ => ⟨h1, h2, keep_only h3⟩
theorem rsig_got (p : Nat) (text : ByteArray) (s : R) (w : World) (h : PRd w p text s) :
    Calls Tryz.prog 126 #[.agg #[.pointer (some ⟨p, 0, none⟩)]] w fun e w' => e = .returned (.agg #[.int .i64 (sgV s).1, .string (sgV s).2]) ∧ PRd w' p text (sgN s) ∧ Keep (fun k => k = p) w w' := (rsig_any p text s w h).mono fun e w' ⟨h1, h2, h3⟩ => ⟨h1, h2, keep_only h3⟩
/-- What reading a part leaves: refused, or a thing in new memory. -/
def GotP {α : Type} (P : Ps α) (S : Sh α) (F : List Value → Value) (w : World) (p : Nat) (text : ByteArray) (s : R) (e : Ending) (w' : World) : Prop :=
  Keep (fun k => k = p) w w' ∧ ((e = .panicked pan13 ∧ No P s) ∨ ∃ v s' cs, e = .returned (F cs) ∧ Pr P s v s' ∧ PRd w' p text s' ∧ Rob (fun k => k < w.heap.size) (fun u => S.E u v cs) w')
def aggF (cs : List Value) : Value := .agg cs.toArray
def oneF (cs : List Value) : Value := cs.headD undef
theorem pr_sigs {s : R} {acc : List Sg} {s' : R} (hn : rVal s 1 ≤ 16) (h : Pr (pRep pSig (rVal s 1)) (rNext s 1) acc s') : Pr (pSigs true) s acc s' := by
  unfold pSigs
  exact (pr_num s 1).then ((show Pr (pRep pSig ((rVal s 1 : Nat) : Int).toNat) (rNext s 1) acc s' from h).if (by simp; omega))
theorem no_sigs {s : R} (h : (decide ((rVal s 1 : Int) ≤ 16) && !(rNext s 1).bad) = false) : No (pSigs true) s := by
  unfold pSigs
  cases hb : (rNext s 1).bad with
  | true => exact ((pr_num s 1).bad hb).then
  | false =>
    rw [hb] at h
    exact No.step (pr_num s 1) (No.if (by simp at h ⊢; omega))
set_option maxHeartbeats 1000000 in
theorem rsigs_any (p : Nat) (text : ByteArray) (s : R) (w : World) (h : PRd w p text s) :
    Calls Tryz.prog 77 #[.agg #[.pointer (some ⟨p, 0, none⟩)]] w (GotP (pSigs true) shSig.slice oneF w p text s) := by
  obtain ⟨ii, hi, hz0, hz1, hz2⟩ := info_parts info_sig'
  obtain ⟨w1, hw1⟩ : ∃ u, u = w.alloc (.cells #[.pointer (some ⟨p, 0, none⟩)] 71 (0, 0)) := ⟨_, rfl⟩
  have b1 : Below w.heap.size w w1 := by rw [hw1]; exact below_alloc _ _
  have hz : w1.heap.size = w.heap.size + 1 := by rw [hw1]; simp
  have K1 := Lib.hid (show w1.heap[w.heap.size]? = some (.cells #[.pointer (some ⟨p, 0, none⟩)] 71 (0, 0)) by rw [hw1]; exact blk_alloc _ _)
  have hp := prd_lt h
  have B1 := Lib.hid b1
  have C1 := Lib.hid (rbyte_got p text s w1 (prd_below h b1))
  have CM := Lib.hid (fun ok w h => must_any ok p text (rNext s 1) w h)
  have hlt := rVal_lt s 1
  have PS := Lib.hid (fun acc s' hn h => pr_sigs (s := s) (acc := acc) (s' := s') hn h)
  have NS := Lib.hid (fun h => no_sigs (s := s) h)
  have a0 : w1.cell? ⟨w.heap.size, 0, none⟩ = some (.pointer (some ⟨p, 0, none⟩)) := by rw [blk_cell K1.out]; rfl
  generalize rVal s 1 = N at *
  generalize rNext s 1 = s1 at *
  clear h b1
  go_enter Tryz.func77, Tryz.ntmps77
  go_upto_region 1 with (fail)
  rw [← hw1]
  clear hw1
  go_wp2_with fail
  refine C1.out.mono ?_
  rintro e w2 ⟨rfl, hr2, ho2⟩
  have R2 := Lib.hid hr2
  have O2 := Lib.hid ho2
  have K2 := Lib.hid ((ho2.block _ (blk_lt K1.out) (by omega)).trans K1.out)
  have c0 : w2.cell? ⟨w.heap.size, 0, none⟩ = some (.pointer (some ⟨p, 0, none⟩)) := by rw [blk_cell K2.out]; rfl
  clear hr2 ho2 a0 C1
  go_wp2_with fail
  refine (CM.out _ w2 R2.out).mono ?_
  rintro e w3 ⟨b3, he⟩
  have R3 := Lib.hid (prd_below R2.out b3)
  have O3 := Lib.hid (keep_then O2.out (Keep.of_below b3))
  clear b3 c0 CM R2 O2 K2
  cases hm : (decide ((N : Int) ≤ 16) && !s1.bad) with
  | false =>
    rw [hm, if_neg (by decide)] at he
    subst he
    go_wp2_with fail
    exact ⟨rfl, keep_then (Keep.of_below B1.out) O3.out, .inl ⟨rfl, NS.out hm⟩⟩
  | true =>
  rw [hm, if_pos rfl] at he
  subst he
  rw [Bool.and_eq_true] at hm
  have hN : N ≤ 16 := by have := of_decide_eq_true hm.1; omega
  clear hm NS hlt
  go_wp2_with fail
  go_loopw [4, 13] (fun v i wr => ∃ k : Nat, ∃ acc : List Sg, ∃ s' : R, k ≤ N ∧ i = .int .i64 k ∧ acc.length = k ∧ Hid (Pr (pRep pSig k) s1 acc s') ∧ Hid (PRd wr p text s') ∧ Hid (wr.ownsRow w1.heap.size 84 2 v k (sigV acc)) ∧ Hid (∀ y ∈ acc, i64 y.1 ∧ y.2.size ≤ 1125899906842624) ∧ Hid (Keep (fun k => k = p) w1 wr)) (fun _ i _ => N - (intOf i).toNat)
  case atStart => exact ⟨0, [], s1, by omega, rfl, rfl, Lib.hid (Pr.ret _ _), R3, Lib.hid (World.ownsRow_nil _ _ _ _), Lib.hid (fun _ h => by cases h), O3⟩
  case round =>
    clear R3 O3
    obtain ⟨k, acc, s', hk, rfl, hacc, HP, HR, HO, HI, HK⟩ := hrel
    obtain ⟨va, vc, rfl⟩ := owns_form HO.out
    have HK1 := Lib.hid ((HK.out.block _ (blk_lt K1.out) (by omega)).trans K1.out)
    have hsz := HK.out.size
    by_cases hlk : k < N
    · have hd : decide ((k : Int) < (N : Int)) = true := by simp; omega
      have y0 : wr.cell? ⟨w.heap.size, 0, none⟩ = some (.pointer (some ⟨p, 0, none⟩)) := by rw [blk_cell HK1.out]; rfl
      have CS := Lib.hid (rsig_got p text s' wr HR.out)
      have HP' := Lib.hid (HP.out.snoc (pr_sig s'))
      have HI' := Lib.hid (show ∀ y ∈ acc ++ [sgV s'], i64 y.1 ∧ y.2.size ≤ 1125899906842624 from fun y hy => by
        rcases List.mem_append.1 hy with hy | hy
        · exact HI.out y hy
        · rw [List.mem_singleton] at hy; subst hy; exact ⟨sgV_i64 _, sgV_len _⟩)
      generalize sgV s' = V at *
      generalize sgN s' = s2 at *
      obtain ⟨x, t⟩ := V
      go_wp2_with fail
      refine CS.out.mono ?_
      rintro e w4 ⟨rfl, hr4, ho4⟩
      have R4 := Lib.hid hr4
      have hz4 := ho4.size
      have O4 := Lib.hid (keep_then HK.out ho4)
      have HO4 := owns_keep HO.out ho4 (fun k hk hc => by have := (HO.out.lt k hk).1; omega)
      have hb5 := below_alloc w4 (.cells #[.int .i64 x, .string t] 84 (0, 0))
      have HO5 := Lib.hid (owns_old HO4 hb5)
      have k5 := blk_alloc w4 (.cells #[.int .i64 x, .string t] 84 (0, 0))
      have hnews : ∀ ad, some (⟨w4.heap.size, 0, none⟩ : Addr) = some ad → ∀ j u, [Value.int .i64 x, Value.string t][j]? = some u → (w4.alloc (.cells #[.int .i64 x, .string t] 84 (0, 0))).cell? (ad.add j) = some u := fun ad had j u hj => by
        injection had with had
        subst had
        rw [Addr.add_lit, blk_cell k5, ← hj]
        simp
      have HNW := Lib.hid hnews
      have hm1 : k + 1 ≤ maxLen := by unfold maxLen; omega
      have hm2 : (k + 1) * 24 ≤ 140737488355328 := by omega
      have hB5 : w1.heap.size ≤ (w4.alloc (.cells #[.int .i64 x, .string t] 84 (0, 0))).heap.size := by simp; omega
      clear hr4 ho4 HO4 hnews CS y0 k5 hb5
      go_wp2_with (first | (at_builtin; refine wpList_append_any_at _ rfl (.tmp 15) (.tmp 18) 31 rfl w1.heap.size 84 ii (.agg #[.int .i64 0, .string ⟨#[]⟩]) 2 24 Tryz.underlying31 hi hz0 hz1 hz2 rfl (by decide) (.slice va k vc) k (sigV acc) rfl HO5.out (some ⟨w4.heap.size, 0, none⟩) 1 1 [.int .i64 x, .string t] rfl rfl (by simp) HNW.out (by simp [Value.oneCell']) hm1 hm2 hB5 ?_) | fail)
      intro v' w8 ho8 hg8 hor8
      obtain ⟨a8, c8, rfl⟩ := owns_form ho8
      have K8 := Lib.hid (show Keep (fun k => k = p) w1 w8 from (O4.out.alloc _).grown hg8 (fun k hk => .inl (HO5.out.lt k hk).1))
      have hp1 : p < w1.heap.size := by omega
      have R8 := Lib.hid (prd_block (prd_below R4.out (below_alloc w4 (.cells #[.int .i64 x, .string t] 84 (0, 0)))) (hg8.block p (by simp; omega) (fun hc => by have := (HO5.out.lt p hc.symm).1; omega)))
      have HO8 := Lib.hid (show w8.ownsRow w1.heap.size 84 2 (.slice a8 (k + 1) c8) (k + 1) (sigV (acc ++ [(x, t)])) from by rw [show sigV (acc ++ [(x, t)]) = sigV acc ++ [.int .i64 x, .string t] by simp [sigV], hz]; exact ho8)
      clear ho8 hg8 hor8 O4 R4 HO5 HNW
      go_wp2_with fail
      go_roundw
      case rel => exact ⟨k + 1, acc ++ [(x, t)], s2, by omega, by go_num, by simp [hacc], HP', R8, HO8, HI', K8⟩
      case measure => simp [intOf]; omega
    · have hd : decide ((k : Int) < (N : Int)) = false := by simp; omega
      obtain rfl : k = N := by omega
      have HF := Lib.hid (show GotP (pSigs true) shSig.slice oneF w p text s (.returned (.slice va k vc)) wr from
        ⟨keep_then (Keep.of_below B1.out) HK.out, .inr ⟨acc, s', [.slice va k vc], rfl, PS.out _ _ hN HP.out, HR.out, fun u hu => ⟨va, k, vc, rfl, sigs_row (owns_keep HO.out hu (fun g hg hc => by have := (HO.out.lt g hg).1; omega)) hacc HI.out (by omega)⟩⟩⟩)
      go_wp2_with fail
      go_ret
      exact HF.out

theorem pr_req {s : R} (h : readErr (tVal s) = 0) : Pr pReq s (readRq (tVal s)) (tNext s) := by
  unfold pReq
  exact (pr_text s).then ((Pr.ret (readRq (tVal s)) (tNext s)).if (by simpa using h))
theorem no_req {s : R} (h : (decide (readErr (tVal s) = 0) && !(tNext s).bad) = false) : No pReq s := by
  unfold pReq
  cases hb : (tNext s).bad with
  | true => exact ((pr_text s).bad hb).then
  | false =>
    rw [hb] at h
    exact No.step (pr_text s) (No.if (by simpa using h))
theorem readRq_ok (t : List UInt8) : (readRq t).Ok := by
  unfold readRq
  split
  · exact rdRq_ok t
  · exact ⟨⟨by decide, by decide⟩, ⟨by decide, by decide⟩, ⟨by decide, by decide⟩, ⟨by decide, by decide⟩, by decide, by decide⟩
theorem req_rob (r : Rq) (h : r.Ok) (X : Nat → Prop) (w : World) : Rob X (fun u => shReq.E u r r.cs) w := fun u _ => by
  obtain ⟨c, s, kind, key, b, id⟩ := r
  exact ⟨_, _, rfl, ⟨rfl, h.c⟩, _, _, rfl, ⟨rfl, h.s⟩, _, _, rfl, ⟨rfl, h.kind⟩, _, _, rfl, ⟨rfl, h.key⟩, _, _, rfl, ⟨rfl, h.b⟩, rfl, h.id⟩
set_option maxHeartbeats 1000000 in
theorem rreq_any (p : Nat) (text : ByteArray) (s : R) (w : World) (h : PRd w p text s) :
    Calls Tryz.prog 73 #[.agg #[.pointer (some ⟨p, 0, none⟩)]] w (GotP pReq shReq aggF w p text s) := by
  obtain ⟨w1, hw1⟩ : ∃ u, u = w.alloc (.cells #[.pointer (some ⟨p, 0, none⟩)] 71 (0, 0)) := ⟨_, rfl⟩
  obtain ⟨w2, hw2⟩ : ∃ u, u = w1.alloc (.cells #[.int .i64 0, .int .i64 0, .int .i64 0, .string ⟨#[]⟩, .float .f64 0, .int .i64 0] 27 (0, 0)) := ⟨_, rfl⟩
  have b1 : Below w.heap.size w w1 := by rw [hw1]; exact below_alloc _ _
  have hz1 : w1.heap.size = w.heap.size + 1 := by rw [hw1]; simp
  have b2 : Below w1.heap.size w1 w2 := by rw [hw2]; exact below_alloc _ _
  have K1 := Lib.hid (show w2.heap[w.heap.size]? = some (.cells #[.pointer (some ⟨p, 0, none⟩)] 71 (0, 0)) from blk_below (by rw [hw1]; exact blk_alloc _ _) b2)
  have K2 := Lib.hid (show w2.heap[w.heap.size + 1]? = some (.cells #[.int .i64 0, .int .i64 0, .int .i64 0, .string ⟨#[]⟩, .float .f64 0, .int .i64 0] 27 (0, 0)) by rw [← hz1, hw2]; exact blk_alloc _ _)
  have B2 := Lib.hid (bthen b1 b2)
  have hp := prd_lt h
  have C1 := Lib.hid (rtext_got p text s w2 (prd_below h B2.out))
  have CM := Lib.hid (fun ok w h => must_any ok p text (tNext s) w h)
  have CQ := Lib.hid (fun w => qread_any ⟨(tVal s).toArray⟩ w (by have := tValLen s; simp only [ByteArray.size, List.size_toArray]; omega))
  simp only [List.toList_toArray] at CQ
  have HO := Lib.hid (readRq_ok (tVal s))
  have PS := Lib.hid (fun h => pr_req (s := s) h)
  have NS := Lib.hid (fun h => no_req (s := s) h)
  have a0 : w2.cell? ⟨w.heap.size, 0, none⟩ = some (.pointer (some ⟨p, 0, none⟩)) := by rw [blk_cell K1.out]; rfl
  generalize readRq (tVal s) = Q at *
  generalize readErr (tVal s) = E at *
  generalize (⟨(tVal s).toArray⟩ : ByteArray) = T at *
  generalize tNext s = s1 at *
  have HR := Lib.hid (fun X w => req_rob Q HO.out X w)
  obtain ⟨qc, qs, qk, qt, qb, qi⟩ := Q
  simp only [Rq.v] at CQ
  clear h b1 b2 hz1 HO
  go_enter Tryz.func73, Tryz.ntmps73
  go_upto_region 1 with (fail)
  rw [← hw1, ← hw2]
  clear hw1 hw2
  go_wp2_with fail
  refine C1.out.mono ?_
  rintro e w3 ⟨rfl, hr3, ho3⟩
  have R3 := Lib.hid hr3
  have O3 := Lib.hid (keep_then (Keep.of_below B2.out) ho3)
  have k1 := (ho3.block _ (blk_lt K1.out) (by omega)).trans K1.out
  have k2 := (ho3.block _ (blk_lt K2.out) (by omega)).trans K2.out
  have K1' := Lib.hid k1; have K2' := Lib.hid k2
  clear hr3 ho3 a0 C1 k1 k2 K1 K2
  go_wp2_with fail
  refine (CQ.out w3).mono ?_
  rintro e w4 ⟨rfl, b4⟩
  have R4 := Lib.hid (prd_below R3.out b4)
  have O4 := Lib.hid (keep_then O3.out (Keep.of_below b4))
  have K1 := Lib.hid (blk_below K1'.out b4); have K2 := Lib.hid (blk_below K2'.out b4)
  obtain ⟨w5, hw5⟩ : ∃ u, u = w4.alloc (.cells #[.int .i64 qc, .int .i64 qs, .int .i64 qk, .string qt, .float .f64 qb, .int .i64 qi] 27 (0, 0)) := ⟨_, rfl⟩
  have b5 : Below w4.heap.size w4 w5 := by rw [hw5]; exact below_alloc _ _
  have kq : w5.heap[w4.heap.size]? = some (.cells #[.int .i64 qc, .int .i64 qs, .int .i64 qk, .string qt, .float .f64 qb, .int .i64 qi] 27 (0, 0)) := by rw [hw5]; exact blk_alloc _ _
  have KQ := Lib.hid kq
  have B5 := Lib.hid b5
  have k1 := blk_below K1.out b5
  have c0 : w5.cell? ⟨w.heap.size, 0, none⟩ = some (.pointer (some ⟨p, 0, none⟩)) := by rw [blk_cell k1]; rfl
  clear K1' K2' R3 O3 b4 CQ b5 kq k1
  go_upto_region 2 with (fail)
  rw [← hw5]
  clear hw5
  go_wp2_with fail
  refine (CM.out _ w5 (prd_below R4.out B5.out)).mono ?_
  rintro e w6 ⟨b6, he⟩
  have R6 := Lib.hid (prd_below (prd_below R4.out B5.out) b6)
  have O6 := Lib.hid (keep_then O4.out (Keep.of_below (bthen B5.out b6)))
  have K2' := Lib.hid (blk_below (blk_below K2.out B5.out) b6)
  have kq := blk_below KQ.out b6
  cases hm : (decide (E = 0) && !s1.bad) with
  | false =>
    rw [show (E == 0) = decide (E = 0) from rfl, hm, if_neg (by decide)] at he
    subst he
    go_wp2_with fail
    exact ⟨rfl, O6.out, .inl ⟨rfl, NS.out hm⟩⟩
  | true =>
  rw [show (E == 0) = decide (E = 0) from rfl, hm, if_pos rfl] at he
  subst he
  rw [Bool.and_eq_true] at hm
  have HE := Lib.hid (of_decide_eq_true hm.1)
  obtain ⟨q0, q1, q2, q3, q4, q5⟩ := rqAt_blk kq
  obtain ⟨r0, r1, r2, r3, r4, r5⟩ := rqAt_blk K2'.out
  have z : ∀ o, w6.frozen? ⟨w.heap.size + 1, o, none⟩ = false := fun o => blk_frozen K2'.out o
  clear hm NS c0 CM b6 kq K2 K1 KQ B5 R4 O4
  go_wp2_with fail
  have hne : ¬ w.heap.size + 1 = p := by omega
  have hle : w.heap.size ≤ w.heap.size + 1 ∨ w.heap.size + 1 = p := .inl (by omega)
  refine bodyPost_ret (v := .agg #[.int .i64 qc, .int .i64 qs, .int .i64 qk, .string qt, .float .f64 qb, .int .i64 qi]) (by simp [results, Tryz.results73, go_sem, r0, r1, r2, r3, r4, r5]) rfl ?_
  refine ⟨(((((O6.out.set hle _ _).set hle _ _).set hle _ _).set hle _ _).set hle _ _).set hle _ _, .inr ⟨⟨qc, qs, qk, qt, qb, qi⟩, s1, (⟨qc, qs, qk, qt, qb, qi⟩ : Rq).cs, rfl, PS.out HE.out, ?_, HR.out _ _⟩⟩
  exact prd_set (prd_set (prd_set (prd_set (prd_set (prd_set R6.out _ _ hne) _ _ hne) _ _ hne) _ _ hne) _ _ hne) _ _ hne
end Go.Proofs.YtijeieamodjgbaaGreat

/- Wire: the reader's walks: change. -/
namespace Go.Proofs.YtijeieamodjgbaaGreat
set_option maxRecDepth 100000
open Go.RowKit Go.Deep
set_option linter.unusedVariables false
set_option linter.unusedSimpArgs false
attribute [local go_sem] run_store_float

/-- A row that is being read: all of it lies from B on. -/
def RowIn {α : Type} (S : Sh α) (T : TypeId) (B : Nat) (w : World) (v : Value) (l : List α) : Prop :=
  ∃ xs : List Value, ∃ M : Nat → Prop, w.ownsRow B T S.k v l.length xs ∧ rowOf S (fun k => ¬ M k) w l xs ∧ (∀ k, M k → B ≤ k ∧ k < w.heap.size) ∧ ∀ k, v.ownBlock = some k → ¬ M k
section
variable {α : Type} {S : Sh α} {T : TypeId} {B : Nat} {w w5 w8 : World} {v v' : Value} {l : List α}
theorem RowIn.nil : RowIn S T B w (.slice none 0 0) [] := ⟨[], fun _ => False, World.ownsRow_nil _ _ _ _, rfl, fun _ h => h.elim, fun _ _ h => h⟩
theorem RowIn.keep {Y : Nat → Prop} (h : RowIn S T B w v l) (hk : Keep Y w w5) (hY : ∀ k, Y k → k < B) : RowIn S T B w5 v l := by
  obtain ⟨xs, M, h1, h2, h3, h4⟩ := h
  exact ⟨xs, M, owns_keep h1 hk (fun k hk' hy => by have := (h1.lt k hk').1; have := hY k hy; omega), h2.step hk (fun k _ hy hm => by have := (h3 k hm).1; have := hY k hy; omega) (fun _ _ h => h), fun k hm => ⟨(h3 k hm).1, Nat.lt_of_lt_of_le (h3 k hm).2 hk.size⟩, h4⟩
theorem RowIn.snoc {xs cs : List Value} {M : Nat → Prop} {E0 E1 : Nat} {y : α} (ho : w5.ownsRow B T S.k v l.length xs) (hr : rowOf S (fun k => ¬ M k) w5 l xs) (hM : ∀ k, M k → B ≤ k ∧ k < w5.heap.size) (hno : ∀ k, v.ownBlock = some k → ¬ M k ∧ k < E0)
    (hc : cs.length = S.k) (hy : Rob (fun k => k < E0 ∨ E1 ≤ k) (fun u => S.E u y cs) w5) (hB : B ≤ E0) (hE : E1 ≤ w5.heap.size) (ho8 : w8.ownsRow B T S.k v' (l.length + 1) (xs ++ cs)) (hg : w5.grownBy w8 v.ownBlock) (hor : v'.ownBlock = v.ownBlock ∨ v'.ownBlock = some w5.heap.size) :
    RowIn S T B w8 v' (l ++ [y]) := by
  have K : Keep (fun k => v.ownBlock = some k) w5 w8 := (Keep.refl _ w5).grown hg (fun k hk => .inr hk)
  refine ⟨xs ++ cs, fun k => M k ∨ (E0 ≤ k ∧ k < E1), by rw [List.length_append]; exact ho8, ?_, fun k hk => ?_, fun k hk hm => ?_⟩
  · refine rowOf.snoc (hr.step K (fun k _ hk hm => (hno k hk).1 hm) (fun k _ hx hm => hx (.inl hm))) hc (hy.step K (fun k _ hk => .inl (hno k hk).2) (fun k _ hx => ?_))
    by_cases h1 : E0 ≤ k
    · by_cases h2 : k < E1
      · exact absurd (.inr ⟨h1, h2⟩) hx
      · exact .inr (by omega)
    · exact .inl (by omega)
  · have := K.size
    rcases hk with hk | ⟨h1, h2⟩
    · have := hM k hk; exact ⟨this.1, by omega⟩
    · exact ⟨by omega, by omega⟩
  · rcases hor with h | h
    · rw [h] at hk
      rcases hm with hm | ⟨h1, h2⟩
      · exact (hno k hk).1 hm
      · have := (hno k hk).2; omega
    · rw [h] at hk
      injection hk with hk
      rcases hm with hm | ⟨h1, h2⟩
      · have := (hM k hm).2; omega
      · omega
theorem RowIn.rob {a : Option Addr} {n c : Nat} (h : RowIn S T B w (.slice a n c) l) (hn : l.length = n) (hb : n * S.bs ≤ 140737488355328) : Rob (fun k => k < B ∨ w.heap.size ≤ k) (fun u => SlAt S u a n c l) w := fun u hu => by
  obtain ⟨xs, M, h1, h2, h3, h4⟩ := h
  subst hn
  exact sl_of_row (owns_keep h1 hu (fun k hk hx => by have := h1.lt k hk; omega)) (h2.step (X' := fun k => ¬ M k) hu (fun k _ hx hm => by have := h3 k hm; omega) (fun _ _ h => h)) hb
end
theorem RowIn.form {α : Type} {S : Sh α} {T : TypeId} {B : Nat} {w : World} {v : Value} {l : List α} (h : RowIn S T B w v l) : ∃ a n c, v = .slice a n c ∧ n = l.length := by
  obtain ⟨xs, M, h1, _⟩ := h
  obtain ⟨a, c, rfl⟩ := owns_form h1
  exact ⟨a, _, c, rfl, rfl⟩
theorem keep_mono14 {X Y : Nat → Prop} {w w' : World} (h : Keep X w w') (hX : ∀ k, X k → Y k) : Keep Y w w' := ⟨h.os, h.tape, h.output, h.size, fun k hk hy => h.block k hk (fun hx => hy (hX k hx))⟩
theorem rob_slice {α : Type} {S : Sh α} {X : Nat → Prop} {w : World} {l : List α} {cs : List Value} (h : Rob X (fun u => S.slice.E u l cs) w) : ∃ a n c, cs = [.slice a n c] ∧ Rob X (fun u => SlAt S u a n c l) w := by
  obtain ⟨a, n, c, rfl, _⟩ := h.self
  refine ⟨a, n, c, rfl, fun u hu => ?_⟩
  obtain ⟨a', n', c', he, hs⟩ := h u hu
  injection he with he
  injection he with h1 h2 h3
  subst h1 h2 h3
  exact hs
theorem cert_make {w : World} {y : Ce} {a : Option Addr} {n c : Nat} (h1 : i64 y.v) (h2 : i64 y.s) (h3 : y.q.Ok) (h4 : SlAt shSig w a n c y.sg) : shCert.E w y [.int .i64 y.v, .int .i64 y.s, .int .i64 y.q.c, .int .i64 y.q.s, .int .i64 y.q.kind, .string y.q.key, .float .f64 y.q.b, .int .i64 y.q.id, .slice a n c] :=
  ⟨[.int .i64 y.v], _, rfl, ⟨rfl, h1⟩, [.int .i64 y.s], _, rfl, ⟨rfl, h2⟩, y.q.cs, [.slice a n c], rfl, req_rob y.q h3 (fun _ => True) w w (Keep.refl _ _), a, n, c, rfl, h4⟩
theorem change_make {w : World} {y : Ch} {a : Option Addr} {n c : Nat} (h1 : i64 y.fr) (h2 : i64 y.v) (h3 : SlAt shCert w a n c y.ce) (h4 : i64 y.sg.1) (h5 : y.sg.2.size ≤ 1125899906842624) : shChange.E w y [.int .i64 y.fr, .int .i64 y.v, .slice a n c, .int .i64 y.sg.1, .string y.sg.2] :=
  ⟨[.int .i64 y.fr], _, rfl, ⟨rfl, h1⟩, [.int .i64 y.v], _, rfl, ⟨rfl, h2⟩, [.slice a n c], _, rfl, ⟨a, n, c, rfl, h3⟩, [.int .i64 y.sg.1], [.string y.sg.2], rfl, ⟨rfl, h4⟩, rfl, h5⟩
theorem pr_cert {s s3 s4 : R} {q : Rq} {sg : List Sg} (hq : Pr pReq (rNext (rNext s 1) 2) q s3) (hs : Pr (pSigs true) s3 sg s4) : Pr (pCert true) s ⟨(rVal s 1 : Nat), (rVal (rNext s 1) 2 : Nat), q, sg⟩ s4 := by
  unfold pCert
  exact (pr_num s 1).then ((pr_num _ 2).then (hq.then (hs.then (Pr.ret _ _))))
theorem no_cert1 {s : R} (h : No pReq (rNext (rNext s 1) 2)) : No (pCert true) s := by
  unfold pCert
  exact No.step (pr_num s 1) (No.step (pr_num _ 2) h.then)
theorem no_cert2 {s s3 : R} {q : Rq} (hq : Pr pReq (rNext (rNext s 1) 2) q s3) (h : No (pSigs true) s3) : No (pCert true) s := by
  unfold pCert
  exact No.step (pr_num s 1) (No.step (pr_num _ 2) (No.step hq h.then))
theorem pr_change {s s' : R} {ce : List Ce} (hn : rVal (rNext (rNext s 1) 1) 1 ≤ 4) (h : Pr (pRep (pCert true) (rVal (rNext (rNext s 1) 1) 1)) (rNext (rNext (rNext s 1) 1) 1) ce s') : Pr (pChange true) s ⟨(rVal s 1 : Nat), (rVal (rNext s 1) 1 : Nat), ce, sgV s'⟩ (sgN s') := by
  unfold pChange
  exact (pr_num s 1).then ((pr_num _ 1).then ((pr_num _ 1).then (((show Pr (pRep (pCert true) ((rVal (rNext (rNext s 1) 1) 1 : Nat) : Int).toNat) _ ce s' from h).then (Pr.map (f := fun sg => (⟨(rVal s 1 : Nat), (rVal (rNext s 1) 1 : Nat), ce, sg⟩ : Ch)) (pr_sig s'))).if (by simp; omega))))
theorem no_change1 {s : R} (h : (decide ((rVal (rNext (rNext s 1) 1) 1 : Int) ≤ 4) && !(rNext (rNext (rNext s 1) 1) 1).bad) = false) : No (pChange true) s := by
  unfold pChange
  refine No.step (pr_num s 1) (No.step (pr_num _ 1) ?_)
  cases hb : (rNext (rNext (rNext s 1) 1) 1).bad with
  | true => exact ((pr_num _ 1).bad hb).then
  | false =>
    rw [hb] at h
    exact No.step (pr_num _ 1) (No.if (by simp at h ⊢; omega))
theorem no_if {α : Type} {p : Ps α} {s : R} {b : Bool} (h : No p s) : No (pIf b p) s := by
  rcases h with h | h
  · exact .inl h
  · right
    unfold pIf
    split
    · exact h
    · rfl
theorem no_change2 {s : R} (h : No (pRep (pCert true) (rVal (rNext (rNext s 1) 1) 1)) (rNext (rNext (rNext s 1) 1) 1)) : No (pChange true) s := by
  unfold pChange
  exact No.step (pr_num s 1) (No.step (pr_num _ 1) (No.step (pr_num _ 1) (no_if (No.then (show No (pRep (pCert true) ((rVal (rNext (rNext s 1) 1) 1 : Nat) : Int).toNat) _ from h)))))
theorem rVal_i64 (s : R) (k : Nat) (hk : k ≤ 2) : i64 ((rVal s k : Nat) : Int) := by
  have h := rVal_lt s k
  have : 256 ^ k ≤ 256 ^ 2 := Nat.pow_le_pow_right (by omega) hk
  unfold i64
  omega
theorem info_cert : (Tryz.prog.info? 144).map (fun i => (i.zero, i.size, i.bytes)) = some (some (.agg #[.int .i64 0, .int .i64 0, .int .i64 0, .int .i64 0, .int .i64 0, .string ⟨#[]⟩, .float .f64 0, .int .i64 0, .slice none 0 0]), 9, 96) := by kernel_rfl

set_option maxHeartbeats 4000000 in
theorem rchange_any (p : Nat) (text : ByteArray) (s : R) (w : World) (h : PRd w p text s) :
    Calls Tryz.prog 78 #[.agg #[.pointer (some ⟨p, 0, none⟩)]] w (GotP (pChange true) shChange aggF w p text s) := by
  obtain ⟨ii, hi, hz0, hz1, hz2⟩ := info_parts info_cert
  obtain ⟨w1, hw1⟩ : ∃ u, u = w.alloc (.cells #[.pointer (some ⟨p, 0, none⟩)] 71 (0, 0)) := ⟨_, rfl⟩
  obtain ⟨w2, hw2⟩ : ∃ u, u = w1.alloc (.cells #[.int .i64 0, .int .i64 0, .slice none 0 0, .int .i64 0, .string ⟨#[]⟩] 86 (0, 0)) := ⟨_, rfl⟩
  have b1 : Below w.heap.size w w1 := by rw [hw1]; exact below_alloc _ _
  have hzz : w1.heap.size = w.heap.size + 1 := by rw [hw1]; simp
  have b2 : Below w1.heap.size w1 w2 := by rw [hw2]; exact below_alloc _ _
  have K1 := Lib.hid (show w2.heap[w.heap.size]? = some (.cells #[.pointer (some ⟨p, 0, none⟩)] 71 (0, 0)) from blk_below (by rw [hw1]; exact blk_alloc _ _) b2)
  have K2 := Lib.hid (show w2.heap[w.heap.size + 1]? = some (.cells #[.int .i64 0, .int .i64 0, .slice none 0 0, .int .i64 0, .string ⟨#[]⟩] 86 (0, 0)) by rw [← hzz, hw2]; exact blk_alloc _ _)
  have B2 := Lib.hid (bthen b1 b2)
  have hp := prd_lt h
  have C1 := Lib.hid (rbyte_got p text s w2 (prd_below h B2.out))
  have PS := Lib.hid (fun ce s' hn h => pr_change (s := s) (s' := s') (ce := ce) hn h)
  have NS1 := Lib.hid (fun h => no_change1 (s := s) h)
  have NS2 := Lib.hid (fun h => no_change2 (s := s) h)
  have I1 := Lib.hid (rVal_i64 s 1 (by decide))
  have I2 := Lib.hid (rVal_i64 (rNext s 1) 1 (by decide))
  have hlt := rVal_lt (rNext (rNext s 1) 1) 1
  have C2 := Lib.hid (fun w h => rbyte_got p text (rNext s 1) w h)
  have C3 := Lib.hid (fun w h => rbyte_got p text (rNext (rNext s 1) 1) w h)
  have CM := Lib.hid (fun ok w h => must_any ok p text (rNext (rNext (rNext s 1) 1) 1) w h)
  have a0 : w2.cell? ⟨w.heap.size, 0, none⟩ = some (.pointer (some ⟨p, 0, none⟩)) := by rw [blk_cell K1.out]; rfl
  generalize rVal (rNext (rNext s 1) 1) 1 = N3 at *
  generalize rNext (rNext (rNext s 1) 1) 1 = s3 at *
  generalize rNext (rNext s 1) 1 = s2 at *
  generalize rVal (rNext s 1) 1 = N2 at *
  generalize rNext s 1 = s1 at *
  generalize rVal s 1 = N1 at *
  clear h b1 b2 hzz
  go_enter Tryz.func78, Tryz.ntmps78
  go_upto_region 1 with (fail)
  rw [← hw1, ← hw2]
  clear hw1 hw2
  go_wp2_with fail
  refine C1.out.mono ?_
  rintro e w3 ⟨rfl, hr3, ho3⟩
  have hz3 := ho3.size
  have hsz2 := B2.out.size
  have hz20 := blk_lt K2.out
  have k1 := (ho3.block _ (blk_lt K1.out) (by omega)).trans K1.out
  have k2 := (ho3.block _ (blk_lt K2.out) (by omega)).trans K2.out
  obtain ⟨w4, hw4⟩ : ∃ u, u = w3.alloc (.cells #[.int .i64 (N1 : Int), .int .i64 0, .slice none 0 0, .int .i64 0, .string ⟨#[]⟩] 86 (0, 0)) := ⟨_, rfl⟩
  have b4 : Below w3.heap.size w3 w4 := by rw [hw4]; exact below_alloc _ _
  have hz4 : w4.heap.size = w3.heap.size + 1 := by rw [hw4]; simp
  have KC4 := Lib.hid (show w4.heap[w3.heap.size]? = some (.cells #[.int .i64 (N1 : Int), .int .i64 0, .slice none 0 0, .int .i64 0, .string ⟨#[]⟩] 86 (0, 0)) by rw [hw4]; exact blk_alloc _ _)
  have KR := Lib.hid (blk_below k1 b4)
  have KS := Lib.hid (blk_below k2 b4)
  have R4 := Lib.hid (prd_below hr3 b4)
  have O4 := Lib.hid (keep_then (keep_then (Keep.of_below B2.out) ho3) (Keep.of_below b4))
  have hpq : p < w3.heap.size := by omega
  have hHq : w.heap.size + 1 < w3.heap.size := by omega
  have c0 : w4.cell? ⟨w.heap.size, 0, none⟩ = some (.pointer (some ⟨p, 0, none⟩)) := by rw [blk_cell KR.out]; rfl
  have CC2 := Lib.hid (C2.out w4 R4.out)
  clear hr3 ho3 k1 k2 b4 a0 C1 K1 K2 C2
  go_upto_region 2 with (fail)
  rw [← hw4]
  clear hw4
  generalize w3.heap.size = q at *
  go_wp2_with fail
  refine CC2.out.mono ?_
  rintro e w5 ⟨rfl, hr5, ho5⟩
  have kc5 := (ho5.block _ (blk_lt KC4.out) (by omega)).trans KC4.out
  obtain ⟨w6, hw6⟩ : ∃ u, u = w5.setCell ⟨q, 1, none⟩ (.int .i64 (N2 : Int)) := ⟨_, rfl⟩
  have KC6 := Lib.hid (show w6.heap[q]? = some (.cells #[.int .i64 (N1 : Int), .int .i64 (N2 : Int), .slice none 0 0, .int .i64 0, .string ⟨#[]⟩] 86 (0, 0)) by rw [hw6, blk_set kc5 1 _]; rfl)
  have Q6 := Lib.hid (show Keep (fun k => k = p ∨ k = q) w4 w6 by rw [hw6]; exact (keep_mono14 ho5 (fun k h => .inl h)).set (.inr (.inr rfl)) _ _)
  have R6 := Lib.hid (show PRd w6 p text s2 by rw [hw6]; exact prd_set hr5 _ _ (by omega))
  have kr6 := (Q6.out.block _ (blk_lt KR.out) (by omega)).trans KR.out
  have d0 : w6.cell? ⟨w.heap.size, 0, none⟩ = some (.pointer (some ⟨p, 0, none⟩)) := by rw [blk_cell kr6]; rfl
  have e1 : w5.cell? ⟨q, 1, none⟩ = some (.int .i64 0) := by rw [blk_cell kc5]; rfl
  have e2 : w5.frozen? ⟨q, 1, none⟩ = false := blk_frozen kc5 1
  have CC3 := Lib.hid (C3.out w6 R6.out)
  clear hr5 ho5 kc5 kr6 c0 CC2 C3 KC4
  go_upto_region 3 with (fail)
  rw [← hw6]
  clear hw6 e1 e2
  go_wp2_with fail
  refine CC3.out.mono ?_
  rintro e w7 ⟨rfl, hr7, ho7⟩
  have Q7 := Lib.hid (Q6.out.trans (keep_mono14 (Y := fun k => k = p ∨ k = q) ho7 (fun k h => .inl h)) (fun _ _ h => h))
  have KC7 := Lib.hid ((ho7.block _ (blk_lt KC6.out) (by omega)).trans KC6.out)
  have R7 := Lib.hid hr7
  have kr7 := (Q7.out.block _ (blk_lt KR.out) (by omega)).trans KR.out
  have f0 : w7.cell? ⟨w.heap.size, 0, none⟩ = some (.pointer (some ⟨p, 0, none⟩)) := by rw [blk_cell kr7]; rfl
  clear hr7 ho7 kr7 d0 CC3 R6 Q6 KC6
  go_wp2_with fail
  refine (CM.out _ w7 R7.out).mono ?_
  rintro e w8 ⟨b8, he⟩
  have R8 := Lib.hid (prd_below R7.out b8)
  have Q8 := Lib.hid (Q7.out.trans (Keep.of_below (X := fun k => k = p ∨ k = q) b8) (fun _ _ h => h))
  have KC8 := Lib.hid (blk_below KC7.out b8)
  have HFN := Lib.hid (fun (u : World) (hu : Keep (fun k => k = p ∨ k = q) w4 u) => (O4.out.trans (X := fun k => k = p) hu (fun k hk h => h.elim id (fun h => by omega)) : Keep (fun k => k = p) w u))
  clear b8 f0 CM R7 Q7 KC7
  cases hm : (decide ((N3 : Int) ≤ 4) && !s3.bad) with
  | false =>
    rw [hm, if_neg (by decide)] at he
    subst he
    go_wp2_with fail
    exact ⟨rfl, HFN.out _ Q8.out, .inl ⟨rfl, NS1.out hm⟩⟩
  | true =>
  rw [hm, if_pos rfl] at he
  subst he
  rw [Bool.and_eq_true] at hm
  have hN : N3 ≤ 4 := by have := of_decide_eq_true hm.1; omega
  clear hm NS1 hlt
  go_wp2_with fail
  go_loopw [22] (fun i wr => ∃ k : Nat, ∃ acc : List Ce, ∃ s' : R, ∃ v : Value, k ≤ N3 ∧ i = .int .i64 k ∧ acc.length = k ∧ Hid (Pr (pRep (pCert true) k) s3 acc s') ∧ Hid (PRd wr p text s') ∧ Hid (RowIn shCert 144 (q + 1) wr v acc) ∧ Hid (wr.heap[q]? = some (.cells #[.int .i64 (N1 : Int), .int .i64 (N2 : Int), v, .int .i64 0, .string ⟨#[]⟩] 86 (0, 0))) ∧ Hid (Keep (fun k => k = p ∨ k = q) w4 wr)) (fun i _ => N3 - (intOf i).toNat)
  case atStart => exact ⟨0, [], s3, _, by omega, rfl, rfl, Lib.hid (Pr.ret _ _), R8, Lib.hid RowIn.nil, KC8, Q8⟩
  case round =>
    clear R8 Q8 KC8
    obtain ⟨k, acc, s', v, hk, rfl, hacc, HP, HR, HO, HC, HK⟩ := hrel
    obtain ⟨va, vn, vc, rfl, hvn⟩ := HO.out.form
    have HR1 := Lib.hid ((HK.out.block _ (blk_lt KR.out) (by omega)).trans KR.out)
    have hsz := HK.out.size
    by_cases hlk : k < N3
    · have hd : decide ((k : Int) < (N3 : Int)) = true := by simp; omega
      have y0 : wr.cell? ⟨w.heap.size, 0, none⟩ = some (.pointer (some ⟨p, 0, none⟩)) := by rw [blk_cell HR1.out]; rfl
      have PC := Lib.hid (fun q sg s3 s4 h1 h2 => pr_cert (s := s') (s3 := s3) (s4 := s4) (q := q) (sg := sg) h1 h2)
      have NC1 := Lib.hid (fun h => no_cert1 (s := s') h)
      have NC2 := Lib.hid (fun q s3 h1 h => no_cert2 (s := s') (s3 := s3) (q := q) h1 h)
      have J1 := Lib.hid (rVal_i64 s' 1 (by decide))
      have J2 := Lib.hid (rVal_i64 (rNext s' 1) 2 (by decide))
      have D1 := Lib.hid (rbyte_got p text s' wr HR.out)
      have D2 := Lib.hid (fun w h => rword_got p text (rNext s' 1) w h)
      have D3 := Lib.hid (fun w h => rreq_any p text (rNext (rNext s' 1) 2) w h)
      generalize rNext (rNext s' 1) 2 = t2 at *
      generalize rVal (rNext s' 1) 2 = M2 at *
      generalize rNext s' 1 = t1 at *
      generalize rVal s' 1 = M1 at *
      go_wp2_with fail
      refine D1.out.mono ?_
      rintro e u3 ⟨rfl, hr3, ho3⟩
      have hu3 := ho3.size
      obtain ⟨u4, hw4⟩ : ∃ u, u = u3.alloc (.cells #[.int .i64 (M1 : Int), .int .i64 0, .int .i64 0, .int .i64 0, .int .i64 0, .string ⟨#[]⟩, .float .f64 0, .int .i64 0, .slice none 0 0] 144 (0, 0)) := ⟨_, rfl⟩
      have b4 : Below u3.heap.size u3 u4 := by rw [hw4]; exact below_alloc _ _
      have hu4 : u4.heap.size = u3.heap.size + 1 := by rw [hw4]; simp
      have X4 := Lib.hid (show u4.heap[u3.heap.size]? = some (.cells #[.int .i64 (M1 : Int), .int .i64 0, .int .i64 0, .int .i64 0, .int .i64 0, .string ⟨#[]⟩, .float .f64 0, .int .i64 0, .slice none 0 0] 144 (0, 0)) by rw [hw4]; exact blk_alloc _ _)
      have V4 := Lib.hid (keep_then ho3 (Keep.of_below b4))
      have R4' := Lib.hid (prd_below hr3 b4)
      have hqc : q < wr.heap.size := blk_lt HC.out
      have kr4 := (V4.out.block _ (blk_lt HR1.out) (by omega)).trans HR1.out
      have y1 : u4.cell? ⟨w.heap.size, 0, none⟩ = some (.pointer (some ⟨p, 0, none⟩)) := by rw [blk_cell kr4]; rfl
      have DD2 := Lib.hid (D2.out u4 R4'.out)
      clear hr3 ho3 b4 kr4 y0 D1 D2
      go_upto_region 8 with (fail)
      rw [← hw4]
      clear hw4
      generalize u3.heap.size = cb at *
      go_wp2_with fail
      refine DD2.out.mono ?_
      rintro e u5 ⟨rfl, hr5, ho5⟩
      have hu5 := ho5.size
      have x5 := (ho5.block _ (blk_lt X4.out) (by omega)).trans X4.out
      obtain ⟨u6, hw6⟩ : ∃ u, u = u5.setCell ⟨cb, 1, none⟩ (.int .i64 (M2 : Int)) := ⟨_, rfl⟩
      have hu6 : u6.heap.size = u5.heap.size := by rw [hw6]; simp [World.setCell]
      have X6 := Lib.hid (show u6.heap[cb]? = some (.cells #[.int .i64 (M1 : Int), .int .i64 (M2 : Int), .int .i64 0, .int .i64 0, .int .i64 0, .string ⟨#[]⟩, .float .f64 0, .int .i64 0, .slice none 0 0] 144 (0, 0)) by rw [hw6, blk_set x5 1 _]; rfl)
      have V6 := Lib.hid (show Keep (fun k => k = p) wr u6 by rw [hw6]; exact (keep_then V4.out ho5).set (.inl (by omega)) _ _)
      have R6 := Lib.hid (show PRd u6 p text t2 by rw [hw6]; exact prd_set hr5 _ _ (by omega))
      have kr6 := (V6.out.block _ (blk_lt HR1.out) (by omega)).trans HR1.out
      have y2 : u6.cell? ⟨w.heap.size, 0, none⟩ = some (.pointer (some ⟨p, 0, none⟩)) := by rw [blk_cell kr6]; rfl
      have e1 : u5.cell? ⟨cb, 1, none⟩ = some (.int .i64 0) := by rw [blk_cell x5]; rfl
      have e2 : u5.frozen? ⟨cb, 1, none⟩ = false := blk_frozen x5 1
      have DD3 := Lib.hid (D3.out u6 R6.out)
      clear hr5 ho5 x5 kr6 y1 DD2 D3 X4 V4
      go_upto_region 9 with (fail)
      rw [← hw6]
      clear hw6 e1 e2
      go_wp2_with fail
      refine DD3.out.mono ?_
      rintro e u7 ⟨ho7, h7⟩
      rcases h7 with ⟨rfl, hno⟩ | ⟨⟨qc, qs, qk, qt, qb, qi⟩, t3, cs, rfl, hpr, hr7, hE7⟩
      · have HQ := Lib.hid (HFN.out _ (HK.out.trans (keep_mono14 (Y := fun k => k = p ∨ k = q) (keep_then V6.out ho7) (fun k h => .inl h)) (fun _ _ h => h)))
        have HNO := Lib.hid (NS2.out (No.rep HP.out (NC1.out hno) hlk))
        clear hno
        go_wp2_with fail
        exact ⟨rfl, HQ.out, .inl ⟨rfl, HNO.out⟩⟩
      obtain ⟨rfl, hqok⟩ := req_open hE7.self
      have hu7 := ho7.size
      have x7 := (ho7.block _ (blk_lt X6.out) (by omega)).trans X6.out
      obtain ⟨u8, hw8⟩ : ∃ u, u = ((((((u7.setCell ⟨cb, 2, none⟩ (.int .i64 qc)).setCell ⟨cb, 3, none⟩ (.int .i64 qs)).setCell ⟨cb, 4, none⟩ (.int .i64 qk)).setCell ⟨cb, 5, none⟩ (.string qt)).setCell ⟨cb, 6, none⟩ (.float .f64 qb)).setCell ⟨cb, 7, none⟩ (.int .i64 qi)) := ⟨_, rfl⟩
      have hu8 : u8.heap.size = u7.heap.size := by rw [hw8]; simp [World.setCell]
      have X8 := Lib.hid (show u8.heap[cb]? = some (.cells #[.int .i64 (M1 : Int), .int .i64 (M2 : Int), .int .i64 qc, .int .i64 qs, .int .i64 qk, .string qt, .float .f64 qb, .int .i64 qi, .slice none 0 0] 144 (0, 0)) by rw [hw8]; exact (blk_set (blk_set (blk_set (blk_set (blk_set (blk_set x7 2 (.int .i64 qc)) 3 (.int .i64 qs)) 4 (.int .i64 qk)) 5 (.string qt)) 6 (.float .f64 qb)) 7 (.int .i64 qi)).trans (by simp only [List.setIfInBounds_toArray, List.set_cons_succ, List.set_cons_zero]))
      have V8 := Lib.hid (show Keep (fun k => k = p) wr u8 by rw [hw8]; exact (Keep.set (Keep.set (Keep.set (Keep.set (Keep.set (Keep.set (keep_then V6.out ho7) (.inl (by omega)) 2 (.int .i64 qc)) (.inl (by omega)) 3 (.int .i64 qs)) (.inl (by omega)) 4 (.int .i64 qk)) (.inl (by omega)) 5 (.string qt)) (.inl (by omega)) 6 (.float .f64 qb)) (.inl (by omega)) 7 (.int .i64 qi)))
      have R8 := Lib.hid (show PRd u8 p text t3 by rw [hw8]; exact (prd_set (prd_set (prd_set (prd_set (prd_set (prd_set hr7 2 (.int .i64 qc) (by omega)) 3 (.int .i64 qs) (by omega)) 4 (.int .i64 qk) (by omega)) 5 (.string qt) (by omega)) 6 (.float .f64 qb) (by omega)) 7 (.int .i64 qi) (by omega)))
      have kr8 := (V8.out.block _ (blk_lt HR1.out) (by omega)).trans HR1.out
      have y3 : u8.cell? ⟨w.heap.size, 0, none⟩ = some (.pointer (some ⟨p, 0, none⟩)) := by rw [blk_cell kr8]; rfl
      have e2 : u7.cell? ⟨cb, 2, none⟩ = some (.int .i64 0) := by rw [blk_cell x7]; rfl
      have f2 : u7.frozen? ⟨cb, 2, none⟩ = false := blk_frozen x7 2
      have e3 : u7.cell? ⟨cb, 3, none⟩ = some (.int .i64 0) := by rw [blk_cell x7]; rfl
      have f3 : u7.frozen? ⟨cb, 3, none⟩ = false := blk_frozen x7 3
      have e4 : u7.cell? ⟨cb, 4, none⟩ = some (.int .i64 0) := by rw [blk_cell x7]; rfl
      have f4 : u7.frozen? ⟨cb, 4, none⟩ = false := blk_frozen x7 4
      have e5 : u7.cell? ⟨cb, 5, none⟩ = some (.string ⟨#[]⟩) := by rw [blk_cell x7]; rfl
      have f5 : u7.frozen? ⟨cb, 5, none⟩ = false := blk_frozen x7 5
      have e6 : u7.cell? ⟨cb, 6, none⟩ = some (.float .f64 0) := by rw [blk_cell x7]; rfl
      have f6 : u7.frozen? ⟨cb, 6, none⟩ = false := blk_frozen x7 6
      have e7 : u7.cell? ⟨cb, 7, none⟩ = some (.int .i64 0) := by rw [blk_cell x7]; rfl
      have f7 : u7.frozen? ⟨cb, 7, none⟩ = false := blk_frozen x7 7
      have HQOK := Lib.hid hqok
      have HPR := Lib.hid hpr
      have DD4 := Lib.hid (rsigs_any p text t3 u8 R8.out)
      clear hr7 ho7 x7 kr8 hE7 hqok hpr y2 DD3 X6 V6
      simp only [Rq.cs, aggF]
      go_upto_region 10 with (fail)
      rw [← hw8]
      clear hw8 e2 e3 e4 e5 e6 e7 f2 f3 f4 f5 f6 f7
      go_wp2_with fail
      refine DD4.out.mono ?_
      rintro e u9 ⟨ho9, h9⟩
      rcases h9 with ⟨rfl, hno⟩ | ⟨sg, t4, cs, rfl, hps, hr9, hE9⟩
      · have HQ := Lib.hid (HFN.out _ (HK.out.trans (keep_mono14 (Y := fun k => k = p ∨ k = q) (keep_then V8.out ho9) (fun k h => .inl h)) (fun _ _ h => h)))
        have HNO := Lib.hid (NS2.out (No.rep HP.out (NC2.out _ _ HPR.out hno) hlk))
        clear hno
        go_wp2_with fail
        exact ⟨rfl, HQ.out, .inl ⟨rfl, HNO.out⟩⟩
      obtain ⟨sa, sn, sc, rfl, hS9⟩ := rob_slice hE9
      have hu9 := ho9.size
      have x9 := (ho9.block _ (blk_lt X8.out) (by omega)).trans X8.out
      obtain ⟨u10, hw10⟩ : ∃ u, u = u9.setCell ⟨cb, 8, none⟩ (.slice sa sn sc) := ⟨_, rfl⟩
      have hu10 : u10.heap.size = u9.heap.size := by rw [hw10]; simp [World.setCell]
      have X10 := Lib.hid (show u10.heap[cb]? = some (.cells #[.int .i64 (M1 : Int), .int .i64 (M2 : Int), .int .i64 qc, .int .i64 qs, .int .i64 qk, .string qt, .float .f64 qb, .int .i64 qi, .slice sa sn sc] 144 (0, 0)) by rw [hw10]; exact (blk_set x9 8 _).trans (by simp only [List.setIfInBounds_toArray, List.set_cons_succ, List.set_cons_zero]))
      have V10 := Lib.hid (show Keep (fun k => k = p) wr u10 by rw [hw10]; exact Keep.set (keep_then V8.out ho9) (.inl (by omega)) _ _)
      have R10 := Lib.hid (show PRd u10 p text t4 by rw [hw10]; exact prd_set hr9 _ _ (by omega))
      have S10 := Lib.hid (show Rob (fun k => k < u8.heap.size ∨ u9.heap.size ≤ k) (fun u => SlAt shSig u sa sn sc sg) u10 by rw [hw10]; exact hS9.step (Keep.set (Keep.refl (fun k => k = cb) u9) (.inr rfl) 8 (.slice sa sn sc)) (fun k _ hk => by omega) (fun k _ hk => by omega))
      have g1 : u9.cell? ⟨cb, 8, none⟩ = some (.slice none 0 0) := by rw [blk_cell x9]; rfl
      have g2 : u9.frozen? ⟨cb, 8, none⟩ = false := blk_frozen x9 8
      have HPY := Lib.hid (PC.out _ _ _ _ HPR.out hps)
      clear hr9 ho9 x9 hE9 hps hS9 y3 DD4 X8 V8 R8 HPR
      simp only [oneF, List.headD_cons]
      go_upto_region 11 with (fail)
      rw [← hw10]
      clear hw10 g1 g2
      obtain ⟨xs, M, o1, o2, o3, o4⟩ := HO.out
      obtain rfl : vn = k := by omega
      clear hvn
      rw [hacc] at o1
      have HO10 := Lib.hid (owns_keep o1 V10.out (fun k hk hc => by have := (o1.lt k hk).1; omega))
      have HR10 := Lib.hid (o2.step (X' := fun k => ¬ M k) V10.out (fun k _ hc hm => by have := (o3 k hm).1; omega) (fun _ _ h => h))
      have kc10 := (V10.out.block _ hqc (by omega)).trans HC.out
      have z2 : u10.cell? ⟨q, 2, none⟩ = some (.slice va vn vc) := by rw [blk_cell kc10]; rfl
      have x0 : u10.cell? ⟨cb, 0, none⟩ = some (.int .i64 (M1 : Int)) := by rw [blk_cell X10.out]; rfl
      have x1 : u10.cell? ⟨cb, 1, none⟩ = some (.int .i64 (M2 : Int)) := by rw [blk_cell X10.out]; rfl
      have x2 : u10.cell? ⟨cb, 2, none⟩ = some (.int .i64 qc) := by rw [blk_cell X10.out]; rfl
      have x3 : u10.cell? ⟨cb, 3, none⟩ = some (.int .i64 qs) := by rw [blk_cell X10.out]; rfl
      have x4 : u10.cell? ⟨cb, 4, none⟩ = some (.int .i64 qk) := by rw [blk_cell X10.out]; rfl
      have x5 : u10.cell? ⟨cb, 5, none⟩ = some (.string qt) := by rw [blk_cell X10.out]; rfl
      have x6 : u10.cell? ⟨cb, 6, none⟩ = some (.float .f64 qb) := by rw [blk_cell X10.out]; rfl
      have x7 : u10.cell? ⟨cb, 7, none⟩ = some (.int .i64 qi) := by rw [blk_cell X10.out]; rfl
      have x8 : u10.cell? ⟨cb, 8, none⟩ = some (.slice sa sn sc) := by rw [blk_cell X10.out]; rfl
      obtain ⟨u11, hw11⟩ : ∃ u, u = u10.alloc (.cells #[.int .i64 (M1 : Int), .int .i64 (M2 : Int), .int .i64 qc, .int .i64 qs, .int .i64 qk, .string qt, .float .f64 qb, .int .i64 qi, .slice sa sn sc] 144 (0, 0)) := ⟨_, rfl⟩
      have b11 : Below u10.heap.size u10 u11 := by rw [hw11]; exact below_alloc _ _
      have hu11 : u11.heap.size = u10.heap.size + 1 := by rw [hw11]; simp
      have k11 : u11.heap[u9.heap.size]? = some (.cells #[.int .i64 (M1 : Int), .int .i64 (M2 : Int), .int .i64 qc, .int .i64 qs, .int .i64 qk, .string qt, .float .f64 qb, .int .i64 qi, .slice sa sn sc] 144 (0, 0)) := by rw [hw11, ← hu10]; exact blk_alloc _ _
      have HO11 := Lib.hid (owns_old HO10.out b11)
      have HR11 := Lib.hid (HR10.out.step (X' := fun k => ¬ M k) (Keep.of_below (X := fun _ => False) b11) (fun _ _ h => h.elim) (fun _ _ h => h))
      have R11 := Lib.hid (prd_below R10.out b11)
      have S11 := Lib.hid (S10.out.step (X' := fun k => k < u8.heap.size ∨ u9.heap.size ≤ k) (Keep.of_below (X := fun _ => False) b11) (fun _ _ h => h.elim) (fun _ _ h => h))
      have KC11 := Lib.hid (blk_below kc10 b11)
      have V11 := Lib.hid (keep_then V10.out (Keep.of_below b11))
      have hnews : ∀ ad, some (⟨u9.heap.size, 0, none⟩ : Addr) = some ad → ∀ j u, ([.int .i64 (M1 : Int), .int .i64 (M2 : Int), .int .i64 qc, .int .i64 qs, .int .i64 qk, .string qt, .float .f64 qb, .int .i64 qi, .slice sa sn sc] : List Value)[j]? = some u → u11.cell? (ad.add j) = some u := fun ad had j u hj => by
        injection had with had
        subst had
        rw [Addr.add_lit, blk_cell k11, ← hj]
        simp
      have HNW := Lib.hid hnews
      have hm1 : vn + 1 ≤ maxLen := by unfold maxLen; omega
      have hm2 : (vn + 1) * 96 ≤ 140737488355328 := by omega
      have hB11 : q + 1 ≤ u11.heap.size := by omega
      have HO3 := Lib.hid o3; have HO4 := Lib.hid o4
      have HOL := Lib.hid (fun k hk => (o1.lt k hk))
      clear b11 k11 kc10 hnews o1 o2 o3 o4 HO HO10 HR10 S10 R10 V10
      go_wp2_with (first | (at_builtin; rw [← hw11]; clear hw11; refine wpList_append_any_at _ rfl (.tmp 39) (.tmp 41) 82 rfl (q + 1) 144 ii (.agg #[.int .i64 0, .int .i64 0, .int .i64 0, .int .i64 0, .int .i64 0, .string ⟨#[]⟩, .float .f64 0, .int .i64 0, .slice none 0 0]) 9 96 Tryz.underlying82 hi hz0 hz1 hz2 rfl (by decide) (.slice va vn vc) vn xs rfl HO11.out (some ⟨u9.heap.size, 0, none⟩) 1 1 [.int .i64 (M1 : Int), .int .i64 (M2 : Int), .int .i64 qc, .int .i64 qs, .int .i64 qk, .string qt, .float .f64 qb, .int .i64 qi, .slice sa sn sc] rfl rfl (by simp) HNW.out (by simp [Value.oneCell']) hm1 hm2 hB11 ?_) | fail)
      intro v' w8 ho8 hg8 hor8
      obtain ⟨a8, c8, rfl⟩ := owns_form ho8
      have hqo : (Value.slice va vn vc).ownBlock ≠ some q := fun hc => by have := (HOL.out q hc).1; omega
      have hpo : (Value.slice va vn vc).ownBlock ≠ some p := fun hc => by have := (HOL.out p hc).1; omega
      have kc12 := (hg8.block q (blk_lt KC11.out) (fun hc => hqo hc.symm)).trans KC11.out
      have R12 := prd_block R11.out (hg8.block p (by omega) (fun hc => hpo hc.symm))
      have RI := RowIn.snoc (S := shCert) (B := q + 1) (E0 := u8.heap.size) (E1 := u9.heap.size) (y := (⟨M1, M2, ⟨qc, qs, qk, qt, qb, qi⟩, sg⟩ : Ce)) (cs := [.int .i64 (M1 : Int), .int .i64 (M2 : Int), .int .i64 qc, .int .i64 qs, .int .i64 qk, .string qt, .float .f64 qb, .int .i64 qi, .slice sa sn sc]) (by rw [hacc]; exact HO11.out) HR11.out (fun k hk => ⟨(HO3.out k hk).1, by have := (HO3.out k hk).2; omega⟩) (fun k hk => ⟨HO4.out k hk, by have := (HOL.out k hk).2; omega⟩) rfl (S11.out.mono fun u hu => cert_make J1.out J2.out HQOK.out hu) (by omega) (by omega) (by rw [hacc]; exact ho8) hg8 (by rw [hu11, hu10]; exact hor8)
      have V12 : Keep (fun k => k = p ∨ k = q) w4 w8 := HK.out.trans (Keep.grown (keep_mono14 (Y := fun k => k = p ∨ (Value.slice va vn vc).ownBlock = some k) V11.out (fun k h => .inl h)) hg8 (fun k hk => .inr (.inr hk))) (fun k hk h => h.elim .inl (fun h => by have := (HOL.out k h).1; omega))
      have m8 : w8.cell? ⟨q, 2, none⟩ = some (.slice va vn vc) := by rw [blk_cell kc12]; rfl
      have m9 : w8.frozen? ⟨q, 2, none⟩ = false := blk_frozen kc12 2
      have FC := Lib.hid (show (w8.setCell ⟨q, 2, none⟩ (.slice a8 (vn + 1) c8)).heap[q]? = some (.cells #[.int .i64 (N1 : Int), .int .i64 (N2 : Int), .slice a8 (vn + 1) c8, .int .i64 0, .string ⟨#[]⟩] 86 (0, 0)) by rw [blk_set kc12 2 _]; rfl)
      have FK := Lib.hid (V12.set (.inr (.inr rfl)) 2 (.slice a8 (vn + 1) c8))
      have FR := Lib.hid (prd_set R12 2 (.slice a8 (vn + 1) c8) (g := q) (by omega))
      have FI := Lib.hid (RI.keep (Keep.set (Keep.refl (fun k => k = q) w8) (.inr rfl) 2 (.slice a8 (vn + 1) c8)) (fun k hk => by omega))
      have FP := Lib.hid (HP.out.snoc HPY.out)
      have lq8 := blk_lt kc12
      clear kc12 R12 RI V12 ho8 hg8 hor8 HO11 HR11 R11 S11 KC11 V11 HNW hqo hpo HOL HO3 HO4 x0 x1 x2 x3 x4 x5 x6 x7 x8 z2 X10 HPY HP HK HC
      go_wp2_with fail
      go_roundw
      case rel => exact ⟨vn + 1, _, t4, _, by omega, by go_num, by simp [hacc], FP, FR, FI, FC, FK⟩
      case measure => simp [intOf]; omega
    · have hd : decide ((k : Int) < (N3 : Int)) = false := by simp; omega
      obtain rfl : k = N3 := by omega
      obtain rfl : vn = k := by omega
      clear hvn
      have D1 := Lib.hid (rsig_got p text s' wr HR.out)
      have PY := Lib.hid (PS.out acc s' hN HP.out)
      have y0 : wr.cell? ⟨w.heap.size, 0, none⟩ = some (.pointer (some ⟨p, 0, none⟩)) := by rw [blk_cell HR1.out]; rfl
      have HSS := Lib.hid ((HK.out.block _ (blk_lt KS.out) (by omega)).trans KS.out)
      have G1 := Lib.hid (sgV_i64 s'); have G2 := Lib.hid (sgV_len s')
      generalize sgV s' = V at *
      generalize sgN s' = s5 at *
      obtain ⟨sx, st⟩ := V
      go_wp2_with fail
      refine D1.out.mono ?_
      rintro e u3 ⟨rfl, hr3, ho3⟩
      have hpw : q < wr.heap.size := blk_lt HC.out
      have kc3 := (ho3.block _ hpw (by omega)).trans HC.out
      have ks3 := (ho3.block _ (blk_lt HSS.out) (by omega)).trans HSS.out
      obtain ⟨u4, hw4⟩ : ∃ u, u = (u3.setCell ⟨q, 3, none⟩ (.int .i64 sx)).setCell ⟨q, 4, none⟩ (.string st) := ⟨_, rfl⟩
      have KC4 := Lib.hid (show u4.heap[q]? = some (.cells #[.int .i64 (N1 : Int), .int .i64 (N2 : Int), .slice va vn vc, .int .i64 sx, .string st] 86 (0, 0)) by rw [hw4]; exact (blk_set (blk_set kc3 3 (.int .i64 sx)) 4 (.string st)).trans (by simp only [List.setIfInBounds_toArray, List.set_cons_succ, List.set_cons_zero]))
      have KS4 := Lib.hid (show u4.heap[w.heap.size + 1]? = some (.cells #[.int .i64 0, .int .i64 0, .slice none 0 0, .int .i64 0, .string ⟨#[]⟩] 86 (0, 0)) by rw [hw4]; exact blk_set_other (blk_set_other ks3 q 3 _ (by omega)) q 4 _ (by omega))
      have Q4 := Lib.hid (show Keep (fun k => k = p ∨ k = q) wr u4 by rw [hw4]; exact Keep.set (Keep.set (keep_mono14 (Y := fun k => k = p ∨ k = q) ho3 (fun k h => .inl h)) (.inr (.inr rfl)) 3 (.int .i64 sx)) (.inr (.inr rfl)) 4 (.string st))
      have R4 := Lib.hid (show PRd u4 p text s5 by rw [hw4]; exact prd_set (prd_set hr3 3 (.int .i64 sx) (by omega)) 4 (.string st) (by omega))
      have e3 : u3.cell? ⟨q, 3, none⟩ = some (.int .i64 0) := by rw [blk_cell kc3]; rfl
      have e4 : u3.cell? ⟨q, 4, none⟩ = some (.string ⟨#[]⟩) := by rw [blk_cell kc3]; rfl
      have z3 : u3.frozen? ⟨q, 3, none⟩ = false := blk_frozen kc3 3
      have z4 : u3.frozen? ⟨q, 4, none⟩ = false := blk_frozen kc3 4
      clear hr3 ho3 kc3 ks3 y0 D1
      go_upto_region 14 with (fail)
      rw [← hw4]
      clear hw4 e3 e4 z3 z4
      have c0 : u4.cell? ⟨q, 0, none⟩ = some (.int .i64 (N1 : Int)) := by rw [blk_cell KC4.out]; rfl
      have c1 : u4.cell? ⟨q, 1, none⟩ = some (.int .i64 (N2 : Int)) := by rw [blk_cell KC4.out]; rfl
      have c2 : u4.cell? ⟨q, 2, none⟩ = some (.slice va vn vc) := by rw [blk_cell KC4.out]; rfl
      have c3 : u4.cell? ⟨q, 3, none⟩ = some (.int .i64 sx) := by rw [blk_cell KC4.out]; rfl
      have c4 : u4.cell? ⟨q, 4, none⟩ = some (.string st) := by rw [blk_cell KC4.out]; rfl
      have d0 : u4.cell? ⟨w.heap.size + 1, 0, none⟩ = some (.int .i64 0) := by rw [blk_cell KS4.out]; rfl
      have d1 : u4.cell? ⟨w.heap.size + 1, 1, none⟩ = some (.int .i64 0) := by rw [blk_cell KS4.out]; rfl
      have d2 : u4.cell? ⟨w.heap.size + 1, 2, none⟩ = some (.slice none 0 0) := by rw [blk_cell KS4.out]; rfl
      have d3 : u4.cell? ⟨w.heap.size + 1, 3, none⟩ = some (.int .i64 0) := by rw [blk_cell KS4.out]; rfl
      have d4 : u4.cell? ⟨w.heap.size + 1, 4, none⟩ = some (.string ⟨#[]⟩) := by rw [blk_cell KS4.out]; rfl
      have zz : ∀ o, u4.frozen? ⟨w.heap.size + 1, o, none⟩ = false := fun o => blk_frozen KS4.out o
      go_wp2_with fail
      refine bodyPost_ret (v := .agg #[.int .i64 (N1 : Int), .int .i64 (N2 : Int), .slice va vn vc, .int .i64 sx, .string st]) (by simp [results, Tryz.results78, go_sem, d0, d1, d2, d3, d4]) rfl ?_
      have Q5 := HFN.out _ (HK.out.trans Q4.out (fun _ _ h => h))
      have hne : ¬ w.heap.size + 1 = p := by omega
      have hle : w.heap.size ≤ w.heap.size + 1 ∨ w.heap.size + 1 = p := .inl (by omega)
      refine ⟨Keep.set (Keep.set (Keep.set (Keep.set (Keep.set Q5 hle _ _) hle _ _) hle _ _) hle _ _) hle _ _, .inr ⟨⟨N1, N2, acc, (sx, st)⟩, s5, [.int .i64 (N1 : Int), .int .i64 (N2 : Int), .slice va vn vc, .int .i64 sx, .string st], rfl, PY.out, prd_set (prd_set (prd_set (prd_set (prd_set R4.out _ _ hne) _ _ hne) _ _ hne) _ _ hne) _ _ hne, ?_⟩⟩
      have RB := HO.out.rob (by omega) (show vn * 96 ≤ 140737488355328 by omega)
      have KK : Keep (fun k => k = p ∨ k = q ∨ k = w.heap.size + 1) wr u4 := keep_mono14 Q4.out (fun k h => h.elim .inl (fun h => .inr (.inl h)))
      have hx : ∀ (X : Nat → Prop), wr.heap.size ≤ w.heap.size + 1 ∨ (fun k => k = p ∨ k = q ∨ k = w.heap.size + 1) (w.heap.size + 1) := fun _ => .inr (.inr (.inr rfl))
      refine (RB.step (Keep.set (Keep.set (Keep.set (Keep.set (Keep.set KK (hx (fun _ => True)) _ _) (hx (fun _ => True)) _ _) (hx (fun _ => True)) _ _) (hx (fun _ => True)) _ _) (hx (fun _ => True)) _ _) (fun k _ hk => .inl (by omega)) (fun k _ hk => .inl (by omega))).mono fun u hu => change_make I1.out I2.out hu G1.out G2.out
end Go.Proofs.YtijeieamodjgbaaGreat

/- Wire: the reader's walks: link. -/
namespace Go.Proofs.YtijeieamodjgbaaGreat
set_option maxRecDepth 100000
open Go.RowKit Go.Deep
set_option linter.unusedVariables false
set_option linter.unusedSimpArgs false
attribute [local go_sem] run_store_float

theorem link_make {w : World} {e : Int} {l : List Int} {sg : List Sg} {a : Option Addr} {n c : Nat} {sa : Option Addr} {sn sc : Nat} (h1 : i64 e) (h2 : SlAt Sh.int w a n c l) (h3 : SlAt shSig w sa sn sc sg) : shLink.E w ((e, l), sg) [.int .i64 e, .slice a n c, .slice sa sn sc] :=
  ⟨[.int .i64 e, .slice a n c], [.slice sa sn sc], rfl, ⟨[.int .i64 e], [.slice a n c], rfl, ⟨rfl, h1⟩, a, n, c, rfl, h2⟩, sa, sn, sc, rfl, h3⟩
theorem readE_i64 (t : List UInt8) : i64 (readE t) := by
  unfold readE
  split
  · rename_i a b c d r
    have h1 := b.toNat_lt; have h2 := c.toNat_lt
    split
    · unfold i64; omega
    · exact ⟨by decide, by decide⟩
  · exact ⟨by decide, by decide⟩
theorem readL_small (t : List UInt8) : (readL t).length ≤ 100 := by
  unfold readL
  split
  · rename_i a b c d r
    split
    · rename_i h
      unfold okB at h
      simp only [rightB, risingB, Bool.and_eq_true, decide_eq_true_eq] at h
      omega
    · exact Nat.zero_le _
  · exact Nat.zero_le _
theorem pr_link {s s' : R} {sg : List Sg} (h : readC (tVal s) = 0) (hs : Pr (pSigs true) (tNext s) sg s') : Pr (pLink true) s ((readE (tVal s), readL (tVal s)), sg) s' := by
  unfold pLink
  exact (pr_text s).then ((hs.then (f := fun sg => pRet ((readE (tVal s), readL (tVal s)), sg)) (Pr.ret _ _)).if (by simpa using h))
theorem no_link1 {s : R} (h : (decide (readC (tVal s) = 0) && !(tNext s).bad) = false) : No (pLink true) s := by
  unfold pLink
  cases hb : (tNext s).bad with
  | true => exact ((pr_text s).bad hb).then
  | false =>
    rw [hb] at h
    exact No.step (pr_text s) (No.if (by simpa using h))
theorem no_link2 {s : R} (h : No (pSigs true) (tNext s)) : No (pLink true) s := by
  unfold pLink
  exact No.step (pr_text s) (no_if h.then)
set_option maxHeartbeats 2000000 in
theorem rlink_any (p : Nat) (text : ByteArray) (s : R) (w : World) (h : PRd w p text s) :
    Calls Tryz.prog 79 #[.agg #[.pointer (some ⟨p, 0, none⟩)]] w (GotP (pLink true) shLink aggF w p text s) := by
  obtain ⟨w1, hw1⟩ : ∃ u, u = w.alloc (.cells #[.pointer (some ⟨p, 0, none⟩)] 71 (0, 0)) := ⟨_, rfl⟩
  obtain ⟨w2, hw2⟩ : ∃ u, u = w1.alloc (.cells #[.int .i64 0, .slice none 0 0, .slice none 0 0] 93 (0, 0)) := ⟨_, rfl⟩
  have b1 : Below w.heap.size w w1 := by rw [hw1]; exact below_alloc _ _
  have hz1 : w1.heap.size = w.heap.size + 1 := by rw [hw1]; simp
  have b2 : Below w1.heap.size w1 w2 := by rw [hw2]; exact below_alloc _ _
  have K1 := Lib.hid (show w2.heap[w.heap.size]? = some (.cells #[.pointer (some ⟨p, 0, none⟩)] 71 (0, 0)) from blk_below (by rw [hw1]; exact blk_alloc _ _) b2)
  have K2 := Lib.hid (show w2.heap[w.heap.size + 1]? = some (.cells #[.int .i64 0, .slice none 0 0, .slice none 0 0] 93 (0, 0)) by rw [← hz1, hw2]; exact blk_alloc _ _)
  have B2 := Lib.hid (bthen b1 b2)
  have hp := prd_lt h
  have C1 := Lib.hid (rtext_got p text s w2 (prd_below h B2.out))
  have CM := Lib.hid (fun ok w h => must_any ok p text (tNext s) w h)
  have CQ0 : ∀ w, Calls Tryz.prog 127 #[.string ⟨(tVal s).toArray⟩] w (fun e w' => ∃ a n c, e = .returned (.tuple #[.agg #[.int .i64 (readE (tVal s)), .slice a n c], .int .i64 (readC (tVal s))]) ∧ IntsAt w' a n (readL (tVal s)) ∧ Below w.heap.size w w' ∧ w'.ownsRow w.heap.size 3 1 (.slice a n c) n (intsV (readL (tVal s)))) :=
    fun w => read_own ⟨(tVal s).toArray⟩ w (by have := tValLen s; simp only [ByteArray.size, List.size_toArray]; omega)
  have CQ := Lib.hid CQ0
  have HI := Lib.hid (readE_i64 (tVal s))
  have HLL := Lib.hid (readL_small (tVal s))
  have PS := Lib.hid (fun sg s' h1 h2 => pr_link (s := s) (s' := s') (sg := sg) h1 h2)
  have NS1 := Lib.hid (fun h => no_link1 (s := s) h)
  have NS2 := Lib.hid (fun h => no_link2 (s := s) h)
  have a0 : w2.cell? ⟨w.heap.size, 0, none⟩ = some (.pointer (some ⟨p, 0, none⟩)) := by rw [blk_cell K1.out]; rfl
  have hk2 := blk_lt K2.out
  clear CQ0
  generalize readE (tVal s) = E at *
  generalize readL (tVal s) = L at *
  generalize readC (tVal s) = C at *
  generalize (⟨(tVal s).toArray⟩ : ByteArray) = T at *
  generalize tNext s = s1 at *
  clear h b1 b2 hz1
  go_enter Tryz.func79, Tryz.ntmps79
  go_upto_region 1 with (fail)
  rw [← hw1, ← hw2]
  clear hw1 hw2
  go_wp2_with fail
  refine C1.out.mono ?_
  rintro e w3 ⟨rfl, hr3, ho3⟩
  have hz3 := ho3.size
  have R3 := Lib.hid hr3
  have O3 := Lib.hid (keep_then (Keep.of_below B2.out) ho3)
  have K1' := Lib.hid ((ho3.block _ (blk_lt K1.out) (by omega)).trans K1.out)
  have K2' := Lib.hid ((ho3.block _ (blk_lt K2.out) (by omega)).trans K2.out)
  clear hr3 ho3 a0 C1 K1 K2
  go_wp2_with fail
  refine (CQ.out w3).mono ?_
  rintro e w4 ⟨ra, rn, rc, rfl, hint, b4, hown⟩
  have R4 := Lib.hid (prd_below R3.out b4)
  have O4 := Lib.hid (keep_then O3.out (Keep.of_below b4))
  have K1 := Lib.hid (blk_below K1'.out b4); have K2 := Lib.hid (blk_below K2'.out b4)
  have hz4 := b4.size
  obtain ⟨w5, hw5⟩ : ∃ u, u = w4.alloc (.cells #[.int .i64 E, .slice ra rn rc] 89 (0, 0)) := ⟨_, rfl⟩
  have b5 : Below w4.heap.size w4 w5 := by rw [hw5]; exact below_alloc _ _
  have KQ := Lib.hid (show w5.heap[w4.heap.size]? = some (.cells #[.int .i64 E, .slice ra rn rc] 89 (0, 0)) by rw [hw5]; exact blk_alloc _ _)
  have B5 := Lib.hid b5
  have HOWN := Lib.hid (owns_old hown b5)
  have HIN := Lib.hid (show rn ≤ 100 from by rw [← hint.len]; exact HLL.out)
  have HINT := Lib.hid (show (∀ x ∈ L, i64 x) ∧ L.length = rn from ⟨hint.fit, hint.len⟩)
  have k1 := blk_below K1.out b5
  have c0 : w5.cell? ⟨w.heap.size, 0, none⟩ = some (.pointer (some ⟨p, 0, none⟩)) := by rw [blk_cell k1]; rfl
  clear K1' K2' R3 O3 b4 CQ b5 k1 hint hown
  go_upto_region 2 with (fail)
  rw [← hw5]
  clear hw5
  obtain ⟨q, hq⟩ : ∃ q, q = w4.heap.size := ⟨_, rfl⟩
  rw [← hq] at KQ ⊢
  rw [← hq] at hz4
  have HQ := Lib.hid hq
  clear hq
  go_wp2_with fail
  refine (CM.out _ w5 (prd_below R4.out B5.out)).mono ?_
  rintro e w6 ⟨b6, he⟩
  have R6 := Lib.hid (prd_below (prd_below R4.out B5.out) b6)
  have O6 := Lib.hid (keep_then O4.out (Keep.of_below (bthen B5.out b6)))
  have K16 := Lib.hid (blk_below (blk_below K1.out B5.out) b6)
  have K26 := Lib.hid (blk_below (blk_below K2.out B5.out) b6)
  have KQ6 := Lib.hid (blk_below KQ.out b6)
  have HW6 := Lib.hid (owns_old HOWN.out b6)
  have hz6 := b6.size
  cases hm : (decide (C = 0) && !s1.bad) with
  | false =>
    rw [show (C == 0) = decide (C = 0) from rfl, hm, if_neg (by decide)] at he
    subst he
    go_wp2_with fail
    exact ⟨rfl, O6.out, .inl ⟨rfl, NS1.out hm⟩⟩
  | true =>
  rw [show (C == 0) = decide (C = 0) from rfl, hm, if_pos rfl] at he
  subst he
  rw [Bool.and_eq_true] at hm
  have HC := Lib.hid (of_decide_eq_true hm.1)
  clear hm NS1 c0 CM b6 K2 K1 KQ HOWN R4 O4
  have hq2 := blk_lt KQ6.out
  go_upto_region 3 with (fail)
  have HRD := Lib.hid (fun (u : World) (hu : u.heap = w6.heap) => (prd_block R6.out (by rw [hu]) : PRd u p text s1))
  have CS := Lib.hid (fun (u : World) (hu : u.heap = w6.heap) => rsigs_any p text s1 u (HRD.out u hu))
  have x0 : w6.cell? ⟨w.heap.size, 0, none⟩ = some (.pointer (some ⟨p, 0, none⟩)) := by rw [blk_cell K16.out]; rfl
  have x1 : w6.cell? ⟨q, 0, none⟩ = some (.int .i64 E) := by rw [blk_cell KQ6.out]; rfl
  have x2 : w6.cell? ⟨q, 1, none⟩ = some (.slice ra rn rc) := by rw [blk_cell KQ6.out]; rfl
  have HK := Lib.hid (fun (u w7 : World) (hu : u.heap = w6.heap) (ho : Keep (fun k => k = p) u w7) =>
    (⟨(ho.block q (by rw [hu]; exact hq2) (by omega)).trans ((congrArg (fun h => h[q]?) hu).trans KQ6.out), (ho.block (w.heap.size + 1) (by rw [hu]; exact blk_lt K26.out) (by omega)).trans ((congrArg (fun h => h[w.heap.size + 1]?) hu).trans K26.out)⟩ : w7.heap[q]? = some (.cells #[.int .i64 E, .slice ra rn rc] 89 (0, 0)) ∧ w7.heap[w.heap.size + 1]? = some (.cells #[.int .i64 0, .slice none 0 0, .slice none 0 0] 93 (0, 0))))
  go_region_law (first | (refine step_calls_or rfl 77 #[.agg #[.pointer (some ⟨p, 0, none⟩)]] (by go_simp) (CS.out _ rfl) ?_; rintro e w7 ⟨ho7, h7⟩; rcases h7 with ⟨he, hno⟩ | ⟨sg, s', cs, he, hps, hr7, hE7⟩; (exact .inr ⟨_, he, rfl, keep_then O6.out (keep_then (Keep.of_below (below_drewN (Below.refl _ _) 1)) ho7), .inl ⟨rfl, NS2.out hno⟩⟩); obtain ⟨sa, sn, sc, rfl, hS7⟩ := rob_slice hE7; refine .inl ⟨.slice sa sn sc, he, ?_⟩; clear he; have k7 := Lib.hid (HK.out w6.drew w7 rfl ho7); have y1 : w7.cell? ⟨q, 0, none⟩ = some (.int .i64 E) := (by rw [blk_cell k7.out.1]; rfl); have y2 : w7.cell? ⟨q, 1, none⟩ = some (.slice ra rn rc) := (by rw [blk_cell k7.out.1]; rfl); have d0 : w7.cell? ⟨w.heap.size + 1, 0, none⟩ = some (.int .i64 0) := (by rw [blk_cell k7.out.2]; rfl); have d1 : w7.cell? ⟨w.heap.size + 1, 1, none⟩ = some (.slice none 0 0) := (by rw [blk_cell k7.out.2]; rfl); have d2 : w7.cell? ⟨w.heap.size + 1, 2, none⟩ = some (.slice none 0 0) := (by rw [blk_cell k7.out.2]; rfl); have dz : ∀ o, w7.frozen? ⟨w.heap.size + 1, o, none⟩ = false := fun o => blk_frozen k7.out.2 o; have S7 := Lib.hid hS7; have R7 := Lib.hid hr7; have O7 := Lib.hid ho7; have P7 := Lib.hid hps; clear hE7 hS7 hr7 ho7 hps))
  all_goals
    have O8 := keep_then O6.out (keep_then (Keep.of_below (below_drewN (Below.refl _ _) 1)) O7.out)
    have hne : ¬ w.heap.size + 1 = p := by omega
    have hle : w.heap.size ≤ w.heap.size + 1 ∨ w.heap.size + 1 = p := .inl (by omega)
    have hlo : w.heap.size + 1 < w3.heap.size := by omega
    have OW := owns_setlow (owns_setlow (owns_setlow (owns_keep (owns_old HW6.out (below_drewN (Below.refl _ _) 1)) O7.out (fun k hk hc => by have := (HW6.out.lt k hk).1; omega)) hlo 0 (.int .i64 E)) hlo 1 (.slice ra rn rc)) hlo 2 (.slice sa sn sc)
    have SW := S7.out.step (X' := fun k => k < w.heap.size) (Keep.set (Keep.set (Keep.set (Keep.refl (fun k => k = w.heap.size + 1) w7) (.inr rfl) 0 (.int .i64 E)) (.inr rfl) 1 (.slice ra rn rc)) (.inr rfl) 2 (.slice sa sn sc)) (fun k _ hk => by show k < w6.heap.size; omega) (fun k _ hk => by show k < w6.heap.size; omega)
    have RF := prd_set (prd_set (prd_set R7.out 0 (.int .i64 E) hne) 1 (.slice ra rn rc) hne) 2 (.slice sa sn sc) hne
    have FIN := Lib.hid (show GotP (pLink true) shLink aggF w p text s (.returned (.agg #[.int .i64 E, .slice ra rn rc, .slice sa sn sc])) (((w7.setCell ⟨w.heap.size + 1, 0, none⟩ (.int .i64 E)).setCell ⟨w.heap.size + 1, 1, none⟩ (.slice ra rn rc)).setCell ⟨w.heap.size + 1, 2, none⟩ (.slice sa sn sc)) from
      ⟨Keep.set (Keep.set (Keep.set O8 hle _ _) hle _ _) hle _ _, .inr ⟨((E, L), sg), s', [.int .i64 E, .slice ra rn rc, .slice sa sn sc], rfl, PS.out _ _ HC.out P7.out, RF, fun u hu => link_make HI.out (ints_row (owns_keep OW hu (fun k hk hx => by have := (OW.lt k hk).1; omega)) HINT.out.2 HINT.out.1 (by have := HIN.out; omega)) (SW u hu)⟩⟩)
    clear O8 OW SW RF
    go_wp2_with fail
    refine bodyPost_ret (v := .agg #[.int .i64 E, .slice ra rn rc, .slice sa sn sc]) (by simp [results, Tryz.results79, go_sem, d0, d1, d2]) rfl FIN.out
end Go.Proofs.YtijeieamodjgbaaGreat
