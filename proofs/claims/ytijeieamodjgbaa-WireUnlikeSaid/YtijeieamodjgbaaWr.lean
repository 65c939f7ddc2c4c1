
/- Wire: the reader's walks: must, sig, sigs, request. -/
import Derived.Test.YtijeieamodjgbaaWq
import Derived.Test.YtijeieamodjgbaaKp
import Derived.Test.YtijeieamodjgbaaVal
import Derived.Test.YtijeieamodjgbaaTk
namespace Go.Proofs.Ytijeieamodjgbaa
set_option maxRecDepth 100000
open Go.RowKit Go.Deep
set_option linter.unusedVariables false
set_option linter.unusedSimpArgs false
attribute [local go_sem] run_store_float

/-- What a reader gives up with. -/
def pan13 : List PanicEntry := [{ v := .iface 120 (.agg #[]), recovered := false }]
theorem endE_bad {s : R} : endE s = 2 ↔ s.bad = true := by
  unfold endE
  split
  · rename_i h; simp [h]
  · rename_i h
    split <;> simp [h]
set_option maxHeartbeats 400000 in
theorem must_any (ok : Bool) (p : Nat) (text : ByteArray) (s : R) (w : World) (h : PRd w p text s) :
    Calls Try.prog 125 #[.agg #[.pointer (some ⟨p, 0, none⟩)], .bool ok] w fun e w' => Below w.heap.size w w' ∧ e = if (ok && !s.bad) = true then .returned (.tuple #[]) else .panicked pan13 := by
  obtain ⟨w1, hw1⟩ : ∃ u, u = w.alloc (.cells #[.pointer (some ⟨p, 0, none⟩)] 125 (0, 0)) := ⟨_, rfl⟩
  have b1 : Below w.heap.size w w1 := by rw [hw1]; exact below_alloc _ _
  have k1 : w1.heap[w.heap.size]? = some (.cells #[.pointer (some ⟨p, 0, none⟩)] 125 (0, 0)) := by rw [hw1]; exact blk_alloc _ _
  have a0 : w1.cell? ⟨w.heap.size, 0, none⟩ = some (.pointer (some ⟨p, 0, none⟩)) := by rw [blk_cell k1]; rfl
  have B1 := Lib.hid b1
  have CE := Lib.hid (end_any p text s w1 (prd_below h b1))
  have HE := Lib.hid (endE_bad (s := s))
  generalize endE s = E at *
  clear h b1 k1
  cases ok with
  | false =>
    go_enter Try.func125, Try.ntmps125
    go_upto_region 1 with (fail)
    rw [← hw1]
    clear hw1
    go_wp2_with fail
    exact ⟨rfl, B1.out, rfl⟩
  | true =>
    cases hb : s.bad with
    | true =>
      have he : E = 2 := HE.out.2 hb
      subst he
      clear HE hb
      go_enter Try.func125, Try.ntmps125
      go_upto_region 1 with (fail)
      rw [← hw1]
      clear hw1
      go_wp2_with fail
      refine CE.out.mono ?_
      rintro e w2 ⟨rfl, q, rfl⟩
      have B2 := Lib.hid (below_drewN B1.out q)
      go_wp2_with fail
      exact ⟨rfl, B2.out, rfl⟩
    | false =>
      have he : (E == 2) = false := by
        have : ¬ E = 2 := fun hc => by have := HE.out.1 hc; rw [hb] at this; cases this
        simpa using this
      clear HE hb
      go_enter Try.func125, Try.ntmps125
      go_upto_region 1 with (fail)
      rw [← hw1]
      clear hw1
      go_wp2_with fail
      refine CE.out.mono ?_
      rintro e w2 ⟨rfl, q, rfl⟩
      have B2 := Lib.hid (below_drewN B1.out q)
      go_wp2_with fail
      go_end0
      exact ⟨B2.out, rfl⟩

def sgV (s : R) : Sg := (rVal s 1, ⟨(tVal (rNext s 1)).toArray⟩)
def sgN (s : R) : R := tNext (rNext s 1)
theorem pr_sig (s : R) : Pr pSig s (sgV s) (sgN s) := (pr_num s 1).then ((pr_text (rNext s 1)).then (Pr.ret _ _))
theorem sgV_i64 (s : R) : i64 (sgV s).1 := by have := rVal_lt s 1; show i64 ((rVal s 1 : Nat) : Int); unfold i64; omega
theorem sgV_len (s : R) : (sgV s).2.size ≤ 1125899906842624 := by
  have := tValLen (rNext s 1)
  show (⟨(tVal (rNext s 1)).toArray⟩ : ByteArray).size ≤ _
  simp only [ByteArray.size, List.size_toArray]; omega
set_option maxHeartbeats 400000 in
theorem rsig_any (p : Nat) (text : ByteArray) (s : R) (w : World) (h : PRd w p text s) :
    Calls Try.prog 157 #[.agg #[.pointer (some ⟨p, 0, none⟩)]] w fun e w' => e = .returned (.agg #[.int .i64 (sgV s).1, .string (sgV s).2]) ∧ PRd w' p text (sgN s) ∧ Only p none w w' := by
  obtain ⟨w1, hw1⟩ : ∃ u, u = w.alloc (.cells #[.pointer (some ⟨p, 0, none⟩)] 125 (0, 0)) := ⟨_, rfl⟩
  obtain ⟨w2, hw2⟩ : ∃ u, u = w1.alloc (.cells #[.int .i64 0, .string ⟨#[]⟩] 49 (0, 0)) := ⟨_, rfl⟩
  have b1 : Below w.heap.size w w1 := by rw [hw1]; exact below_alloc _ _
  have hz1 : w1.heap.size = w.heap.size + 1 := by rw [hw1]; simp
  have b2 : Below w1.heap.size w1 w2 := by rw [hw2]; exact below_alloc _ _
  have K1 := Lib.hid (show w2.heap[w.heap.size]? = some (.cells #[.pointer (some ⟨p, 0, none⟩)] 125 (0, 0)) from blk_below (by rw [hw1]; exact blk_alloc _ _) b2)
  have K2 := Lib.hid (show w2.heap[w.heap.size + 1]? = some (.cells #[.int .i64 0, .string ⟨#[]⟩] 49 (0, 0)) by rw [← hz1, hw2]; exact blk_alloc _ _)
  have B2 := Lib.hid (bthen b1 b2)
  have hp := prd_lt h
  have C1 := Lib.hid (rbyte_any p text s w2 (prd_below h B2.out))
  have CT := Lib.hid (fun w h => rdtext_any p text (rNext s 1) w h)
  have HV := Lib.hid (show sgV s = (((rVal s 1 : Nat) : Int), (⟨(tVal (rNext s 1)).toArray⟩ : ByteArray)) from rfl)
  generalize sgV s = V at HV ⊢
  obtain ⟨V1, V2⟩ := V
  have a0 : w2.cell? ⟨w.heap.size, 0, none⟩ = some (.pointer (some ⟨p, 0, none⟩)) := by rw [blk_cell K1.out]; rfl
  clear h b1 b2 hz1
  go_enter Try.func157, Try.ntmps157
  go_upto_region 1 with (fail)
  rw [← hw1, ← hw2]
  clear hw1 hw2
  go_wp2_with fail
  refine C1.out.mono ?_
  rintro e w3 ⟨rfl, hr3, ho3⟩
  have R3 := Lib.hid hr3
  have O3 := Lib.hid ((Only.of_below B2.out : Only p none w w2).trans ho3 (.inl rfl))
  have k1 : w3.heap[w.heap.size]? = _ := (ho3.block _ (blk_lt K1.out) (by omega) (by simp)).trans K1.out
  have K2' := Lib.hid ((ho3.block _ (blk_lt K2.out) (by omega) (by simp)).trans K2.out)
  have c0 : w3.cell? ⟨w.heap.size, 0, none⟩ = some (.pointer (some ⟨p, 0, none⟩)) := by rw [blk_cell k1]; rfl
  clear hr3 ho3 k1 a0 C1
  go_wp2_with fail
  refine (CT.out w3 R3.out).mono ?_
  rintro e w4 ⟨rfl, hr4, ho4⟩
  have R4 := Lib.hid hr4
  have O4 := Lib.hid (O3.out.trans ho4 (.inl rfl))
  have k2 := (ho4.block _ (blk_lt K2'.out) (by omega) (by simp)).trans K2'.out
  have d0 : w4.cell? ⟨w.heap.size + 1, 0, none⟩ = some (.int .i64 0) := by rw [blk_cell k2]; rfl
  have d1 : w4.cell? ⟨w.heap.size + 1, 1, none⟩ = some (.string ⟨#[]⟩) := by rw [blk_cell k2]; rfl
  have z : ∀ o, w4.frozen? ⟨w.heap.size + 1, o, none⟩ = false := fun o => blk_frozen k2 o
  have hne : ¬ w.heap.size + 1 = p := by omega
  have hle : w.heap.size ≤ w.heap.size + 1 := by omega
  clear hr4 ho4 k2 c0 CT
  go_wp2_with fail
  refine bodyPost_ret (v := .agg #[.int .i64 ((rVal s 1 : Nat) : Int), .string ⟨(tVal (rNext s 1)).toArray⟩]) (by simp [results, Try.results157, go_sem, d0, d1]) rfl ?_
  injection HV.out with e1 e2
  refine ⟨by rw [e1, e2], prd_set (prd_set R4.out _ _ hne) _ _ hne, (O4.out.set_new _ _ hle).set_new _ _ hle⟩

theorem keep_only {p : Nat} {w w' : World} (h : Only p none w w') : Keep (fun k => k = p) w w' := ⟨h.os, h.tape, h.output, h.size, fun k hk hx => h.block k hk hx (by simp)⟩
theorem keep_then {p : Nat} {w w1 w2 : World} (h : Keep (fun k => k = p) w w1) (h2 : Keep (fun k => k = p) w1 w2) : Keep (fun k => k = p) w w2 := h.trans h2 (fun _ _ h => h)
theorem prd_block {p : Nat} {text : ByteArray} {w w' : World} {s : R} (h : PRd w p text s) (hb : w'.heap[p]? = w.heap[p]?) : PRd w' p text s := by
  obtain ⟨at0, h1, h2, hk, hr⟩ := h
  exact ⟨at0, h1, h2, by rw [hb]; exact hk, hr⟩
theorem rbyte_got (p : Nat) (text : ByteArray) (s : R) (w : World) (h : PRd w p text s) :
    Calls Try.prog 120 #[.pointer (some ⟨p, 0, none⟩)] w fun e w' => e = .returned (.int .i64 ((rVal s 1 : Nat) : Int)) ∧ PRd w' p text (rNext s 1) ∧ Keep (fun k => k = p) w w' := (rbyte_any p text s w h).mono fun e w' ⟨h1, h2, h3⟩ => ⟨h1, h2, keep_only h3⟩
theorem rword_got (p : Nat) (text : ByteArray) (s : R) (w : World) (h : PRd w p text s) :
    Calls Try.prog 121 #[.pointer (some ⟨p, 0, none⟩)] w fun e w' => e = .returned (.int .i64 ((rVal s 2 : Nat) : Int)) ∧ PRd w' p text (rNext s 2) ∧ Keep (fun k => k = p) w w' := (rword_any p text s w h).mono fun e w' ⟨h1, h2, h3⟩ => ⟨h1, h2, keep_only h3⟩
theorem rtext_got (p : Nat) (text : ByteArray) (s : R) (w : World) (h : PRd w p text s) :
    Calls Try.prog 124 #[.pointer (some ⟨p, 0, none⟩)] w fun e w' => e = .returned (.string ⟨(tVal s).toArray⟩) ∧ PRd w' p text (tNext s) ∧ Keep (fun k => k = p) w w' := (rdtext_any p text s w h).mono fun e w' ⟨h1, h2, h3⟩ => ⟨h1, h2, keep_only h3⟩
theorem rsig_got (p : Nat) (text : ByteArray) (s : R) (w : World) (h : PRd w p text s) :
    Calls Try.prog 157 #[.agg #[.pointer (some ⟨p, 0, none⟩)]] w fun e w' => e = .returned (.agg #[.int .i64 (sgV s).1, .string (sgV s).2]) ∧ PRd w' p text (sgN s) ∧ Keep (fun k => k = p) w w' := (rsig_any p text s w h).mono fun e w' ⟨h1, h2, h3⟩ => ⟨h1, h2, keep_only h3⟩
/-- What reading a part leaves: refused, or a thing in new memory. -/
def GotP {α : Type} (P : Ps α) (S : Sh α) (F : List Value → Value) (w : World) (p : Nat) (text : ByteArray) (s : R) (e : Ending) (w' : World) : Prop :=
  Keep (fun k => k = p) w w' ∧ ((e = .panicked pan13 ∧ No P s) ∨ ∃ v s' cs, e = .returned (F cs) ∧ Pr P s v s' ∧ PRd w' p text s' ∧ Rob (fun k => k < w.heap.size) (fun u => S.E u v cs) w')
def aggF (cs : List Value) : Value := .agg cs.toArray
def oneF (cs : List Value) : Value := cs.headD undef
theorem pr_sigs {s : R} {acc : List Sg} {s' : R} (hn : rVal s 1 ≤ 16) (h : Pr (pRep pSig (rVal s 1)) (rNext s 1) acc s') : Pr (pSigs true) s acc s' := by
  unfold pSigs
  exact (pr_num s 1).then ((show Pr (pRep pSig ((rVal s 1 : Nat) : Int).toNat) (rNext s 1) acc s' from h).if (by simp; omega))
theorem no_sigs {s : R} (h : (decide ((rVal s 1 : Int) ≤ 16) && !(rNext s 1).bad) = false) : No (pSigs true) s := by
  unfold pSigs
  cases hb : (rNext s 1).bad with
  | true => exact ((pr_num s 1).bad hb).then
  | false =>
    rw [hb] at h
    exact No.step (pr_num s 1) (No.if (by simp at h ⊢; omega))
set_option maxHeartbeats 1000000 in
theorem rsigs_any (p : Nat) (text : ByteArray) (s : R) (w : World) (h : PRd w p text s) :
    Calls Try.prog 126 #[.agg #[.pointer (some ⟨p, 0, none⟩)]] w (GotP (pSigs true) shSig.slice oneF w p text s) := by
  obtain ⟨ii, hi, hz0, hz1, hz2⟩ := info_parts info_sig'
  obtain ⟨w1, hw1⟩ : ∃ u, u = w.alloc (.cells #[.pointer (some ⟨p, 0, none⟩)] 125 (0, 0)) := ⟨_, rfl⟩
  have b1 : Below w.heap.size w w1 := by rw [hw1]; exact below_alloc _ _
  have hz : w1.heap.size = w.heap.size + 1 := by rw [hw1]; simp
  have K1 := Lib.hid (show w1.heap[w.heap.size]? = some (.cells #[.pointer (some ⟨p, 0, none⟩)] 125 (0, 0)) by rw [hw1]; exact blk_alloc _ _)
  have hp := prd_lt h
  have B1 := Lib.hid b1
  have C1 := Lib.hid (rbyte_got p text s w1 (prd_below h b1))
  have CM := Lib.hid (fun ok w h => must_any ok p text (rNext s 1) w h)
  have hlt := rVal_lt s 1
  have PS := Lib.hid (fun acc s' hn h => pr_sigs (s := s) (acc := acc) (s' := s') hn h)
  have NS := Lib.hid (fun h => no_sigs (s := s) h)
  have a0 : w1.cell? ⟨w.heap.size, 0, none⟩ = some (.pointer (some ⟨p, 0, none⟩)) := by rw [blk_cell K1.out]; rfl
  generalize rVal s 1 = N at *
  generalize rNext s 1 = s1 at *
  clear h b1
  go_enter Try.func126, Try.ntmps126
  go_upto_region 1 with (fail)
  rw [← hw1]
  clear hw1
  go_wp2_with fail
  refine C1.out.mono ?_
  rintro e w2 ⟨rfl, hr2, ho2⟩
  have R2 := Lib.hid hr2
  have O2 := Lib.hid ho2
  have K2 := Lib.hid ((ho2.block _ (blk_lt K1.out) (by omega)).trans K1.out)
  have c0 : w2.cell? ⟨w.heap.size, 0, none⟩ = some (.pointer (some ⟨p, 0, none⟩)) := by rw [blk_cell K2.out]; rfl
  clear hr2 ho2 a0 C1
  go_wp2_with fail
  refine (CM.out _ w2 R2.out).mono ?_
  rintro e w3 ⟨b3, he⟩
  have R3 := Lib.hid (prd_below R2.out b3)
  have O3 := Lib.hid (keep_then O2.out (Keep.of_below b3))
  clear b3 c0 CM R2 O2 K2
  cases hm : (decide ((N : Int) ≤ 16) && !s1.bad) with
  | false =>
    rw [hm, if_neg (by decide)] at he
    subst he
    go_wp2_with fail
    exact ⟨rfl, keep_then (Keep.of_below B1.out) O3.out, .inl ⟨rfl, NS.out hm⟩⟩
  | true =>
  rw [hm, if_pos rfl] at he
  subst he
  rw [Bool.and_eq_true] at hm
  have hN : N ≤ 16 := by have := of_decide_eq_true hm.1; omega
  clear hm NS hlt
  go_wp2_with fail
  go_loopw [4, 13] (fun v i wr => ∃ k : Nat, ∃ acc : List Sg, ∃ s' : R, k ≤ N ∧ i = .int .i64 k ∧ acc.length = k ∧ Hid (Pr (pRep pSig k) s1 acc s') ∧ Hid (PRd wr p text s') ∧ Hid (wr.ownsRow w1.heap.size 49 2 v k (sigV acc)) ∧ Hid (∀ y ∈ acc, i64 y.1 ∧ y.2.size ≤ 1125899906842624) ∧ Hid (Keep (fun k => k = p) w1 wr)) (fun _ i _ => N - (intOf i).toNat)
  case atStart => exact ⟨0, [], s1, by omega, rfl, rfl, Lib.hid (Pr.ret _ _), R3, Lib.hid (World.ownsRow_nil _ _ _ _), Lib.hid (fun _ h => by cases h), O3⟩
  case round =>
    clear R3 O3
    obtain ⟨k, acc, s', hk, rfl, hacc, HP, HR, HO, HI, HK⟩ := hrel
    obtain ⟨va, vc, rfl⟩ := owns_form HO.out
    have HK1 := Lib.hid ((HK.out.block _ (blk_lt K1.out) (by omega)).trans K1.out)
    have hsz := HK.out.size
    by_cases hlk : k < N
    · have hd : decide ((k : Int) < (N : Int)) = true := by simp; omega
      have y0 : wr.cell? ⟨w.heap.size, 0, none⟩ = some (.pointer (some ⟨p, 0, none⟩)) := by rw [blk_cell HK1.out]; rfl
      have CS := Lib.hid (rsig_got p text s' wr HR.out)
      have HP' := Lib.hid (HP.out.snoc (pr_sig s'))
      have HI' := Lib.hid (show ∀ y ∈ acc ++ [sgV s'], i64 y.1 ∧ y.2.size ≤ 1125899906842624 from fun y hy => by
        rcases List.mem_append.1 hy with hy | hy
        · exact HI.out y hy
        · rw [List.mem_singleton] at hy; subst hy; exact ⟨sgV_i64 _, sgV_len _⟩)
      generalize sgV s' = V at *
      generalize sgN s' = s2 at *
      obtain ⟨x, t⟩ := V
      go_wp2_with fail
      refine CS.out.mono ?_
      rintro e w4 ⟨rfl, hr4, ho4⟩
      have R4 := Lib.hid hr4
      have hz4 := ho4.size
      have O4 := Lib.hid (keep_then HK.out ho4)
      have HO4 := owns_keep HO.out ho4 (fun k hk hc => by have := (HO.out.lt k hk).1; omega)
      have hb5 := below_alloc w4 (.cells #[.int .i64 x, .string t] 49 (0, 0))
      have HO5 := Lib.hid (owns_old HO4 hb5)
      have k5 := blk_alloc w4 (.cells #[.int .i64 x, .string t] 49 (0, 0))
      have hnews : ∀ ad, some (⟨w4.heap.size, 0, none⟩ : Addr) = some ad → ∀ j u, [Value.int .i64 x, Value.string t][j]? = some u → (w4.alloc (.cells #[.int .i64 x, .string t] 49 (0, 0))).cell? (ad.add j) = some u := fun ad had j u hj => by
        injection had with had
        subst had
        rw [Addr.add_lit, blk_cell k5, ← hj]
        simp
      have HNW := Lib.hid hnews
      have hm1 : k + 1 ≤ maxLen := by unfold maxLen; omega
      have hm2 : (k + 1) * 24 ≤ 140737488355328 := by omega
      have hB5 : w1.heap.size ≤ (w4.alloc (.cells #[.int .i64 x, .string t] 49 (0, 0))).heap.size := by simp; omega
      clear hr4 ho4 HO4 hnews CS y0 k5 hb5
      go_wp2_with (first | (at_builtin; refine wpList_append_any_at _ rfl (.tmp 15) (.tmp 18) 30 rfl w1.heap.size 49 ii (.agg #[.int .i64 0, .string ⟨#[]⟩]) 2 24 Try.underlying30 hi hz0 hz1 hz2 rfl (by decide) (.slice va k vc) k (sigV acc) rfl HO5.out (some ⟨w4.heap.size, 0, none⟩) 1 1 [.int .i64 x, .string t] rfl rfl (by simp) HNW.out (by simp [Value.oneCell']) hm1 hm2 hB5 ?_) | fail)
      intro v' w8 ho8 hg8 hor8
      obtain ⟨a8, c8, rfl⟩ := owns_form ho8
      have K8 := Lib.hid (show Keep (fun k => k = p) w1 w8 from (O4.out.alloc _).grown hg8 (fun k hk => .inl (HO5.out.lt k hk).1))
      have hp1 : p < w1.heap.size := by omega
      have R8 := Lib.hid (prd_block (prd_below R4.out (below_alloc w4 (.cells #[.int .i64 x, .string t] 49 (0, 0)))) (hg8.block p (by simp; omega) (fun hc => by have := (HO5.out.lt p hc.symm).1; omega)))
      have HO8 := Lib.hid (show w8.ownsRow w1.heap.size 49 2 (.slice a8 (k + 1) c8) (k + 1) (sigV (acc ++ [(x, t)])) from by rw [show sigV (acc ++ [(x, t)]) = sigV acc ++ [.int .i64 x, .string t] by simp [sigV], hz]; exact ho8)
      clear ho8 hg8 hor8 O4 R4 HO5 HNW
      go_wp2_with fail
      go_roundw
      case rel => exact ⟨k + 1, acc ++ [(x, t)], s2, by omega, by go_num, by simp [hacc], HP', R8, HO8, HI', K8⟩
      case measure => simp [intOf]; omega
    · have hd : decide ((k : Int) < (N : Int)) = false := by simp; omega
      obtain rfl : k = N := by omega
      have HF := Lib.hid (show GotP (pSigs true) shSig.slice oneF w p text s (.returned (.slice va k vc)) wr from
        ⟨keep_then (Keep.of_below B1.out) HK.out, .inr ⟨acc, s', [.slice va k vc], rfl, PS.out _ _ hN HP.out, HR.out, fun u hu => ⟨va, k, vc, rfl, sigs_row (owns_keep HO.out hu (fun g hg hc => by have := (HO.out.lt g hg).1; omega)) hacc HI.out (by omega)⟩⟩⟩)
      go_wp2_with fail
      go_ret
      exact HF.out

theorem pr_req {s : R} (h : readErr (tVal s) = 0) : Pr pReq s (readRq (tVal s)) (tNext s) := by
  unfold pReq
  exact (pr_text s).then ((Pr.ret (readRq (tVal s)) (tNext s)).if (by simpa using h))
theorem no_req {s : R} (h : (decide (readErr (tVal s) = 0) && !(tNext s).bad) = false) : No pReq s := by
  unfold pReq
  cases hb : (tNext s).bad with
  | true => exact ((pr_text s).bad hb).then
  | false =>
    rw [hb] at h
    exact No.step (pr_text s) (No.if (by simpa using h))
theorem readRq_ok (t : List UInt8) : (readRq t).Ok := by
  unfold readRq
  split
  · exact rdRq_ok t
  · exact ⟨⟨by decide, by decide⟩, ⟨by decide, by decide⟩, ⟨by decide, by decide⟩, ⟨by decide, by decide⟩, by decide, by decide⟩
theorem req_rob (r : Rq) (h : r.Ok) (X : Nat → Prop) (w : World) : Rob X (fun u => shReq.E u r r.cs) w := fun u _ => by
  obtain ⟨c, s, kind, key, b, id⟩ := r
  exact ⟨_, _, rfl, ⟨rfl, h.c⟩, _, _, rfl, ⟨rfl, h.s⟩, _, _, rfl, ⟨rfl, h.kind⟩, _, _, rfl, ⟨rfl, h.key⟩, _, _, rfl, ⟨rfl, h.b⟩, rfl, h.id⟩
set_option maxHeartbeats 1000000 in
theorem rreq_any (p : Nat) (text : ByteArray) (s : R) (w : World) (h : PRd w p text s) :
    Calls Try.prog 122 #[.agg #[.pointer (some ⟨p, 0, none⟩)]] w (GotP pReq shReq aggF w p text s) := by
  obtain ⟨w1, hw1⟩ : ∃ u, u = w.alloc (.cells #[.pointer (some ⟨p, 0, none⟩)] 125 (0, 0)) := ⟨_, rfl⟩
  obtain ⟨w2, hw2⟩ : ∃ u, u = w1.alloc (.cells #[.int .i64 0, .int .i64 0, .int .i64 0, .string ⟨#[]⟩, .float .f64 0, .int .i64 0] 26 (0, 0)) := ⟨_, rfl⟩
  have b1 : Below w.heap.size w w1 := by rw [hw1]; exact below_alloc _ _
  have hz1 : w1.heap.size = w.heap.size + 1 := by rw [hw1]; simp
  have b2 : Below w1.heap.size w1 w2 := by rw [hw2]; exact below_alloc _ _
  have K1 := Lib.hid (show w2.heap[w.heap.size]? = some (.cells #[.pointer (some ⟨p, 0, none⟩)] 125 (0, 0)) from blk_below (by rw [hw1]; exact blk_alloc _ _) b2)
  have K2 := Lib.hid (show w2.heap[w.heap.size + 1]? = some (.cells #[.int .i64 0, .int .i64 0, .int .i64 0, .string ⟨#[]⟩, .float .f64 0, .int .i64 0] 26 (0, 0)) by rw [← hz1, hw2]; exact blk_alloc _ _)
  have B2 := Lib.hid (bthen b1 b2)
  have hp := prd_lt h
  have C1 := Lib.hid (rtext_got p text s w2 (prd_below h B2.out))
  have CM := Lib.hid (fun ok w h => must_any ok p text (tNext s) w h)
  have CQ := Lib.hid (fun w => qread_any ⟨(tVal s).toArray⟩ w (by have := tValLen s; simp only [ByteArray.size, List.size_toArray]; omega))
  simp only [List.toList_toArray] at CQ
  have HO := Lib.hid (readRq_ok (tVal s))
  have PS := Lib.hid (fun h => pr_req (s := s) h)
  have NS := Lib.hid (fun h => no_req (s := s) h)
  have a0 : w2.cell? ⟨w.heap.size, 0, none⟩ = some (.pointer (some ⟨p, 0, none⟩)) := by rw [blk_cell K1.out]; rfl
  generalize readRq (tVal s) = Q at *
  generalize readErr (tVal s) = E at *
  generalize (⟨(tVal s).toArray⟩ : ByteArray) = T at *
  generalize tNext s = s1 at *
  have HR := Lib.hid (fun X w => req_rob Q HO.out X w)
  obtain ⟨qc, qs, qk, qt, qb, qi⟩ := Q
  simp only [Rq.v] at CQ
  clear h b1 b2 hz1 HO
  go_enter Try.func122, Try.ntmps122
  go_upto_region 1 with (fail)
  rw [← hw1, ← hw2]
  clear hw1 hw2
  go_wp2_with fail
  refine C1.out.mono ?_
  rintro e w3 ⟨rfl, hr3, ho3⟩
  have R3 := Lib.hid hr3
  have O3 := Lib.hid (keep_then (Keep.of_below B2.out) ho3)
  have k1 := (ho3.block _ (blk_lt K1.out) (by omega)).trans K1.out
  have k2 := (ho3.block _ (blk_lt K2.out) (by omega)).trans K2.out
  have K1' := Lib.hid k1; have K2' := Lib.hid k2
  clear hr3 ho3 a0 C1 k1 k2 K1 K2
  go_wp2_with fail
  refine (CQ.out w3).mono ?_
  rintro e w4 ⟨rfl, b4⟩
  have R4 := Lib.hid (prd_below R3.out b4)
  have O4 := Lib.hid (keep_then O3.out (Keep.of_below b4))
  have K1 := Lib.hid (blk_below K1'.out b4); have K2 := Lib.hid (blk_below K2'.out b4)
  obtain ⟨w5, hw5⟩ : ∃ u, u = w4.alloc (.cells #[.int .i64 qc, .int .i64 qs, .int .i64 qk, .string qt, .float .f64 qb, .int .i64 qi] 26 (0, 0)) := ⟨_, rfl⟩
  have b5 : Below w4.heap.size w4 w5 := by rw [hw5]; exact below_alloc _ _
  have kq : w5.heap[w4.heap.size]? = some (.cells #[.int .i64 qc, .int .i64 qs, .int .i64 qk, .string qt, .float .f64 qb, .int .i64 qi] 26 (0, 0)) := by rw [hw5]; exact blk_alloc _ _
  have KQ := Lib.hid kq
  have B5 := Lib.hid b5
  have k1 := blk_below K1.out b5
  have c0 : w5.cell? ⟨w.heap.size, 0, none⟩ = some (.pointer (some ⟨p, 0, none⟩)) := by rw [blk_cell k1]; rfl
  clear K1' K2' R3 O3 b4 CQ b5 kq k1
  go_upto_region 2 with (fail)
  rw [← hw5]
  clear hw5
  go_wp2_with fail
  refine (CM.out _ w5 (prd_below R4.out B5.out)).mono ?_
  rintro e w6 ⟨b6, he⟩
  have R6 := Lib.hid (prd_below (prd_below R4.out B5.out) b6)
  have O6 := Lib.hid (keep_then O4.out (Keep.of_below (bthen B5.out b6)))
  have K2' := Lib.hid (blk_below (blk_below K2.out B5.out) b6)
  have kq := blk_below KQ.out b6
  cases hm : (decide (E = 0) && !s1.bad) with
  | false =>
    rw [show (E == 0) = decide (E = 0) from rfl, hm, if_neg (by decide)] at he
    subst he
    go_wp2_with fail
    exact ⟨rfl, O6.out, .inl ⟨rfl, NS.out hm⟩⟩
  | true =>
  rw [show (E == 0) = decide (E = 0) from rfl, hm, if_pos rfl] at he
  subst he
  rw [Bool.and_eq_true] at hm
  have HE := Lib.hid (of_decide_eq_true hm.1)
  obtain ⟨q0, q1, q2, q3, q4, q5⟩ := rqAt_blk kq
  obtain ⟨r0, r1, r2, r3, r4, r5⟩ := rqAt_blk K2'.out
  have z : ∀ o, w6.frozen? ⟨w.heap.size + 1, o, none⟩ = false := fun o => blk_frozen K2'.out o
  clear hm NS c0 CM b6 kq K2 K1 KQ B5 R4 O4
  go_wp2_with fail
  have hne : ¬ w.heap.size + 1 = p := by omega
  have hle : w.heap.size ≤ w.heap.size + 1 ∨ w.heap.size + 1 = p := .inl (by omega)
  refine bodyPost_ret (v := .agg #[.int .i64 qc, .int .i64 qs, .int .i64 qk, .string qt, .float .f64 qb, .int .i64 qi]) (by simp [results, Try.results122, go_sem, r0, r1, r2, r3, r4, r5]) rfl ?_
  refine ⟨(((((O6.out.set hle _ _).set hle _ _).set hle _ _).set hle _ _).set hle _ _).set hle _ _, .inr ⟨⟨qc, qs, qk, qt, qb, qi⟩, s1, (⟨qc, qs, qk, qt, qb, qi⟩ : Rq).cs, rfl, PS.out HE.out, ?_, HR.out _ _⟩⟩
  exact prd_set (prd_set (prd_set (prd_set (prd_set (prd_set R6.out _ _ hne) _ _ hne) _ _ hne) _ _ hne) _ _ hne) _ _ hne
end Go.Proofs.Ytijeieamodjgbaa
