
/- The reference's Stands, Noted and Derivable, on rows of signatures. (taken together from So, Ga, Ga2, Lv9, Rg, Rn: where those are imported, this is not) -/
import Derived.Test.YtijeieamodjgbaaGreatBk
import Derived.Test.YtijeieamodjgbaaGreatCoW
import Derived.Deep.AppendLies
import Derived.Laws.StructEq
namespace Go.Proofs.YtijeieamodjgbaaGreat
set_option maxRecDepth 100000
open Go.RowKit Go.Maps
set_option linter.unusedVariables false
set_option linter.unusedSimpArgs false
def encS (s : Sg) : List Value := [.int .i64 s.1, .string s.2]
def flatV (l : List Sg) : List Value := l.flatMap encS
theorem flatV_at : ∀ (l : List Sg) (i j : Nat) (s : Sg) (v : Value), l[i]? = some s → (encS s)[j]? = some v → (flatV l)[i * 2 + j]? = some v
  | [], i, j, s, v, h, _ => by simp at h
  | y :: r, 0, j, s, v, h, hv => by
    simp at h; subst h
    show (encS y ++ flatV r)[0 * 2 + j]? = some v
    rw [Nat.zero_mul, Nat.zero_add, List.getElem?_append_left (List.getElem?_eq_some_iff.1 hv).1]; exact hv
  | y :: r, i + 1, j, s, v, h, hv => by
    show (encS y ++ flatV r)[(i + 1) * 2 + j]? = some v
    have he : (encS y).length = 2 := rfl; rw [List.getElem?_append_right (by rw [he]; omega), he, show (i + 1) * 2 + j - 2 = i * 2 + j by omega]
    exact flatV_at r i j s v (by simpa using h) hv
theorem sl_flat {w : World} {g n c : Nat} {l : List Sg} (hl : l.length = n) (hc : ∀ t v, (flatV l)[t]? = some v → w.cell? ⟨g, t, none⟩ = some v) (hok : ∀ s ∈ l, sgOk s) (hnc : n ≤ c) (hm : c ≤ 9223372036854775807) (hb : n * 24 ≤ 140737488355328) : SlAt shSig w (some ⟨g, 0, none⟩) n c l :=
  ⟨hl, hnc, hm, hb, fun h => (by cases h), fun i y hy => by
    obtain ⟨x, t⟩ := y; obtain ⟨h1, h2⟩ := hok _ (List.mem_of_getElem? hy)
    refine ⟨g, 0, [.int .i64 x, .string t], rfl, ⟨_, _, rfl, ⟨rfl, h1⟩, rfl, h2⟩, fun j v hv => ?_⟩
    rw [Nat.zero_add]
    exact hc _ _ (flatV_at l i j _ v hy hv)⟩
theorem sl_owned {w : World} {B n c : Nat} {a : Option Addr} {l : List Sg} (h : w.ownsRow B 84 2 (.slice a n c) l.length (flatV l)) (hok : ∀ s ∈ l, sgOk s) (hb : l.length * 24 ≤ 140737488355328) : SlAt shSig w a n c l := by
  rcases h.2 with ⟨hv, h0⟩ | ⟨g, cap, cur, hv, hB, hg, hnc, hcm, _, _⟩
  · injection hv with h1 h2 h3
    subst h1 h2 h3
    exact ⟨h0, Nat.le_refl _, by omega, by omega, fun _ => rfl, fun i y hy => by rw [List.eq_nil_of_length_eq_zero h0] at hy; cases hy⟩
  · injection hv with h1 h2 h3
    subst h1 h2 h3; have hmax : maxLen = 9223372036854775807 := rfl
    exact sl_flat rfl (fun t v hv => by
      have := h.cells (g := g) rfl t v hv
      rwa [Addr.add_lit, Nat.zero_add] at this) hok hnc (by omega) hb
theorem info_sig9 : (Tryz.prog.info? 84).map (fun i => (i.zero, i.size, i.bytes)) = some (some (.agg #[.int .i64 0, .string ⟨#[]⟩]), 2, 24) := by kernel_rfl
theorem sig_new (w : World) (x : Int) (t : ByteArray) : ∀ j u, [Value.int .i64 x, .string t][j]? = some u → (w.alloc (.cells #[.int .i64 x, .string t] 84 (0, 0))).cell? ((⟨w.heap.size, 0, none⟩ : Addr).add j) = some u := by
  intro j u h; rw [Addr.add_lit, blk_cell (blk_alloc w _), ← h]
  simp
theorem flatV_snoc (l : List Sg) (s : Sg) : flatV (l ++ [s]) = flatV l ++ [.int .i64 s.1, .string s.2] := by simp [flatV, encS]
theorem snoc_ind {α : Type} {p : List α → Prop} (h0 : p []) (h1 : ∀ l x, p l → p (l ++ [x])) : ∀ l, p l := fun l => by
  have : ∀ n (l : List α), l.length = n → p l := fun n => by
    induction n with
    | zero => intro l hl; rw [List.eq_nil_of_length_eq_zero hl]; exact h0
    | succ n ih =>
      intro l hl
      have hne : l ≠ [] := fun e => by rw [e] at hl; cases hl
      rw [← List.dropLast_concat_getLast hne]
      exact h1 _ _ (ih _ (by rw [List.length_dropLast, hl]; rfl))
  exact this _ l rfl
theorem run_eq_sig (w : World) (x : Int) (t : ByteArray) (x' : Int) (t' : ByteArray) : (binOp .eql 84 (.agg #[.int .i64 x, .string t]) (.agg #[.int .i64 x', .string t'])).run Tryz.prog w = .ok (.bool (decide (((x, t) : Sg) = (x', t')))) w := by
  rw [run_eql_struct, run_equalIn_struct _ _ _ _ _ (by kernel_rfl) (by kernel_rfl)]
  have h1 : (part 3 #[.int .i64 x, .string t] 0).run Tryz.prog w = .ok (.int .i64 x) w := by kernel_rfl
  have h2 : (part 3 #[.int .i64 x', .string t'] 0).run Tryz.prog w = .ok (.int .i64 x') w := by kernel_rfl
  have h3 : (part 9 #[.int .i64 x, .string t] 1).run Tryz.prog w = .ok (.string t) w := by kernel_rfl
  have h4 : (part 9 #[.int .i64 x', .string t'] 1).run Tryz.prog w = .ok (.string t') w := by kernel_rfl
  have h5 : (t.toList == t'.toList) = decide (t = t') := by
    by_cases h : t = t'
    · subst h; simp
    · rw [str_neq h]; simp [h]
  simp [Program.fieldsOf, Tryz.underlying84, Op.eqFields, h1, h2, h3, h4, run_equalIn_int _ _ _ _ _ _ _ Tryz.underlying3, run_equalIn_string _ _ _ _ _ Tryz.underlying9, Result.andThen, h5]
  by_cases hx : x = x'
  · by_cases ht : t = t' <;> simp [hx, ht]
  · simp [hx]
set_option maxHeartbeats 1000000 in
theorem stands_any (a : Option Addr) (n c : Nat) (l : List Sg) (s : Sg) (w : World) (hS : SlAt shSig w a n c l) :
    Calls Tryz.prog 98 #[.slice a n c, sgV s] w fun e w' => e = .returned (.bool (decide (s ∈ l))) ∧ Below w.heap.size w w' := by
  obtain ⟨x, t⟩ := s
  unfold sgV
  dsimp only
  have hlen := hS.len; have hnm : n ≤ 9223372036854775807 := Nat.le_trans hS.cap hS.max; have HS := Lib.hid hS; have KX := Lib.hid (blk_alloc w (.cells #[.int .i64 x, .string t] 84 (0, 0))); have BX := Lib.hid (below_alloc w (.cells #[.int .i64 x, .string t] 84 (0, 0))); clear hS
  go_enter Tryz.func98, Tryz.ntmps98
  go_wp2_with fail
  generalize w.alloc (.cells #[.int .i64 x, .string t] 84 (0, 0)) = w1 at *
  go_loopw [5] (fun i wr => ∃ k : Nat, k ≤ n ∧ i = .int .i64 k ∧ Hid ((x, t) ∉ l.take k) ∧ Hid (Below w1.heap.size w1 wr)) (fun i _ => n - (intOf i).toNat)
  case atStart => exact ⟨0, by omega, rfl, Lib.hid (by simp), Lib.hid (Below.refl _ _)⟩
  case round =>
    obtain ⟨k, hk, rfl, HN, HW⟩ := hrel
    by_cases hlt : k < n
    · have hd : decide ((k : Int) < (n : Int)) = true := by simp; omega
      have q0 : wr.cell? ⟨w.heap.size, 0, none⟩ = some (.int .i64 x) := by rw [blk_cell (blk_below KX.out HW.out)]; rfl
      have q1 : wr.cell? ⟨w.heap.size, 1, none⟩ = some (.string t) := by rw [blk_cell (blk_below KX.out HW.out)]; rfl
      obtain ⟨bb, o, y, u, rfl, hy, x0, x1, -, -⟩ := sig_cells (HS.out.old (bthen BX.out HW.out)) hlt
      have hq := fun w => run_eq_sig w y u x t
      by_cases he : ((y, u) : Sg) = (x, t)
      · rw [decide_eq_true he] at hq
        have HM := Lib.hid (show decide ((x, t) ∈ l) = true by rw [decide_eq_true_eq, ← he]; exact List.mem_of_getElem? hy); clear hy he
        go_wp2_with fail
        go_quiet (fail)
        go_wp2_with fail
        go_ret
        exact ⟨by rw [HM.out]; rfl, below_drewN (bthen BX.out HW.out) _⟩
      · rw [decide_eq_false he] at hq
        have HM := Lib.hid (show (x, t) ∉ l.take (k + 1) by
          rw [List.take_add_one, hy, List.mem_append]
          rintro (h | h)
          · exact HN.out h
          · simp at h; exact he (by rw [h.1, h.2]))
        clear hy he
        go_wp2_with fail
        go_quiet (fail)
        go_wp2_with fail
        go_roundw
        case rel => exact ⟨k + 1, by omega, by go_num, HM, Lib.hid (below_drewN HW.out _)⟩
        case measure => simp [intOf]; omega
    · have hkn : k = n := by omega
      subst hkn
      have hd : decide ((k : Int) < (k : Int)) = false := by simp
      have HM := Lib.hid (show decide ((x, t) ∈ l) = false by
        rw [decide_eq_false_iff_not]; have := HN.out
        rwa [List.take_of_length_le (by omega)] at this)
      go_wp2_with fail
      go_ret
      exact ⟨by rw [HM.out]; rfl, bthen BX.out HW.out⟩
theorem noteP_len (l more : List Sg) : (noteP l more).length ≤ l.length + more.length := by
  induction more using snoc_ind with
  | h0 => simp [noteP]
  | h1 m x ih =>
    rw [noteP_snoc]
    split
    · simp; omega
    · simp; omega
theorem noteP_ok {l more : List Sg} (h1 : ∀ s ∈ l, sgOk s) (h2 : ∀ s ∈ more, sgOk s) : ∀ s ∈ noteP l more, sgOk s := by
  induction more using snoc_ind with
  | h0 => exact h1
  | h1 m x ih =>
    have ih := ih (fun s hs => h2 s (by simp [hs])); rw [noteP_snoc]
    split
    · exact ih
    · intro s hs
      rw [List.mem_append, List.mem_singleton] at hs
      rcases hs with hs | rfl
      · exact ih s hs
      · exact h2 _ (by simp)
theorem sl_ok {w : World} {a : Option Addr} {n c : Nat} {l : List Sg} (h : SlAt shSig w a n c l) : ∀ s ∈ l, sgOk s := by
  intro s hs; obtain ⟨i, hi, rfl⟩ := List.getElem_of_mem hs; obtain ⟨b, o, x, t, _, hy, _, _, h1, h2⟩ := sig_cells h (i := i) (by rw [← h.len]; exact hi)
  rw [List.getElem?_eq_getElem hi] at hy
  injection hy with hy; rw [hy]; exact ⟨h1, h2⟩
set_option maxHeartbeats 2000000 in
theorem rnoted_any (B : Nat) (v : Value) (l : List Sg) (a : Option Addr) (n c : Nat) (more : List Sg) (w : World) (hR : w.ownsRow B 84 2 v l.length (flatV l)) (hok : ∀ s ∈ l, sgOk s) (hB : B ≤ w.heap.size)
    (hS : ∀ w', Keep (fun k => v.ownBlock = some k) w w' → SlAt shSig w' a n c more) (hN : l.length + n ≤ 1099511627776) :
    Calls Tryz.prog 50 #[v, .slice a n c] w fun e w' => ∃ v', e = .returned v' ∧ w'.ownsRow B 84 2 v' (noteP l more).length (flatV (noteP l more)) ∧ (v'.ownBlock = v.ownBlock ∨ ∃ g, v'.ownBlock = some g ∧ w.heap.size ≤ g) ∧ Keep (fun k => v.ownBlock = some k) w w' := by
  have hlen := (hS w (Keep.refl _ _)).len; have hmok := sl_ok (hS w (Keep.refl _ _)); obtain ⟨ii, hi, hz0, hz1, hz2⟩ := info_parts info_sig9
  have hlb := fun k => noteP_len l (more.take k)
  have HS := Lib.hid hS; have HR0 := Lib.hid hR; have HOK := Lib.hid (fun k => noteP_ok (more := more.take k) hok (fun s hs => hmok s (List.mem_of_mem_take hs))); obtain ⟨a0, c0, rfl⟩ := owns_form hR; clear hS hR hok hmok
  go_enter Tryz.func50, Tryz.ntmps50
  go_wp2_with fail
  go_loopw [0, 5] (fun out i wr => ∃ k : Nat, k ≤ n ∧ i = .int .i64 k ∧ Hid (wr.ownsRow B 84 2 out (noteP l (more.take k)).length (flatV (noteP l (more.take k)))) ∧ Hid (out.ownBlock = (Value.slice a0 l.length c0).ownBlock ∨ ∃ g, out.ownBlock = some g ∧ w.heap.size ≤ g) ∧ Hid (Keep (fun k => (Value.slice a0 l.length c0).ownBlock = some k) w wr)) (fun _ i _ => n - (intOf i).toNat)
  case atStart => exact ⟨0, by omega, rfl, HR0, Lib.hid (.inl rfl), Lib.hid (Keep.refl _ _)⟩
  case round =>
    obtain ⟨k, hk, rfl, HR, HO, HW⟩ := hrel; have hrow := HR.out; obtain ⟨av, cv, rfl⟩ := owns_form hrow; have hlk := hlb k
    have htk : (more.take k).length ≤ n := by rw [List.length_take]; omega
    by_cases hlt : k < n
    · have hd : decide ((k : Int) < (n : Int)) = true := by simp; omega
      obtain ⟨bb, o, x, t, rfl, hy, x0, x1, h1, h2⟩ := sig_cells (HS.out wr HW.out) hlt
      have hT : more.take (k + 1) = more.take k ++ [(x, t)] := by rw [List.take_add_one, hy]; rfl
      have htk1 : (more.take (k + 1)).length ≤ n := by rw [List.length_take]; omega
      have hlk1 := hlb (k + 1); have CS := stands_any av (noteP l (more.take k)).length cv (noteP l (more.take k)) (x, t) wr (sl_owned hrow (HOK.out k) (by omega))
      unfold sgV at CS
      dsimp only at CS
      clear hrow
      by_cases hin : (x, t) ∈ noteP l (more.take k)
      · rw [decide_eq_true hin] at CS
        have hE : noteP l (more.take (k + 1)) = noteP l (more.take k) := by rw [hT, noteP_snoc, if_pos hin]
        have HE := Lib.hid hE
        replace CS := Lib.hid CS
        clear hT hin hE hlk hlk1 htk htk1 hy hlb
        generalize hL1 : noteP l (more.take (k + 1)) = l1 at *
        generalize noteP l (more.take k) = l2 at *
        go_wp2_with fail
        refine CS.out.mono ?_
        rintro r w5 ⟨rfl, b5⟩
        have HR5 := Lib.hid (owns_old HR.out b5); have W5 := Lib.hid (HW.out.trans (X' := fun _ => False) (Keep.of_below b5) (fun _ _ h => h.elim)); clear b5 CS
        go_wp2_with fail
        go_roundw
        case rel => exact ⟨k + 1, by omega, by go_num, by rw [hL1, HE.out]; exact HR5, HO, W5⟩
        case measure => simp [intOf]; omega
      · rw [decide_eq_false hin] at CS
        have hE : noteP l (more.take (k + 1)) = noteP l (more.take k) ++ [(x, t)] := by rw [hT, noteP_snoc, if_neg hin]
        have HE := Lib.hid hE
        have hle : (noteP l (more.take k)).length + 1 ≤ 1099511627776 := by rw [hE] at hlk1; simp at hlk1; omega
        replace CS := Lib.hid CS
        clear hT hin hE hlk hlk1 htk htk1 hy hlb
        generalize hL1 : noteP l (more.take (k + 1)) = l1 at *
        generalize noteP l (more.take k) = l2 at *
        go_wp2_with fail
        refine CS.out.mono ?_
        rintro r w5 ⟨rfl, b5⟩
        have W5 := Lib.hid (HW.out.trans (X' := fun _ => False) (Keep.of_below b5) (fun _ _ h => h.elim)); obtain ⟨bb', o', x', t', hbe, hy', x0', x1', -, -⟩ := sig_cells (HS.out w5 W5.out) hlt; have HR5 := Lib.hid (owns_old (owns_old HR.out b5) (below_alloc w5 (.cells #[.int .i64 x, .string t] 84 (0, 0))))
        have y0 : w5.cell? ⟨bb, o + k * 2, none⟩ = some (.int .i64 x) := by rw [b5.cell (World.block_lt x0)]; exact x0
        have y1 : w5.cell? ⟨bb, o + k * 2 + 1, none⟩ = some (.string t) := by rw [b5.cell (World.block_lt x1)]; exact x1
        have hzw := W5.out.size; clear b5 CS x0 x1 HR x0' x1' hy' hbe HW; have hlb : True := trivial
        go_wp2_with (first | (at_builtin; refine wpList_append_lies _ rfl (.tmp 19) (.tmp 24) 31 rfl B 84 ii (.agg #[.int .i64 0, .string ⟨#[]⟩]) 2 24 Tryz.underlying31 hi hz0 hz1 hz2 rfl (by decide) (.slice av l2.length cv) l2.length (flatV l2) rfl HR5.out ⟨w5.heap.size, 0, none⟩ 1 1 [.int .i64 x, .string t] rfl rfl (sig_new w5 x t) (by simp [Value.oneCell']) (by decide) (by unfold maxLen; omega) (by omega) (by simp; omega) _ rfl ?_) | fail)
        intro g8 cap8 w8 hown8 hg8 hor8 hlt8; have HR8 := Lib.hid (show w8.ownsRow B 84 2 (.slice (some ⟨g8, 0, none⟩) (l2.length + 1) cap8) l1.length (flatV l1) by rw [HE.out, flatV_snoc, List.length_append]; exact hown8)
        have HO8 := Lib.hid (show (Value.slice (some ⟨g8, 0, none⟩) (l2.length + 1) cap8).ownBlock = (Value.slice a0 l.length c0).ownBlock ∨ ∃ g, (Value.slice (some ⟨g8, 0, none⟩) (l2.length + 1) cap8).ownBlock = some g ∧ w.heap.size ≤ g by
          rcases hor8 with h | h
          · rcases HO.out with h2 | ⟨g, h2, h3⟩
            · left; rw [← h2, h]; rfl
            · right; rw [h2] at h; injection h with h; exact ⟨g8, rfl, by omega⟩
          · right; exact ⟨g8, rfl, by first | omega | (simp at h; omega)⟩)
        have W8 := Lib.hid (show Keep (fun k => (Value.slice a0 l.length c0).ownBlock = some k) w w8 from (W5.out.alloc _).grown hg8 (fun k hk => by
          rcases HO.out with h2 | ⟨g, h2, h3⟩
          · right; rw [← h2]; exact hk
          · left; rw [h2] at hk; injection hk with hk; omega))
        clear hown8 hg8 hor8 hlt8 HO W5 HR5
        go_wp2_with fail
        go_roundw
        case rel => exact ⟨k + 1, by omega, by go_num, by rw [hL1]; exact HR8, HO8, W8⟩
        case measure => simp [intOf]; omega
    · have hkn : k = n := by omega
      subst hkn
      have hd : decide ((k : Int) < (k : Int)) = false := by simp
      have hE : noteP l more = noteP l (more.take k) := by rw [List.take_of_length_le (by omega)]
      generalize noteP l (more.take k) = l2 at *
      clear hlb
      go_wp2_with fail
      go_ret
      refine ⟨_, rfl, ?_, HO.out, HW.out⟩
      rw [hE]
      exact HR.out
set_option maxHeartbeats 2000000 in
theorem rderiv_any (va : Option Addr) (vn vc : Nat) (l : List Sg) (ba : Option Addr) (bn bc : Nat) (bad : List Int) (a : Option Addr) (n c : Nat) (sigs : List Sg) (w : World) (hB : SlAt shSig w va vn vc l) (hb : IntsAt w ba bn bad) (hS : SlAt shSig w a n c sigs) :
    Calls Tryz.prog 56 #[.slice va vn vc, .slice ba bn bc, .slice a n c] w fun e w' => e = .returned (.bool (derivP l bad sigs)) ∧ Below w.heap.size w w' := by
  have hlen := hS.len; have hnm : n ≤ 9223372036854775807 := Nat.le_trans hS.cap hS.max; have HB := Lib.hid hB; have HI := Lib.hid hb; have HS := Lib.hid hS; clear hB hb hS
  go_enter Tryz.func56, Tryz.ntmps56
  go_wp2_with fail
  go_loopw [7] (fun i wr => ∃ k : Nat, k ≤ n ∧ i = .int .i64 k ∧ Hid (derivP l bad (sigs.take k) = true) ∧ Hid (Below w.heap.size w wr)) (fun i _ => n - (intOf i).toNat)
  case atStart => exact ⟨0, by omega, rfl, Lib.hid rfl, Lib.hid (Below.refl _ _)⟩
  case round =>
    obtain ⟨k, hk, rfl, HD, HW⟩ := hrel
    by_cases hlt : k < n
    · have hd : decide ((k : Int) < (n : Int)) = true := by simp; omega
      have hS1 := HS.out.old HW.out; obtain ⟨bb, o, x, t, rfl, hy, x0, x1, h1, h2⟩ := sig_cells hS1 hlt; have CC := Lib.hid (rhas_any ba bn bc bad x wr (HI.out.below HW.out)); have HT := Lib.hid (derivP_take (l := l) (bad := bad) hy); have HN := Lib.hid (fun h => derivP_no (l := l) (bad := bad) hy h); have CH := stands_any va vn vc l (x, t) wr (HB.out.old HW.out)
      unfold sgV at CH
      dsimp only at CH HT HN
      have CH := Lib.hid CH
      generalize hasB bad x = r1 at *
      generalize decide ((x, t) ∈ l) = r2 at *
      clear hS1 hy
      have K5 : ∀ w5 q, w5 = wr.drewN q → True := fun _ _ _ => trivial
      cases r1 with
      | true =>
        go_wp2_with fail
        refine CC.out.mono ?_
        rintro r w5 ⟨rfl, rfl⟩
        go_wp2_with fail
        go_roundw
        case rel => exact ⟨k + 1, by omega, by go_num, Lib.hid (by rw [HT.out, HD.out]; rfl), HW⟩
        case measure => simp [intOf]; omega
      | false =>
        go_wp2_with fail
        refine CC.out.mono ?_
        rintro r w5 ⟨rfl, rfl⟩
        go_wp2_with fail
        refine CH.out.mono ?_
        rintro r w6 ⟨rfl, b6⟩
        have W6 := Lib.hid (bthen HW.out b6); clear b6
        cases r2 with
        | true =>
          go_wp2_with fail
          go_roundw
          case rel => exact ⟨k + 1, by omega, by go_num, Lib.hid (by rw [HT.out, HD.out]; rfl), W6⟩
          case measure => simp [intOf]; omega
        | false =>
          go_wp2_with fail
          go_ret
          exact ⟨by rw [HN.out rfl]; rfl, W6.out⟩
    · have hkn : k = n := by omega
      subst hkn
      have hd : decide ((k : Int) < (k : Int)) = false := by simp
      have HT := Lib.hid (show derivP l bad sigs = true by have := HD.out; rwa [List.take_of_length_le (by omega)] at this)
      go_wp2_with fail
      go_ret
      exact ⟨by rw [HT.out]; rfl, HW.out⟩
end Go.Proofs.YtijeieamodjgbaaGreat
