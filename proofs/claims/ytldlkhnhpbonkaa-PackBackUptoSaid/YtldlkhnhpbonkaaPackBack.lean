/- PackBack: what is written without an error is read again, in the same order, to the end: for every input of bulk at most 1048576 the law returns true, and its arguments read as before. -/
import Derived.Test.YtldlkhnhpbonkaaTwo
import Derived.Test.YtldlkhnhpbonkaaPhase
import Derived.JoinedCond
namespace Go.Proofs.Ytldlkhnhpbonkaa.packBack
open Go.ChangeShapes Go.WideShapes Go.ChangeAt Go.RowKit
set_option linter.unusedVariables false

def bsI (i : It) : List UInt8 := itBs (kindN i.1) i.2.1 i.2.2.1 i.2.2.2
def okI (i : It) : Bool := itOk (kindN i.1) i.2.1 i.2.2.1 i.2.2.2
/-- While no error came: all were right, and their bytes stand there. -/
def Wb (l : List It) (s : W) : Prop := s.err = 0 → s.out = l.flatMap bsI ∧ ∀ i ∈ l, okI i = true
theorem Wb.put {l : List It} {s : W} (h : Wb l s) (i : It) : Wb (l ++ [i]) (wPut s (okI i) (bsI i)) := by
  intro he
  by_cases h0 : s.err = 0
  · obtain ⟨h1, h2⟩ := h h0
    cases hok : okI i with
    | false => rw [hok, wPut_bad h0] at he; cases he
    | true =>
      rw [hok, wPut_ok h0] at he
      by_cases hr : s.room < (bsI i).length
      · rw [wAdd_full hr] at he; cases he
      · rw [wPut_ok h0, wAdd_room hr]
        refine ⟨?_, fun j hj => ?_⟩
        · show s.out ++ bsI i = _
          rw [h1, List.flatMap_append]; simp
        · rcases List.mem_append.1 hj with hj | hj
          · exact h2 j hj
          · have : j = i := by simpa using hj
            rw [this]; exact hok
  · rw [wPut_err h0] at he; exact absurd he h0
theorem valBE_beN : ∀ (k n : Nat), valBE (beN n k) = n % 256 ^ k
  | 0, n => by simp [beN, valBE, Nat.mod_one]
  | k + 1, n => by
    rw [beN, valBE_snoc, valBE_beN k, Nat.pow_succ, Nat.mul_comm (256 ^ k) 256, Nat.mod_mul]
    have : (UInt8.ofNat (n % 256)).toNat = n % 256 := by simp
    rw [this]; omega
/-- A number's bytes ahead are read as just that. -/
theorem read_num (n k : Nat) (r : List UInt8) (hn : n < 256 ^ k) : rVal ⟨beN n k ++ r, false⟩ k = n ∧ rNext ⟨beN n k ++ r, false⟩ k = ⟨r, false⟩ := by
  have hl := beN_len k n
  have hc : ¬ ((R.mk (beN n k ++ r) false).bad = true ∨ (R.mk (beN n k ++ r) false).rest.length < k) := by
    simp [hl]
  rw [rVal_ok hc, rNext_ok hc]
  refine ⟨?_, ?_⟩
  · show valBE ((beN n k ++ r).take k) = n
    rw [List.take_append_of_le_length (by omega), List.take_of_length_le (by omega), valBE_beN, Nat.mod_eq_of_lt hn]
  · show R.mk ((beN n k ++ r).drop k) false = _
    rw [List.drop_append_of_le_length (by omega), List.drop_of_length_le (by omega), List.nil_append]
theorem read_text (t r : List UInt8) (hn : t.length ≤ 65535) : tVal ⟨(beN t.length 2 ++ t) ++ r, false⟩ = t ∧ tNext ⟨(beN t.length 2 ++ t) ++ r, false⟩ = ⟨r, false⟩ := by
  rw [List.append_assoc]
  obtain ⟨h1, h2⟩ := read_num t.length 2 (t ++ r) (by omega)
  have hc : ¬ tBad ⟨beN t.length 2 ++ (t ++ r), false⟩ := by
    unfold tBad
    rw [h1, h2]
    simp
  rw [tVal_ok hc, tNext_ok hc, h1, h2]
  exact ⟨by simp, by simp⟩

theorem inv_num {a b : Nat} (h : a = b) : ((a : Int) == (b : Int)) = true := by rw [h]; simp

/-- While items are written. -/
def Inv (w : World) (M : Int) (l : List It) (pw : Nat) (j : Nat) (wr : World) : Prop := ∃ ob s, Below w.heap.size w wr ∧ PWr wr pw pw ob s ∧ (∀ k, ob = some k → w.heap.size ≤ k) ∧ Wi M (cost (l.take j)) s ∧ Wb (l.take j) s
/-- While they are read. -/
def InvR (text : ByteArray) (w : World) (l : List It) (pr : Nat) (j : Nat) (wr : World) : Prop := Below w.heap.size w wr ∧ PRd wr pr text ⟨(l.drop j).flatMap bsI, false⟩
theorem InvR.step {text : ByteArray} {w wr w6 : World} {l : List It} {pr j : Nat} {s : R} (h : Below w.heap.size w wr) (hp : w.heap.size ≤ pr) (ho : Only pr none wr w6) (hr : PRd w6 pr text s) (hs : s = ⟨(l.drop (j + 1)).flatMap bsI, false⟩) : InvR text w l pr (j + 1) w6 :=
  ⟨Only.below h ho hp (fun k hk => by cases hk), by rw [← hs]; exact hr⟩
theorem InvR.old {text : ByteArray} {w wr w6 : World} {l : List It} {pr j : Nat} (h : InvR text w l pr j wr) (hb : Below wr.heap.size wr w6) : InvR text w l pr j w6 := ⟨bthen h.1 hb, prd_below h.2 hb⟩
theorem drop_flat (l : List It) {j : Nat} {i : It} (h : l[j]? = some i) : (l.drop j).flatMap bsI = bsI i ++ (l.drop (j + 1)).flatMap bsI := by
  obtain ⟨hj, rfl⟩ := List.getElem?_eq_some_iff.1 h
  rw [List.drop_eq_getElem_cons hj]; rfl

set_option maxHeartbeats 4000000 in
theorem walk (w : World) (limit : Int) (hlim : i64 limit) (a : Option Addr) (n c : Nat) (l : List It) (hl : SlAt shIt w a n c l) (HK : shIt.slice.sz l ≤ 1048576) :
    Calls Try.prog 6 #[.int .i64 limit, .slice a n c] w fun e w' => e = .returned (.bool true) ∧ Below w.heap.size w w' := by
  have HL := Lib.hid hl
  have hn : n ≤ 9223372036854775807 := Nat.le_trans hl.cap hl.max
  have hln := Lib.hid hl.len
  have hcost := cost_le l
  obtain ⟨hlim1, hlim2⟩ := hlim
  clear hl
  go_enter Try.func6, Try.ntmps6
  go_wp2_with fail
  refine (lives_any _).mono ?_
  rintro e w1 ⟨rfl, b1⟩
  go_wp2_with fail
  refine (wnew_any limit w1).mono ?_
  rintro e w2 ⟨rfl, hw2, b2⟩
  have hz1 := b1.size
  obtain ⟨M, hM⟩ : ∃ M, M = max limit 0 := ⟨_, rfl⟩
  have HI := Lib.hid (show Inv w M l w1.heap.size 0 w2 from ⟨none, _, bthen b1 b2, hw2, fun k hk => (by cases hk), by rw [hM]; exact Wi.start limit, fun _ => ⟨rfl, fun i hi => (by cases hi)⟩⟩)
  have hM2 : M ≤ 9223372036854775807 := by omega
  clear b1 b2 hw2 hM
  generalize w1.heap.size = pw at *
  go_wp2_with fail
  go_loopw [6] (fun i wr => ∃ j : Nat, j ≤ n ∧ i = .int .i64 j ∧ Hid (Inv w M l pw j wr)) (fun i _ => n - (intOf i).toNat)
  case atStart => exact ⟨0, by omega, rfl, HI⟩
  case round =>
    clear HI
    obtain ⟨j, hj, rfl, HI⟩ := hrel
    obtain ⟨ob, s, HB, HP, HO, HW, HWb⟩ := HI.out
    clear HI
    by_cases hlt : j < n
    · obtain ⟨b, o, k, m, x, t, rfl, hit, c0, c1, c2, c3, hk, hm, ⟨hx0, hx1⟩, ht⟩ := it_cells (HL.out.old HB) hlt
      obtain ⟨x, rfl⟩ := Int.eq_ofNat_of_zero_le hx0
      have hct := cost_take l hit
      have hcl := cost_take_le l (j + 1)
      have hbs := itBs_len (kindN k) m x t
      have HW2 := Lib.hid (HW.put (itOk (kindN k) m x t) (itBs (kindN k) m x t) (8 + t.size) hbs)
      rw [← hct] at HW2
      have HWb2 := Lib.hid (show Wb (l.take (j + 1)) (wPut s (itOk (kindN k) m x t) (itBs (kindN k) m x t)) by rw [List.take_add_one, hit]; exact HWb.put (k, m, (x : Int), t))
      have ho1 := HW.cost
      have CP := write_any k m x t pw pw ob s wr HP (by have := WAt.lt HP; omega) (HW.ok hM2) (by omega) hm (by omega) ht
      generalize wPut s (itOk (kindN k) m x t) (itBs (kindN k) m x t) = s' at *
      replace CP := Lib.hid CP
      have q0 := World.block_lt c0
      have hj0 : (0 : Int) ≤ (j : Int) := by omega
      have hj1 : (j : Int) < (n : Int) := by omega
      replace HB := Lib.hid HB
      have hbz := HB.out.size
      replace HO := Lib.hid HO
      clear hct hcl hbs ho1 hk hm hx0 hx1 ht HW hcost HWb HP
      go_wp2_with fail
      refine CP.out.mono ?_
      rintro e w4 ⟨rfl, ob4, hob4, hw4, o4⟩
      have HN := Lib.hid (show Inv w M l pw (j + 1) w4 from ⟨ob4, s', Only.below HB.out o4 hz1 HO.out, hw4, fun q hq => by
        rcases hob4 with rfl | ⟨q', rfl, hq'⟩
        · exact HO.out q hq
        · injection hq with hq; omega, HW2.out, HWb2.out⟩)
      clear hob4 hw4 o4 CP HW2 HWb2 c0 c1 c2 c3
      go_wp2_with fail
      go_roundw
      case rel => exact ⟨j + 1, by omega, by go_num, HN⟩
      case measure => simp [intOf]; omega
    · obtain rfl : j = n := by omega
      have CD := Lib.hid (wdone_any pw pw ob s wr HP)
      have hlen : l.take j = l := List.take_of_length_le (by have := hln.out; omega)
      rw [hlen] at HWb HW
      have hsz := HW.cost
      by_cases he : s.err = 0
      case' neg =>
        have hd : doneS s = ⟨#[]⟩ := by rw [doneS, if_neg he]
        have he1 : (s.err != 0) = true := by simpa using he
        rw [hd] at CD
        replace HB := Lib.hid HB
        clear HWb HW HP HO hd hlen
        generalize s.err = er at *
        go_wp2_with fail
        refine CD.out.mono ?_
        rintro e w4 ⟨rfl, b4⟩
        go_wp2_with fail
        go_ret
        exact ⟨rfl, bthen HB.out b4⟩
      case' pos =>
        obtain ⟨hout, hall⟩ := HWb he
        have hds : (doneS s).data.toList = l.flatMap bsI := by rw [doneS, if_pos he]; exact hout
        have hdl : (doneS s).size ≤ 140737488351232 := by
          rw [doneS, if_pos he]
          show s.out.toArray.size ≤ _
          simp; omega
        rw [he] at CD
        have Hds := Lib.hid hds
        have Hall := Lib.hid hall
        replace HB := Lib.hid HB
        clear HWb HW HP HO hlen he hout hds hall hsz
        generalize doneS s = D at *
        go_wp2_with fail
        refine CD.out.mono ?_
        rintro e w4 ⟨rfl, b4⟩
        go_wp2_with fail
        refine (read_any D w4 hdl).mono ?_
        rintro e w5 ⟨rfl, hr5, b5⟩
        have hz5 := (bthen HB.out b4).size
        have HI := Lib.hid (show InvR D w l w4.heap.size 0 w5 from ⟨bthen (bthen HB.out b4) b5, by rw [Hds.out] at hr5; exact hr5⟩)
        clear CD HB b4 b5 hr5
        generalize w4.heap.size = pr at *
        go_wp2_with fail
        go_loopw [10] (fun i wr => ∃ q : Nat, q ≤ j ∧ i = .int .i64 q ∧ Hid (InvR D w l pr q wr)) (fun i _ => j - (intOf i).toNat)
        case atStart => exact ⟨0, by omega, rfl, HI⟩
        case round =>
          clear HI
          obtain ⟨q, hq, rfl, HI⟩ := hrel
          by_cases hlt : q < j
          · obtain ⟨b, o, k, m, x, t, rfl, hit, c0, c1, c2, c3, hk, hm, ⟨hx0, hx1⟩, ht⟩ := it_cells (HL.out.old HI.out.1) hlt
            have Hok := Lib.hid (show itOk (kindN k) m x t = true from Hall.out (k, m, x, t) (List.mem_of_getElem? hit))
            have Hd := Lib.hid (show (l.drop q).flatMap bsI = itBs (kindN k) m x t ++ (l.drop (q + 1)).flatMap bsI from drop_flat l hit)
            have q0 := World.block_lt c0
            have hpl := prd_lt HI.out.2
            have hj0 : (0 : Int) ≤ (q : Int) := by omega
            have hj1 : (q : Int) < (j : Int) := by omega
            go_wp2_with fail
            refine (kind_any k m x t _).mono ?_
            rintro e w6 ⟨rfl, b6⟩
            have B6 := bthen (below_alloc wr _) b6
            have hbox := blk_below (blk_alloc wr (.cells #[.int .i64 k, .int .i64 m, .int .u64 x, .string t] 32)) b6
            have HI6 := Lib.hid (HI.out.old B6)
            have hne : ¬ wr.heap.size = pr := by omega
            have hbl := blk_lt hbox
            have m1 : w6.cell? ⟨wr.heap.size, 1, none⟩ = some (.int .i64 m) := by rw [blk_cell hbox]; rfl
            have m2 : w6.cell? ⟨wr.heap.size, 2, none⟩ = some (.int .u64 x) := by rw [blk_cell hbox]; rfl
            have m3 : w6.cell? ⟨wr.heap.size, 3, none⟩ = some (.string t) := by rw [blk_cell hbox]; rfl
            have Hbox := Lib.hid hbox
            clear b6 B6 hbox c0 c1 c2 c3 HI hk hm hit
            generalize wr.heap.size = bx at *
            rcases kindN_range k with h | h | h | h | h
            · rw [h] at Hok Hd ⊢
              clear h
              have hmr : 0 ≤ m ∧ m ≤ 255 := by have h := Hok.out; simpa [itOk] using h
              obtain ⟨v, rfl⟩ := Int.eq_ofNat_of_zero_le hmr.1
              obtain ⟨g1, g2⟩ := read_num v 1 ((l.drop (q + 1)).flatMap bsI) (by have := hmr.2; omega)
              have hst : (l.drop q).flatMap bsI = beN v 1 ++ (l.drop (q + 1)).flatMap bsI := by rw [Hd.out]; rfl
              have CB : ∀ w', w'.heap = w6.heap → Calls Try.prog 24 #[.pointer (some ⟨pr, 0, none⟩)] w' fun e w'' => e = .returned (.int .i64 (v : Int)) ∧ PRd w'' pr D ⟨(l.drop (q + 1)).flatMap bsI, false⟩ ∧ Only pr none w' w'' := fun w' hw => by
                have hC := rbyte_any pr D ⟨(l.drop q).flatMap bsI, false⟩ w' (by
                  obtain ⟨at0, e1, e2, ek, e3⟩ := HI6.out.2
                  exact ⟨at0, e1, e2, by rw [hw]; exact ek, e3⟩)
                refine hC.mono ?_
                rintro e w'' ⟨rfl, e1, e2⟩
                rw [hst, g1] at *
                rw [g2] at e1
                exact ⟨rfl, e1, e2⟩
              replace CB := Lib.hid CB
              clear hst g1 g2 Hok Hd
              go_wp2_with fail
              go_region_law (first | (refine step_at 24 rfl ?_; refine step_calls rfl 24 #[.pointer (some ⟨pr, 0, none⟩)] (by go_simp) (CB.out _ rfl) ?_; rintro e w7 ⟨rfl, hr7, o7⟩; refine ⟨_, rfl, ?_⟩; have k7 : w7.cell? ⟨bx, 1, none⟩ = some (.int .i64 (v : Int)) := (by rw [World.cell?_of_block (w := w6) (a := ⟨bx, 1, none⟩) (o7.block bx hbl hne (by simp))]; assumption)))
              all_goals
                have HN := Lib.hid (show InvR D w l pr (q + 1) w7 from InvR.step (wr := World.drew w6) (below_drewN HI6.out.1 1) hz5 o7 hr7 rfl)
                clear o7 hr7 k7 CB HI6
                go_wp2_with fail
                go_roundw
                case rel => exact ⟨q + 1, by omega, by go_num, HN⟩
                case measure => simp [intOf]; omega
            · rw [h] at Hok Hd ⊢
              clear h
              have hmr : 0 ≤ m ∧ m ≤ 65535 := by have h := Hok.out; simpa [itOk] using h
              obtain ⟨v, rfl⟩ := Int.eq_ofNat_of_zero_le hmr.1
              obtain ⟨g1, g2⟩ := read_num v 2 ((l.drop (q + 1)).flatMap bsI) (by have := hmr.2; omega)
              have hst : (l.drop q).flatMap bsI = beN v 2 ++ (l.drop (q + 1)).flatMap bsI := by rw [Hd.out]; rfl
              have CB : ∀ w', w'.heap = w6.heap → Calls Try.prog 25 #[.pointer (some ⟨pr, 0, none⟩)] w' fun e w'' => e = .returned (.int .i64 (v : Int)) ∧ PRd w'' pr D ⟨(l.drop (q + 1)).flatMap bsI, false⟩ ∧ Only pr none w' w'' := fun w' hw => by
                have hC := rword_any pr D ⟨(l.drop q).flatMap bsI, false⟩ w' (by
                  obtain ⟨at0, e1, e2, ek, e3⟩ := HI6.out.2
                  exact ⟨at0, e1, e2, by rw [hw]; exact ek, e3⟩)
                refine hC.mono ?_
                rintro e w'' ⟨rfl, e1, e2⟩
                rw [hst, g1] at *
                rw [g2] at e1
                exact ⟨rfl, e1, e2⟩
              replace CB := Lib.hid CB
              clear hst g1 g2 Hok Hd
              go_wp2_with fail
              go_region_law (first | (refine step_at 25 rfl ?_; refine step_calls rfl 25 #[.pointer (some ⟨pr, 0, none⟩)] (by go_simp) (CB.out _ rfl) ?_; rintro e w7 ⟨rfl, hr7, o7⟩; refine ⟨_, rfl, ?_⟩; have k7 : w7.cell? ⟨bx, 1, none⟩ = some (.int .i64 (v : Int)) := (by rw [World.cell?_of_block (w := w6) (a := ⟨bx, 1, none⟩) (o7.block bx hbl hne (by simp))]; assumption)))
              all_goals
                have HN := Lib.hid (show InvR D w l pr (q + 1) w7 from InvR.step (wr := World.drew w6) (below_drewN HI6.out.1 1) hz5 o7 hr7 rfl)
                clear o7 hr7 k7 CB HI6
                go_wp2_with fail
                go_roundw
                case rel => exact ⟨q + 1, by omega, by go_num, HN⟩
                case measure => simp [intOf]; omega
            · rw [h] at Hok Hd ⊢
              clear h
              have hmr : 0 ≤ m ∧ m ≤ 4294967295 := by have h := Hok.out; simpa [itOk] using h
              obtain ⟨v, rfl⟩ := Int.eq_ofNat_of_zero_le hmr.1
              obtain ⟨g1, g2⟩ := read_num v 4 ((l.drop (q + 1)).flatMap bsI) (by have := hmr.2; omega)
              have hst : (l.drop q).flatMap bsI = beN v 4 ++ (l.drop (q + 1)).flatMap bsI := by rw [Hd.out]; rfl
              have CB : ∀ w', w'.heap = w6.heap → Calls Try.prog 26 #[.pointer (some ⟨pr, 0, none⟩)] w' fun e w'' => e = .returned (.int .i64 (v : Int)) ∧ PRd w'' pr D ⟨(l.drop (q + 1)).flatMap bsI, false⟩ ∧ Only pr none w' w'' := fun w' hw => by
                have hC := rlong_any pr D ⟨(l.drop q).flatMap bsI, false⟩ w' (by
                  obtain ⟨at0, e1, e2, ek, e3⟩ := HI6.out.2
                  exact ⟨at0, e1, e2, by rw [hw]; exact ek, e3⟩)
                refine hC.mono ?_
                rintro e w'' ⟨rfl, e1, e2⟩
                rw [hst, g1] at *
                rw [g2] at e1
                exact ⟨rfl, e1, e2⟩
              replace CB := Lib.hid CB
              clear hst g1 g2 Hok Hd
              go_wp2_with fail
              go_region_law (first | (refine step_at 26 rfl ?_; refine step_calls rfl 26 #[.pointer (some ⟨pr, 0, none⟩)] (by go_simp) (CB.out _ rfl) ?_; rintro e w7 ⟨rfl, hr7, o7⟩; refine ⟨_, rfl, ?_⟩; have k7 : w7.cell? ⟨bx, 1, none⟩ = some (.int .i64 (v : Int)) := (by rw [World.cell?_of_block (w := w6) (a := ⟨bx, 1, none⟩) (o7.block bx hbl hne (by simp))]; assumption)))
              all_goals
                have HN := Lib.hid (show InvR D w l pr (q + 1) w7 from InvR.step (wr := World.drew w6) (below_drewN HI6.out.1 1) hz5 o7 hr7 rfl)
                clear o7 hr7 k7 CB HI6
                go_wp2_with fail
                go_roundw
                case rel => exact ⟨q + 1, by omega, by go_num, HN⟩
                case measure => simp [intOf]; omega
            · rw [h] at Hok Hd ⊢
              clear h
              obtain ⟨v, rfl⟩ := Int.eq_ofNat_of_zero_le hx0
              obtain ⟨g1, g2⟩ := read_num v 8 ((l.drop (q + 1)).flatMap bsI) (by omega)
              have hst : (l.drop q).flatMap bsI = beN v 8 ++ (l.drop (q + 1)).flatMap bsI := by rw [Hd.out]; rfl
              have CB : ∀ w', w'.heap = w6.heap → Calls Try.prog 27 #[.pointer (some ⟨pr, 0, none⟩)] w' fun e w'' => e = .returned (.int .u64 (v : Int)) ∧ PRd w'' pr D ⟨(l.drop (q + 1)).flatMap bsI, false⟩ ∧ Only pr none w' w'' := fun w' hw => by
                have hC := rdbits_any pr D ⟨(l.drop q).flatMap bsI, false⟩ w' (by
                  obtain ⟨at0, e1, e2, ek, e3⟩ := HI6.out.2
                  exact ⟨at0, e1, e2, by rw [hw]; exact ek, e3⟩)
                refine hC.mono ?_
                rintro e w'' ⟨rfl, e1, e2⟩
                rw [hst, g1] at *
                rw [g2] at e1
                exact ⟨rfl, e1, e2⟩
              replace CB := Lib.hid CB
              clear hst g1 g2 Hok Hd
              go_wp2_with fail
              go_region_law (first | (refine step_at 27 rfl ?_; refine step_calls rfl 27 #[.pointer (some ⟨pr, 0, none⟩)] (by go_simp) (CB.out _ rfl) ?_; rintro e w7 ⟨rfl, hr7, o7⟩; refine ⟨_, rfl, ?_⟩; have k7 : w7.cell? ⟨bx, 2, none⟩ = some (.int .u64 (v : Int)) := (by rw [World.cell?_of_block (w := w6) (a := ⟨bx, 2, none⟩) (o7.block bx hbl hne (by simp))]; assumption)))
              all_goals
                have HN := Lib.hid (show InvR D w l pr (q + 1) w7 from InvR.step (wr := World.drew w6) (below_drewN HI6.out.1 1) hz5 o7 hr7 rfl)
                clear o7 hr7 k7 CB HI6
                go_wp2_with fail
                go_roundw
                case rel => exact ⟨q + 1, by omega, by go_num, HN⟩
                case measure => simp [intOf]; omega
            · rw [h] at Hok Hd ⊢
              clear h
              have hmr : t.size ≤ 65535 := by have h := Hok.out; simpa [itOk] using h
              have htl : t.data.toList.length = t.size := by simp
              obtain ⟨g1, g2⟩ := read_text t.data.toList ((l.drop (q + 1)).flatMap bsI) (by omega)
              have hst : (l.drop q).flatMap bsI = (beN t.data.toList.length 2 ++ t.data.toList) ++ (l.drop (q + 1)).flatMap bsI := by rw [Hd.out, htl]; rfl
              have CB : ∀ w', w'.heap = w6.heap → Calls Try.prog 28 #[.pointer (some ⟨pr, 0, none⟩)] w' fun e w'' => e = .returned (.string t) ∧ PRd w'' pr D ⟨(l.drop (q + 1)).flatMap bsI, false⟩ ∧ Only pr none w' w'' := fun w' hw => by
                have hC := rdtext_any pr D ⟨(l.drop q).flatMap bsI, false⟩ w' (by
                  obtain ⟨at0, e1, e2, ek, e3⟩ := HI6.out.2
                  exact ⟨at0, e1, e2, by rw [hw]; exact ek, e3⟩)
                refine hC.mono ?_
                rintro e w'' ⟨rfl, e1, e2⟩
                rw [hst, g1] at *
                rw [g2] at e1
                exact ⟨rfl, e1, e2⟩
              replace CB := Lib.hid CB
              clear hst g1 g2 Hok Hd htl
              go_wp2_with fail
              go_region_law (first | (refine step_at 28 rfl ?_; refine step_calls rfl 28 #[.pointer (some ⟨pr, 0, none⟩)] (by go_simp) (CB.out _ rfl) ?_; rintro e w7 ⟨rfl, hr7, o7⟩; refine ⟨_, rfl, ?_⟩; have k7 : w7.cell? ⟨bx, 3, none⟩ = some (.string t) := (by rw [World.cell?_of_block (w := w6) (a := ⟨bx, 3, none⟩) (o7.block bx hbl hne (by simp))]; assumption)))
              all_goals
                have HN := Lib.hid (show InvR D w l pr (q + 1) w7 from InvR.step (wr := World.drew w6) (below_drewN HI6.out.1 1) hz5 o7 hr7 rfl)
                clear o7 hr7 k7 CB HI6
                go_wp2_with fail
                go_roundw
                case rel => exact ⟨q + 1, by omega, by go_num, HN⟩
                case measure => simp [intOf]; omega
          · obtain rfl : q = j := by omega
            have hdr : l.drop q = [] := List.drop_of_length_le (by have := hln.out; omega)
            have hr0 : PRd wr pr D ⟨[], false⟩ := by have := HI.out.2; rw [hdr] at this; exact this
            have CE := Lib.hid (end_any pr D ⟨[], false⟩ wr hr0)
            have CL := Lib.hid (fun w' hb => left_any pr D ⟨[], false⟩ w' (prd_below hr0 hb))
            have e1 : endE ⟨[], false⟩ = 0 := rfl
            rw [e1] at CE
            clear hr0 e1
            go_wp2_with fail
            refine CE.out.mono ?_
            rintro e w6 ⟨rfl, n6, rfl⟩
            go_wp2_with fail
            refine (CL.out _ (below_drewN (Below.refl _ _) n6)).mono ?_
            rintro e w7 ⟨rfl, n7, rfl⟩
            go_wp2_with fail
            go_ret
            exact ⟨rfl, below_drewN HI.out.1 _⟩

set_option maxRecDepth 100000 in
theorem lifted (os : Os) (started : os.Started) (H : Type) (enc : TypeId × Value → H) (F : Stop.Interp) :
    ReturnsInHanded {} Try.checked os 6 .any ((Rows.OpenSpec.upto Rows.packBackSpec).pre6 enc Try.prog Try.f6 Rows.packBackUptoRow.domain false) (((Rows.OpenSpec.upto Rows.packBackSpec).at F).post enc Try.prog Try.f6 false true false false) := by
  refine returnsInHanded_of_cond (C := Try.checked) (s := Rows.OpenSpec.upto Rows.packBackSpec) (k := Rows.uptoSmall) rfl own started (by kernel_rfl) Try.func6
    (OpenSpec.witness (enc := enc) (C := Try.checked) (s := Rows.OpenSpec.upto Rows.packBackSpec) (k := Rows.uptoSmall) rfl false ⟨#[], #[.int .i64 0, .slice none 0 0], []⟩ 8 (by kernel_rfl) (by kernel_rfl) (by kernel_rfl)
      (x := ([.lit (.int .i64 0), .nil], [], [])) (by kernel_rfl) rfl (by kernel_rfl)) ?_
  intro W base args ds gs before hval0 hW _ hk _
  have hval : ∀ (j : Nat) t v, Try.f6.params[j]? = some t → args[j]? = some v → Value.okWide Try.prog W .any base t v := hval0
  have hW' := hW
  obtain ⟨p, q, hA0, hV, rfl, hfz, hnd⟩ := hW
  have hA : DataW.TrodAll enc Try.prog W 0 (fun _ => true) true Try.f6.params.toList args.toList ds p := hA0
  rw [Try.params6] at hA hval
  have hA2 := hA
  obtain ⟨v0, vs0, d0, ds0, p0, q0, hargs, rfl, rfl, h0, r0⟩ := trodAll_cons hA
  obtain ⟨v1, vs1, d1, ds1, p1, q1, rfl, rfl, rfl, h1, r1⟩ := trodAll_cons r0
  obtain ⟨rfl, rfl, rfl⟩ := trodAll_nil r1
  obtain rfl : args = #[v0, v1] := by cases args; simp_all
  obtain ⟨rfl, rfl⟩ := trodVars_none hV
  clear hargs
  have hk' : Rows.uptoSmall H [d0, d1] = true := by simpa using hk
  have k0 := hval 0 3 v0 rfl rfl
  obtain ⟨fu0, m0⟩ := h0
  obtain ⟨a0, e0, f0⟩ := view_int Try.underlying3 m0
  have e0' := int_of Try.underlying3 k0 e0
  subst e0'
  have k1 := hval 1 22 v1 rfl rfl
  obtain ⟨fu1, m1⟩ := h1
  have F1 : Fit Try.prog 22 d1 := fit_upto hk' (by simp) _
  obtain ⟨l1, ⟨a1, n1, c1, e1, f1⟩, g1⟩ := vwIts.2.2 m1 F1
  have e1' := slice_of Try.underlying22 k1 e1
  subst e1'
  have G1 : shIt.slice.sz l1 ≤ Rows.uptoBulk d1 := g1
  have HK : shIt.slice.sz l1 ≤ 1048576 := by have h : Rows.uptoBulkAll [d0, d1] ≤ 1048576 := (by simpa [Rows.uptoSmall] using hk'); simp only [Rows.uptoBulkAll] at h; omega
  refine (walk W a0 f0 a1 n1 c1 l1 f1 HK).mono fun e W' ⟨he, bel⟩ => ?_
  subst he
  exact ⟨_, rfl, _, _, _, [], _, [], hW', trodAll_mk1 (shut_bool Try.underlying4 _), trodAll_again laidOut bel (by kernel_rfl) hA2, rfl, bel.frame _, fun h => by cases h⟩

theorem over : Rows.packBackUptoRow.holds Try.pinned (Rows.OpenSpec.upto Rows.packBackSpec) :=
  OpenClaim.holds_of_cond 6 Try.f6 rfl rfl rfl rfl rfl rfl rfl ⟨rfl, rfl, rfl, rfl, rfl⟩ rfl rfl rfl rfl rfl (by kernel_rfl) Try.func6 (by kernel_rfl)
    (of_decide_eq_true (by kernel_rfl)) (by unfold Func.isWrapper; first | (rw [if_pos (by decide +kernel)]; kernel_rfl) | (rw [if_neg (by decide +kernel)]; exact ⟨rfl, rfl⟩))
    (fun os started H enc _ F => lifted os started H enc F)

theorem proved : Rows.PackBackUptoSaid := over
#print axioms proved
end Go.Proofs.Ytldlkhnhpbonkaa.packBack
