
/- What is signed in a vote: plain, and both layers' walks of Texts. -/
import Derived.Test.YtfhbjajhmegdmaaDh0
import Derived.Test.YtfhbjajhmegdmaaTxW
import Derived.Test.YtfhbjajhmegdmaaSg
namespace Go.Proofs.Ytfhbjajhmegdmaa
set_option maxRecDepth 100000
open Go.RowKit
set_option linter.unusedVariables false
set_option linter.unusedSimpArgs false

def vGood (e : Int) (l : List Int) (t : ByteArray) (nx : List Int) : Bool := rightB e l && decide (t.size ≠ 0) && rightB (e + 1) nx
def stS (e : Int) (t : ByteArray) : ByteArray := hdText 83 [4 * (e + 1)] t
def vS (e : Int) (l : List Int) (t : ByteArray) (nx : List Int) : ByteArray := if vGood e l t nx = true then stS e t else ⟨#[]⟩
def vC (e : Int) (l : List Int) (t : ByteArray) (nx : List Int) : ByteArray := if vGood e l t nx = true then textS (e + 1) nx else ⟨#[]⟩
def vE (e : Int) (l : List Int) (t : ByteArray) (nx : List Int) : Int := if vGood e l t nx = true then 0 else 1
theorem slot_ok {e : Int} (h0 : 0 ≤ e) (h1 : e ≤ 60) : hdErr [4 * (e + 1)] = 0 := by
  rw [hdErr, if_pos]
  simp [longOk]; omega
theorem empty_toList : (⟨#[]⟩ : ByteArray).toList = [] := by rw [ByteArray.toList_eq]
theorem size_zero {t : ByteArray} (h : t.size = 0) : t = ⟨#[]⟩ := by
  apply ByteArray.ext
  exact Array.eq_empty_of_size_eq_zero h
theorem toList_ne {t : ByteArray} (h : t.size ≠ 0) : t.toList.isEmpty = false := by
  rw [ByteArray.toList_eq]
  cases hc : t.data.toList with
  | nil => exact absurd (show t.size = 0 by rw [← ByteArray.size_data, ← Array.length_toList, hc]; rfl) h
  | cons x r => rfl

set_option maxHeartbeats 1000000 in
theorem vtexts_any (e : Int) (a : Option Addr) (n c : Nat) (l : List Int) (t : ByteArray) (b : Option Addr) (m d : Nat) (nx : List Int) (w : World) (he : i64 e) (h : IntsAt w a n l) (ht : t.size ≤ 140737488355328) (hx : IntsAt w b m nx) :
    Calls Try.prog 10 #[.agg #[.int .i64 e, .slice a n c], .string t, .slice b m d] w fun r w' => r = .returned (.tuple #[.string (vS e l t nx), .string (vC e l t nx), .int .i64 (vE e l t nx)]) ∧ Below w.heap.size w w' := by
  have BX := Lib.hid (below_alloc w (.cells #[.int .i64 e, .slice a n c] 24 (0, 0)))
  have KX := Lib.hid (blk_alloc w (.cells #[.int .i64 e, .slice a n c] 24 (0, 0)))
  have CR := Lib.hid (right_any e a n c l _ (h.below BX.out))
  have HX := Lib.hid hx
  have HV := Lib.hid (show vS e l t nx = (if vGood e l t nx = true then stS e t else ⟨#[]⟩) ∧ vC e l t nx = (if vGood e l t nx = true then textS (e + 1) nx else ⟨#[]⟩) ∧ vE e l t nx = (if vGood e l t nx = true then 0 else 1) from ⟨rfl, rfl, rfl⟩)
  have HS := Lib.hid (fun w => state_any (4 * (e + 1)) t w)
  have hSE : rightB e l = true → hdErr [4 * (e + 1)] = 0 := fun hr => slot_ok (rightB_rising hr).1 (rightB_rising hr).2.1
  have hre : rightB e l = true → 0 ≤ e ∧ e ≤ 60 := fun hr => ⟨(rightB_rising hr).1, (rightB_rising hr).2.1⟩
  have HST := Lib.hid (show stS e t = hdText 83 [4 * (e + 1)] t from rfl)
  have hG : vGood e l t nx = (rightB e l && decide (t.size ≠ 0) && rightB (e + 1) nx) := rfl
  have HTX := Lib.hid (fun w' (hb : Below w.heap.size w w') => text_any (e + 1) b m d nx w' (HX.out.below hb))
  have hte : textE (e + 1) nx = if rightB (e + 1) nx = true then 0 else 1 := rfl
  generalize vS e l t nx = S at *
  generalize vC e l t nx = C at *
  generalize vE e l t nx = E at *
  generalize vGood e l t nx = G at *
  rw [← HST.out] at HS
  generalize stS e t = ST at *
  generalize textS (e + 1) nx = TS at *
  generalize textE (e + 1) nx = TE at *
  generalize hdErr [4 * (e + 1)] = HE at *
  clear h hx
  cases hr : rightB e l with
  | false =>
    rw [hr] at hG CR
    obtain rfl : G = false := by simpa using hG
    clear hSE hre hte hG
    go_enter Try.func10, Try.ntmps10
    go_wp2_with fail
    refine CR.out.mono ?_
    rintro r w1 ⟨rfl, b1⟩
    have B1 := Lib.hid (bthen BX.out b1)
    clear b1
    go_wp2_with fail
    go_ret3
    exact ⟨by rw [HV.out.1, HV.out.2.1, HV.out.2.2]; rfl, B1.out⟩
  | true =>
    rw [hr] at hG CR
    obtain ⟨he0, he1⟩ := hre hr
    have hw1 : IntKind.i64.wrap (e + 1) = e + 1 := IntWalk.i64_in _ (by omega)
    have hw2 : IntKind.i64.wrap ((e + 1) * 4) = 4 * (e + 1) := by rw [IntWalk.i64_in _ (by omega)]; omega
    obtain rfl : HE = 0 := hSE hr
    by_cases ht0 : t.size = 0
    · obtain rfl : t = ⟨#[]⟩ := size_zero ht0
      obtain rfl : G = false := by rw [hG, decide_eq_false (fun h => h ht0)]; simp
      have hte0 : (⟨#[]⟩ : ByteArray).toList.isEmpty = true := by rw [empty_toList]; rfl
      clear hSE hre hte hG
      go_enter Try.func10, Try.ntmps10
      go_wp2_with fail
      refine CR.out.mono ?_
      rintro r w1 ⟨rfl, b1⟩
      have B1 := Lib.hid (bthen BX.out b1)
      clear b1
      go_wp2_with fail
      go_ret3
      exact ⟨by rw [HV.out.1, HV.out.2.1, HV.out.2.2]; rfl, B1.out⟩
    · have htn : t.toList.isEmpty = false := toList_ne ht0
      rw [decide_eq_true ht0, Bool.true_and, Bool.true_and] at hG
      subst hG
      cases hrn : rightB (e + 1) nx with
      | false =>
        rw [hrn, if_neg (by decide)] at hte
        subst hte
        clear hSE hre
        rw [hrn] at HV
        go_enter Try.func10, Try.ntmps10
        go_wp2_with fail
        refine CR.out.mono ?_
        rintro r w1 ⟨rfl, b1⟩
        have B1 := Lib.hid (bthen BX.out b1)
        have K1 := Lib.hid (blk_below KX.out b1)
        have k0 : w1.cell? ⟨w.heap.size, 0, none⟩ = some (.int .i64 e) := by rw [blk_cell K1.out]; rfl
        clear b1
        go_wp2_with fail
        refine (HTX.out _ B1.out).mono ?_
        rintro r w2 ⟨rfl, b2⟩
        have B2 := Lib.hid (bthen B1.out b2)
        clear b2
        go_wp2_with fail
        go_ret3
        exact ⟨by rw [HV.out.1, HV.out.2.1, HV.out.2.2]; rfl, B2.out⟩
      | true =>
        rw [hrn, if_pos rfl] at hte
        subst hte
        clear hSE hre
        rw [hrn] at HV
        go_enter Try.func10, Try.ntmps10
        go_wp2_with fail
        refine CR.out.mono ?_
        rintro r w1 ⟨rfl, b1⟩
        have B1 := Lib.hid (bthen BX.out b1)
        have K1 := Lib.hid (blk_below KX.out b1)
        have k0 : w1.cell? ⟨w.heap.size, 0, none⟩ = some (.int .i64 e) := by rw [blk_cell K1.out]; rfl
        clear b1
        go_wp2_with fail
        refine (HTX.out _ B1.out).mono ?_
        rintro r w2 ⟨rfl, b2⟩
        have B2 := Lib.hid (bthen B1.out b2)
        have K2 := Lib.hid (blk_below K1.out b2)
        have k2 : w2.cell? ⟨w.heap.size, 0, none⟩ = some (.int .i64 e) := by rw [blk_cell K2.out]; rfl
        clear b2 k0
        go_wp2_with fail
        refine (HS.out w2 (by unfold i64; omega) ht).mono ?_
        rintro r w3 ⟨rfl, b3⟩
        have B3 := Lib.hid (bthen B2.out b3)
        clear b3
        go_wp2_with fail
        go_ret3
        exact ⟨by rw [HV.out.1, HV.out.2.1, HV.out.2.2]; rfl, B3.out⟩
set_option maxHeartbeats 1000000 in
theorem rvtexts_any (e : Int) (a : Option Addr) (n c : Nat) (l : List Int) (t : ByteArray) (b : Option Addr) (m d : Nat) (nx : List Int) (w : World) (he : i64 e) (h : IntsAt w a n l) (ht : t.size ≤ 140737488355328) (hx : IntsAt w b m nx) :
    Calls Try.prog 11 #[.agg #[.int .i64 e, .slice a n c], .string t, .slice b m d] w fun r w' => r = .returned (.tuple #[.string (vS e l t nx), .string (vC e l t nx), .int .i64 (vE e l t nx)]) ∧ Below w.heap.size w w' := by
  have BX := Lib.hid (below_alloc w (.cells #[.int .i64 e, .slice a n c] 24 (0, 0)))
  have KX := Lib.hid (blk_alloc w (.cells #[.int .i64 e, .slice a n c] 24 (0, 0)))
  have CR := Lib.hid (rright_any e a n c l _ (h.below BX.out))
  have HX := Lib.hid hx
  have HV := Lib.hid (show vS e l t nx = (if vGood e l t nx = true then stS e t else ⟨#[]⟩) ∧ vC e l t nx = (if vGood e l t nx = true then textS (e + 1) nx else ⟨#[]⟩) ∧ vE e l t nx = (if vGood e l t nx = true then 0 else 1) from ⟨rfl, rfl, rfl⟩)
  have HS := Lib.hid (fun w => rstate_any (4 * (e + 1)) t w)
  have hSE : rightB e l = true → hdErr [4 * (e + 1)] = 0 := fun hr => slot_ok (rightB_rising hr).1 (rightB_rising hr).2.1
  have hre : rightB e l = true → 0 ≤ e ∧ e ≤ 60 := fun hr => ⟨(rightB_rising hr).1, (rightB_rising hr).2.1⟩
  have HST := Lib.hid (show stS e t = hdText 83 [4 * (e + 1)] t from rfl)
  have hG : vGood e l t nx = (rightB e l && decide (t.size ≠ 0) && rightB (e + 1) nx) := rfl
  have HTX := Lib.hid (fun w' (hb : Below w.heap.size w w') => rtext_any (e + 1) b m d nx w' (HX.out.below hb))
  have hte : textE (e + 1) nx = if rightB (e + 1) nx = true then 0 else 1 := rfl
  generalize vS e l t nx = S at *
  generalize vC e l t nx = C at *
  generalize vE e l t nx = E at *
  generalize vGood e l t nx = G at *
  rw [← HST.out] at HS
  generalize stS e t = ST at *
  generalize textS (e + 1) nx = TS at *
  generalize textE (e + 1) nx = TE at *
  generalize hdErr [4 * (e + 1)] = HE at *
  clear h hx
  cases hr : rightB e l with
  | false =>
    rw [hr] at hG CR
    obtain rfl : G = false := by simpa using hG
    clear hSE hre hte hG
    go_enter Try.func11, Try.ntmps11
    go_wp2_with fail
    refine CR.out.mono ?_
    rintro r w1 ⟨rfl, b1⟩
    have B1 := Lib.hid (bthen BX.out b1)
    clear b1
    go_wp2_with fail
    go_ret3
    exact ⟨by rw [HV.out.1, HV.out.2.1, HV.out.2.2]; rfl, B1.out⟩
  | true =>
    rw [hr] at hG CR
    obtain ⟨he0, he1⟩ := hre hr
    have hw1 : IntKind.i64.wrap (e + 1) = e + 1 := IntWalk.i64_in _ (by omega)
    have hw2 : IntKind.i64.wrap (4 * (e + 1)) = 4 * (e + 1) := by rw [IntWalk.i64_in _ (by omega)]
    obtain rfl : HE = 0 := hSE hr
    by_cases ht0 : t.size = 0
    · obtain rfl : t = ⟨#[]⟩ := size_zero ht0
      obtain rfl : G = false := by rw [hG, decide_eq_false (fun h => h ht0)]; simp
      have hte0 : (⟨#[]⟩ : ByteArray).toList.isEmpty = true := by rw [empty_toList]; rfl
      clear hSE hre hte hG
      go_enter Try.func11, Try.ntmps11
      go_wp2_with fail
      refine CR.out.mono ?_
      rintro r w1 ⟨rfl, b1⟩
      have B1 := Lib.hid (bthen BX.out b1)
      clear b1
      go_wp2_with fail
      go_ret3
      exact ⟨by rw [HV.out.1, HV.out.2.1, HV.out.2.2]; rfl, B1.out⟩
    · have htn : t.toList.isEmpty = false := toList_ne ht0
      rw [decide_eq_true ht0, Bool.true_and, Bool.true_and] at hG
      subst hG
      cases hrn : rightB (e + 1) nx with
      | false =>
        rw [hrn, if_neg (by decide)] at hte
        subst hte
        clear hSE hre
        rw [hrn] at HV
        go_enter Try.func11, Try.ntmps11
        go_wp2_with fail
        refine CR.out.mono ?_
        rintro r w1 ⟨rfl, b1⟩
        have B1 := Lib.hid (bthen BX.out b1)
        have K1 := Lib.hid (blk_below KX.out b1)
        have k0 : w1.cell? ⟨w.heap.size, 0, none⟩ = some (.int .i64 e) := by rw [blk_cell K1.out]; rfl
        clear b1
        go_wp2_with fail
        refine (HTX.out _ B1.out).mono ?_
        rintro r w2 ⟨rfl, b2⟩
        have B2 := Lib.hid (bthen B1.out b2)
        clear b2
        go_wp2_with fail
        go_ret3
        exact ⟨by rw [HV.out.1, HV.out.2.1, HV.out.2.2]; rfl, B2.out⟩
      | true =>
        rw [hrn, if_pos rfl] at hte
        subst hte
        clear hSE hre
        rw [hrn] at HV
        go_enter Try.func11, Try.ntmps11
        go_wp2_with fail
        refine CR.out.mono ?_
        rintro r w1 ⟨rfl, b1⟩
        have B1 := Lib.hid (bthen BX.out b1)
        have K1 := Lib.hid (blk_below KX.out b1)
        have k0 : w1.cell? ⟨w.heap.size, 0, none⟩ = some (.int .i64 e) := by rw [blk_cell K1.out]; rfl
        clear b1
        go_wp2_with fail
        refine (HTX.out _ B1.out).mono ?_
        rintro r w2 ⟨rfl, b2⟩
        have B2 := Lib.hid (bthen B1.out b2)
        have K2 := Lib.hid (blk_below K1.out b2)
        have k2 : w2.cell? ⟨w.heap.size, 0, none⟩ = some (.int .i64 e) := by rw [blk_cell K2.out]; rfl
        clear b2 k0
        go_wp2_with fail
        refine (HS.out w2 (by unfold i64; omega) ht).mono ?_
        rintro r w3 ⟨rfl, b3⟩
        have B3 := Lib.hid (bthen B2.out b3)
        clear b3
        go_wp2_with fail
        go_ret3
        exact ⟨by rw [HV.out.1, HV.out.2.1, HV.out.2.2]; rfl, B3.out⟩
end Go.Proofs.Ytfhbjajhmegdmaa
