
/- Which lists are proofs: plain. No program in sight. -/
import Derived.Test.YtijeieamodjgbabCoP
import Derived.Test.YtijeieamodjgbabVw
import Derived.Test.YtijeieamodjgbabCoW

namespace Go.Proofs.Ytijeieamodjgbab
set_option maxRecDepth 100000

/-- Each signs the text, is a member, and stands above the one before. -/
def sigsUp (l : List Int) (text : ByteArray) (last : Int) : List Sg → Bool
  | [] => true
  | s :: r => if s.2 = text ∧ last < s.1 ∧ hasB l s.1 = true then sigsUp l text s.1 r else false
def provesB (e : Int) (l : List Int) (text : ByteArray) (sigs : List Sg) : Bool :=
  rightB e l && decide (sigs.length ≤ 16) && decide (quorumP l.length ≤ sigs.length) && sigsUp l text (-1) sigs
theorem provesB_1 {e : Int} {l : List Int} (h : rightB e l = false) (text : ByteArray) (sigs : List Sg) : provesB e l text sigs = false := by simp [provesB, h]
theorem provesB_2 {e : Int} {l : List Int} {sigs : List Sg} (h : ¬ sigs.length ≤ 16) (text : ByteArray) : provesB e l text sigs = false := by simp [provesB, h]
theorem provesB_3 {e : Int} {l : List Int} {sigs : List Sg} (h : ¬ quorumP l.length ≤ sigs.length) (text : ByteArray) : provesB e l text sigs = false := by simp [provesB, h]
theorem provesB_4 {e : Int} {l : List Int} {sigs : List Sg} (h : rightB e l = true) (h2 : sigs.length ≤ 16) (h3 : quorumP l.length ≤ sigs.length) (text : ByteArray) : provesB e l text sigs = sigsUp l text (-1) sigs := by simp [provesB, h, h2, h3]
end Go.Proofs.Ytijeieamodjgbab

/- Walks of terms.Proves and of the reference's. -/
namespace Go.Proofs.Ytijeieamodjgbab
set_option maxRecDepth 100000
open Go.RowKit
set_option linter.unusedVariables false

set_option maxHeartbeats 2000000 in
theorem proves_any (e : Int) (a : Option Addr) (n c : Nat) (l : List Int) (text : ByteArray) (sa : Option Addr) (sn sc : Nat) (sigs : List Sg) (w : World) (h : IntsAt w a n l) (hs : SlAt shSig w sa sn sc sigs) :
    Calls Try.prog 99 #[.agg #[.int .i64 e, .slice a n c], .string text, .slice sa sn sc] w fun r w' => r = .returned (.bool (provesB e l text sigs)) ∧ Below w.heap.size w w' := by
  have hsl := hs.len
  have hsm : sn ≤ 9223372036854775807 := Nat.le_trans hs.cap hs.max
  have hll := h.len
  have hlm := h.max
  have bx := below_alloc w (.cells #[.int .i64 e, .slice a n c] 24)
  have CR := right_any e a n c l _ (h.alloc (.cells #[.int .i64 e, .slice a n c] 24))
  have HI := Lib.hid (h.alloc (.cells #[.int .i64 e, .slice a n c] 24)); have HS := Lib.hid (hs.old bx)
  have hbox := blk_alloc w (.cells #[.int .i64 e, .slice a n c] 24)
  have HX := Lib.hid hbox
  have BX := Lib.hid bx
  clear h hs bx hbox
  have hq := quorum_any (n : Int)
  cases hr : rightB e l with
  | false =>
    have hP := Lib.hid (provesB_1 hr text sigs)
    rw [hr] at CR
    replace CR := Lib.hid CR
    clear hr hq
    go_enter Try.func99, Try.ntmps99
    go_wp2_with fail
    refine CR.out.mono ?_
    rintro r w1 ⟨rfl, b1⟩
    go_wp2_with fail
    go_ret
    exact ⟨by rw [hP.out]; rfl, bthen BX.out b1⟩
  | true =>
    rw [hr] at CR
    replace CR := Lib.hid CR
    have Hr := Lib.hid hr; clear hr
    by_cases h16 : sn ≤ 16
    · have h16' : decide ((16 : Int) < (sn : Int)) = false := by simp; omega
      have CQ := Lib.hid (fun w => hq w (by omega) (by omega))
      clear hq
      by_cases hqs : quorumP (n : Int) ≤ (sn : Int)
      · have hP := Lib.hid (provesB_4 Hr.out (by omega : sigs.length ≤ 16) (by rw [hll, hsl]; exact hqs) text)
        have hd : decide ((sn : Int) < quorumP (n : Int)) = false := by simp; omega
        generalize quorumP (n : Int) = q at *
        go_enter Try.func99, Try.ntmps99
        go_wp2_with fail
        refine CR.out.mono ?_
        rintro r w1 ⟨rfl, b1⟩
        have HX1 := Lib.hid (blk_below HX.out b1)
        have x0 : w1.cell? ⟨w.heap.size, 0, none⟩ = some (.int .i64 e) := by rw [blk_cell HX1.out]; rfl
        have x1 : w1.cell? ⟨w.heap.size, 1, none⟩ = some (.slice a n c) := by rw [blk_cell HX1.out]; rfl
        have xl := blk_lt HX1.out
        replace HI := Lib.hid (HI.out.below b1); replace HS := Lib.hid (HS.out.old b1)
        have B1 := Lib.hid (bthen BX.out b1)
        clear b1 HX BX CR
        go_wp2_with fail
        refine (CQ.out _).mono ?_
        rintro r w2 ⟨rfl, rfl⟩
        go_wp2_with fail
        have hlen : sigs.length = sn := hsl
        replace hlen := Lib.hid hlen
        clear hd CQ hll hsl hqs h16' x0 x1
        go_loopw [7, 29] (fun last i wr => ∃ k : Nat, ∃ x : Int, k ≤ sn ∧ i = .int .i64 k ∧ last = .int .i64 x ∧ i64 x ∧ Hid (sigsUp l text (-1) sigs = sigsUp l text x (sigs.drop k)) ∧ Hid (Below w1.heap.size w1 wr)) (fun _ i _ => sn - (intOf i).toNat)
        case atStart => exact ⟨0, -1, by omega, rfl, rfl, by simp [i64], Lib.hid rfl, Lib.hid (Below.refl _ _)⟩
        case round =>
          obtain ⟨k, x, hk, rfl, rfl, ⟨hx1, hx2⟩, HU, HB⟩ := hrel
          by_cases hlt : k < sn
          · obtain ⟨b, o, y, t, rfl, hit, c0, c1, ⟨hy1, hy2⟩, ht⟩ := sig_cells (HS.out.old HB.out) hlt
            have hdr : sigs.drop k = (y, t) :: sigs.drop (k + 1) := by
              obtain ⟨hj, he⟩ := List.getElem?_eq_some_iff.1 hit
              rw [List.drop_eq_getElem_cons hj, he]
            rw [hdr, sigsUp] at HU
            have HXr := Lib.hid (blk_below HX1.out HB.out)
            have x0 : wr.cell? ⟨w.heap.size, 0, none⟩ = some (.int .i64 e) := by rw [blk_cell HXr.out]; rfl
            have x1 : wr.cell? ⟨w.heap.size, 1, none⟩ = some (.slice a n c) := by rw [blk_cell HXr.out]; rfl
            have xlr := blk_lt HXr.out
            have CH := Lib.hid (has_any e a n c l y (wr.alloc (.cells #[.int .i64 y, .string t] 108)) ((HI.out.below HB.out).below (below_alloc _ _)))
            have HBA := Lib.hid (bthen HB.out (below_alloc wr (.cells #[.int .i64 y, .string t] 108)))
            have z1 : (wr.alloc (.cells #[.int .i64 y, .string t] 108)).cell? ⟨wr.heap.size, 0, none⟩ = some (.int .i64 y) := by simp
            clear hdr hit
            by_cases h1 : t = text
            · subst h1
              by_cases h2 : x < y
              · have h2' : decide (y ≤ x) = false := by simp; omega
                cases h3 : hasB l y with
                | true =>
                  rw [if_pos ⟨rfl, h2, h3⟩] at HU
                  rw [h3] at CH
                  clear h3
                  go_wp2_with fail
                  refine CH.out.mono ?_
                  rintro r w3 ⟨rfl, b3⟩
                  have z3 := below_cell b3 z1
                  clear z1 c0 c1 x0 x1
                  go_wp2_with fail
                  go_roundw
                  case rel => exact ⟨k + 1, y, by omega, by go_num, rfl, ⟨hy1, hy2⟩, HU, Lib.hid (bthen HBA.out b3)⟩
                  case measure => simp [intOf]; omega
                | false =>
                  rw [if_neg (by rw [h3]; simp)] at HU
                  rw [h3] at CH
                  clear h3
                  go_wp2_with fail
                  refine CH.out.mono ?_
                  rintro r w3 ⟨rfl, b3⟩
                  go_wp2_with fail
                  go_ret
                  exact ⟨by rw [hP.out, HU.out]; rfl, bthen B1.out (bthen HBA.out b3)⟩
              · rw [if_neg (by omega)] at HU
                have h2' : decide (y ≤ x) = true := by simp; omega
                go_wp2_with fail
                go_ret
                exact ⟨by rw [hP.out, HU.out]; rfl, bthen B1.out HBA.out⟩
            · rw [if_neg (fun hc => h1 hc.1)] at HU
              have h1' := str_neq h1
              go_wp2_with fail
              go_ret
              exact ⟨by rw [hP.out, HU.out]; rfl, bthen B1.out HBA.out⟩
          · obtain rfl : k = sn := by omega
            have hdr : sigs.drop k = [] := List.drop_of_length_le (by rw [hlen.out]; exact Nat.le_refl _)
            rw [hdr, sigsUp] at HU
            go_wp2_with fail
            go_ret
            exact ⟨by rw [hP.out, HU.out]; rfl, bthen B1.out HB.out⟩
      · have hP := Lib.hid (provesB_3 (e := e) (l := l) (sigs := sigs) (by rw [hll, hsl]; exact hqs) text)
        have hd : decide ((sn : Int) < quorumP (n : Int)) = true := by simp; omega
        generalize quorumP (n : Int) = q at *
        go_enter Try.func99, Try.ntmps99
        go_wp2_with fail
        refine CR.out.mono ?_
        rintro r w1 ⟨rfl, b1⟩
        have HX1 := Lib.hid (blk_below HX.out b1)
        have x1 : w1.cell? ⟨w.heap.size, 1, none⟩ = some (.slice a n c) := by rw [blk_cell HX1.out]; rfl
        go_wp2_with fail
        refine (CQ.out _).mono ?_
        rintro r w2 ⟨rfl, rfl⟩
        go_wp2_with fail
        go_ret
        exact ⟨by rw [hP.out]; rfl, bthen BX.out b1⟩
    · have hP := Lib.hid (provesB_2 (e := e) (l := l) (sigs := sigs) (by omega) text)
      have h16' : decide ((16 : Int) < (sn : Int)) = true := by simp; omega
      clear hq
      go_enter Try.func99, Try.ntmps99
      go_wp2_with fail
      refine CR.out.mono ?_
      rintro r w1 ⟨rfl, b1⟩
      go_wp2_with fail
      go_ret
      exact ⟨by rw [hP.out]; rfl, bthen BX.out b1⟩
end Go.Proofs.Ytijeieamodjgbab

/- Walk of the reference's Proves. -/
namespace Go.Proofs.Ytijeieamodjgbab
set_option maxRecDepth 100000
open Go.RowKit
attribute [local irreducible] wpQuiet
set_option linter.unusedVariables false

end Go.Proofs.Ytijeieamodjgbab
