
/- Walks of lineage.Valid and of the reference's. -/
import Derived.Test.YtijeieamodjgbabPvP
import Derived.Test.YtijeieamodjgbabTxP

namespace Go.Proofs.Ytijeieamodjgbab
set_option maxRecDepth 100000
open Go.RowKit
set_option linter.unusedVariables false

/-- Which link is good behind which configuration. -/
def validC (e0 : Int) (l0 : List Int) (e1 : Int) (l1 : List Int) (sigs : List Sg) : Int :=
  if rightB e0 l0 = true ∧ rightB e1 l1 = true then (if e1 = e0 + 1 then (if provesB e0 l0 (textS e1 l1) sigs = true then 0 else 15) else 12) else 1
theorem textE_yes {e : Int} {l : List Int} (h : rightB e l = true) : textE e l = 0 := by rw [textE, if_pos h]
theorem textE_no {e : Int} {l : List Int} (h : rightB e l = false) : textE e l = 1 := by rw [textE, if_neg (by simp [h])]
theorem validC_old {e0 : Int} {l0 : List Int} (h : rightB e0 l0 = false) (e1 : Int) (l1 : List Int) (sigs : List Sg) : validC e0 l0 e1 l1 sigs = 1 := by rw [validC, if_neg (by simp [h])]
theorem validC_new {e1 : Int} {l1 : List Int} (h : rightB e1 l1 = false) (e0 : Int) (l0 : List Int) (sigs : List Sg) : validC e0 l0 e1 l1 sigs = 1 := by rw [validC, if_neg (by simp [h])]
theorem validC_epoch {e0 e1 : Int} {l0 l1 : List Int} (h0 : rightB e0 l0 = true) (h1 : rightB e1 l1 = true) (h : ¬ e1 = e0 + 1) (sigs : List Sg) : validC e0 l0 e1 l1 sigs = 12 := by rw [validC, if_pos ⟨h0, h1⟩, if_neg h]
theorem validC_end {e0 e1 : Int} {l0 l1 : List Int} (h0 : rightB e0 l0 = true) (h1 : rightB e1 l1 = true) (h : e1 = e0 + 1) (sigs : List Sg) : validC e0 l0 e1 l1 sigs = if provesB e0 l0 (textS e1 l1) sigs = true then 0 else 15 := by rw [validC, if_pos ⟨h0, h1⟩, if_pos h]

/-- Two configurations' boxes: what is known of them. -/
structure VBox (w0 : World) (e0 : Int) (a0 : Option Addr) (n0 c0 : Nat) (l0 : List Int) (e1 : Int) (a1 : Option Addr) (n1 c1 : Nat) (l1 : List Int) (sa : Option Addr) (sn sc : Nat) (sigs : List Sg) (w : World) : Prop where
  below : Below w0.heap.size w0 w
  b0 : w.heap[w0.heap.size]? = some (.cells #[.int .i64 e0, .slice a0 n0 c0] 24 (0, 0))
  b1 : w.heap[w0.heap.size + 1]? = some (.cells #[.int .i64 e1, .slice a1 n1 c1, .slice sa sn sc] 61 (0, 0))
  i0 : IntsAt w a0 n0 l0
  i1 : IntsAt w a1 n1 l1
  s : SlAt shSig w sa sn sc sigs
section
variable {w0 w w' : World} {e0 e1 : Int} {a0 a1 sa : Option Addr} {n0 c0 n1 c1 sn sc : Nat} {l0 l1 : List Int} {sigs : List Sg}
theorem VBox.old (h : VBox w0 e0 a0 n0 c0 l0 e1 a1 n1 c1 l1 sa sn sc sigs w) (hb : Below w.heap.size w w') : VBox w0 e0 a0 n0 c0 l0 e1 a1 n1 c1 l1 sa sn sc sigs w' :=
  ⟨bthen h.below hb, blk_below h.b0 hb, blk_below h.b1 hb, h.i0.below hb, h.i1.below hb, h.s.old hb⟩
theorem VBox.cells (h : VBox w0 e0 a0 n0 c0 l0 e1 a1 n1 c1 l1 sa sn sc sigs w) : w.cell? ⟨w0.heap.size, 0, none⟩ = some (.int .i64 e0) ∧ w.cell? ⟨w0.heap.size, 1, none⟩ = some (.slice a0 n0 c0) ∧
    w.cell? ⟨w0.heap.size + 1, 0, none⟩ = some (.int .i64 e1) ∧ w.cell? ⟨w0.heap.size + 1, 1, none⟩ = some (.slice a1 n1 c1) ∧ w.cell? ⟨w0.heap.size + 1, 2, none⟩ = some (.slice sa sn sc) :=
  ⟨by rw [blk_cell h.b0]; rfl, by rw [blk_cell h.b0]; rfl, by rw [blk_cell h.b1]; rfl, by rw [blk_cell h.b1]; rfl, by rw [blk_cell h.b1]; rfl⟩
theorem VBox.start (h0 : IntsAt w0 a0 n0 l0) (h1 : IntsAt w0 a1 n1 l1) (hs : SlAt shSig w0 sa sn sc sigs) :
    VBox w0 e0 a0 n0 c0 l0 e1 a1 n1 c1 l1 sa sn sc sigs ((w0.alloc (.cells #[.int .i64 e0, .slice a0 n0 c0] 24)).alloc (.cells #[.int .i64 e1, .slice a1 n1 c1, .slice sa sn sc] 61)) := by
  have b1 := below_alloc w0 (.cells #[.int .i64 e0, .slice a0 n0 c0] 24)
  have b2 := below_alloc (w0.alloc (.cells #[.int .i64 e0, .slice a0 n0 c0] 24)) (.cells #[.int .i64 e1, .slice a1 n1 c1, .slice sa sn sc] 61)
  have b := bthen b1 b2
  refine ⟨b, blk_below (blk_alloc _ _) b2, ?_, h0.below b, h1.below b, hs.old b⟩
  have := blk_alloc (w0.alloc (.cells #[.int .i64 e0, .slice a0 n0 c0] 24)) (.cells #[.int .i64 e1, .slice a1 n1 c1, .slice sa sn sc] 61)
  rw [World.size_alloc] at this
  exact this
end

set_option maxHeartbeats 2000000 in
theorem valid_any (e0 : Int) (a0 : Option Addr) (n0 c0 : Nat) (l0 : List Int) (e1 : Int) (a1 : Option Addr) (n1 c1 : Nat) (l1 : List Int) (sa : Option Addr) (sn sc : Nat) (sigs : List Sg) (w : World)
    (h0 : IntsAt w a0 n0 l0) (h1 : IntsAt w a1 n1 l1) (hs : SlAt shSig w sa sn sc sigs) :
    Calls Try.prog 91 #[.agg #[.int .i64 e0, .slice a0 n0 c0], .agg #[.int .i64 e1, .slice a1 n1 c1, .slice sa sn sc]] w fun r w' => r = .returned (.int .i64 (validC e0 l0 e1 l1 sigs)) ∧ Below w.heap.size w w' := by
  have H := Lib.hid (VBox.start (e0 := e0) (e1 := e1) (c0 := c0) (c1 := c1) h0 h1 hs)
  clear h0 h1 hs
  have CT := fun (w' : World) (h : VBox w e0 a0 n0 c0 l0 e1 a1 n1 c1 l1 sa sn sc sigs w') => text_any e1 a1 n1 c1 l1 w' h.i1
  have CR := fun (w' : World) (h : VBox w e0 a0 n0 c0 l0 e1 a1 n1 c1 l1 sa sn sc sigs w') => right_any e0 a0 n0 c0 l0 w' h.i0
  have CP := fun (w' : World) (h : VBox w e0 a0 n0 c0 l0 e1 a1 n1 c1 l1 sa sn sc sigs w') => proves_any e0 a0 n0 c0 l0 (textS e1 l1) sa sn sc sigs w' h.i0 h.s
  cases hr0 : rightB e0 l0 with
  | false =>
    have HV := Lib.hid (validC_old hr0 e1 l1 sigs)
    rw [hr0] at CR
    replace CT := Lib.hid CT; replace CR := Lib.hid CR
    clear hr0 CP
    generalize textS e1 l1 = T at *
    generalize textE e1 l1 = E at *
    go_enter Try.func91, Try.ntmps91
    go_wp2_with fail
    refine (CT.out _ H.out).mono ?_
    rintro r w1 ⟨rfl, b1⟩
    replace H := Lib.hid (H.out.old b1)
    obtain ⟨x0, x1, y0, y1, y2⟩ := H.out.cells
    go_wp2_with fail
    refine (CR.out _ H.out).mono ?_
    rintro r w2 ⟨rfl, b2⟩
    replace H := Lib.hid (H.out.old b2)
    go_wp2_with fail
    go_ret
    exact ⟨by rw [HV.out]; rfl, H.out.below⟩
  | true =>
    rw [hr0] at CR
    cases hr1 : rightB e1 l1 with
    | false =>
      have HV := Lib.hid (validC_new hr1 e0 l0 sigs)
      have ht := textE_no hr1
      rw [ht] at CT
      replace CT := Lib.hid CT; replace CR := Lib.hid CR
      clear hr0 hr1 CP ht
      generalize textS e1 l1 = T at *
      go_enter Try.func91, Try.ntmps91
      go_wp2_with fail
      refine (CT.out _ H.out).mono ?_
      rintro r w1 ⟨rfl, b1⟩
      replace H := Lib.hid (H.out.old b1)
      obtain ⟨x0, x1, y0, y1, y2⟩ := H.out.cells
      go_wp2_with fail
      refine (CR.out _ H.out).mono ?_
      rintro r w2 ⟨rfl, b2⟩
      replace H := Lib.hid (H.out.old b2)
      go_wp2_with fail
      go_ret
      exact ⟨by rw [HV.out]; rfl, H.out.below⟩
    | true =>
      have ht := textE_yes hr1
      rw [ht] at CT
      obtain ⟨z0, z1, _⟩ := rightB_rising hr0
      obtain ⟨u0, u1, _⟩ := rightB_rising hr1
      by_cases hee : e1 = e0 + 1
      · have HV := validC_end hr0 hr1 hee sigs
        subst hee
        have hd : ((e0 + 1 - 1 : Int) != e0) = false := by simp
        have hd2 : ((e0 : Int) != e0) = false := by simp
        replace CT := Lib.hid CT; replace CR := Lib.hid CR
        cases hp : provesB e0 l0 (textS (e0 + 1) l1) sigs with
        | true =>
          rw [hp] at CP HV
          rw [if_pos rfl] at HV
          replace CP := Lib.hid CP; replace HV := Lib.hid HV
          clear hr0 hr1 ht hp
          generalize textS (e0 + 1) l1 = T at *
          go_enter Try.func91, Try.ntmps91
          go_wp2_with fail
          refine (CT.out _ H.out).mono ?_
          rintro r w1 ⟨rfl, b1⟩
          replace H := Lib.hid (H.out.old b1)
          obtain ⟨x0, x1, y0, y1, y2⟩ := H.out.cells
          clear b1
          go_wp2_with fail
          refine (CR.out _ H.out).mono ?_
          rintro r w2 ⟨rfl, b2⟩
          replace H := Lib.hid (H.out.old b2)
          clear x0 x1 y0 y1 y2 b2
          obtain ⟨x0, x1, y0, y1, y2⟩ := H.out.cells
          go_wp2_with fail
          refine (CP.out _ H.out).mono ?_
          rintro r w3 ⟨rfl, b3⟩
          replace H := Lib.hid (H.out.old b3)
          go_wp2_with fail
          go_ret
          exact ⟨by rw [HV.out]; rfl, H.out.below⟩
        | false =>
          rw [hp] at CP HV
          rw [if_neg (by simp)] at HV
          replace CP := Lib.hid CP; replace HV := Lib.hid HV
          clear hr0 hr1 ht hp
          generalize textS (e0 + 1) l1 = T at *
          go_enter Try.func91, Try.ntmps91
          go_wp2_with fail
          refine (CT.out _ H.out).mono ?_
          rintro r w1 ⟨rfl, b1⟩
          replace H := Lib.hid (H.out.old b1)
          obtain ⟨x0, x1, y0, y1, y2⟩ := H.out.cells
          clear b1
          go_wp2_with fail
          refine (CR.out _ H.out).mono ?_
          rintro r w2 ⟨rfl, b2⟩
          replace H := Lib.hid (H.out.old b2)
          clear x0 x1 y0 y1 y2 b2
          obtain ⟨x0, x1, y0, y1, y2⟩ := H.out.cells
          go_wp2_with fail
          refine (CP.out _ H.out).mono ?_
          rintro r w3 ⟨rfl, b3⟩
          replace H := Lib.hid (H.out.old b3)
          go_wp2_with fail
          go_ret
          exact ⟨by rw [HV.out]; rfl, H.out.below⟩
      · have HV := Lib.hid (validC_epoch hr0 hr1 hee sigs)
        have hd : ((e1 - 1 : Int) != e0) = true := by simp; omega
        have hd2 : (e1 != e0 + 1) = true := by simpa using hee
        replace CT := Lib.hid CT; replace CR := Lib.hid CR
        clear hr0 hr1 CP ht
        generalize textS e1 l1 = T at *
        go_enter Try.func91, Try.ntmps91
        go_wp2_with fail
        refine (CT.out _ H.out).mono ?_
        rintro r w1 ⟨rfl, b1⟩
        replace H := Lib.hid (H.out.old b1)
        obtain ⟨x0, x1, y0, y1, y2⟩ := H.out.cells
        clear b1
        go_wp2_with fail
        refine (CR.out _ H.out).mono ?_
        rintro r w2 ⟨rfl, b2⟩
        replace H := Lib.hid (H.out.old b2)
        clear x0 x1 y0 y1 y2 b2
        obtain ⟨x0, x1, y0, y1, y2⟩ := H.out.cells
        go_wp2_with fail
        go_ret
        exact ⟨by rw [HV.out]; rfl, H.out.below⟩
end Go.Proofs.Ytijeieamodjgbab

/- Walk of the reference's Valid. -/
namespace Go.Proofs.Ytijeieamodjgbab
set_option maxRecDepth 100000
open Go.RowKit
set_option linter.unusedVariables false

end Go.Proofs.Ytijeieamodjgbab
