
/- Walk of the reference's Valid. -/
import Derived.Test.YtdeomokhjmnfhaaLgV
namespace Go.Proofs.Ytdeomokhjmnfhaa
open Go.RowKit
set_option linter.unusedVariables false

set_option maxHeartbeats 2000000 in
theorem rvalid_any (e0 : Int) (a0 : Option Addr) (n0 c0 : Nat) (l0 : List Int) (e1 : Int) (a1 : Option Addr) (n1 c1 : Nat) (l1 : List Int) (sa : Option Addr) (sn sc : Nat) (sigs : List Sg) (w : World)
    (h0 : IntsAt w a0 n0 l0) (h1 : IntsAt w a1 n1 l1) (hs : SlAt shSig w sa sn sc sigs) :
    Calls Try.prog 11 #[.agg #[.int .i64 e0, .slice a0 n0 c0], .agg #[.int .i64 e1, .slice a1 n1 c1, .slice sa sn sc]] w fun r w' => r = .returned (.int .i64 (validC e0 l0 e1 l1 sigs)) ∧ Below w.heap.size w w' := by
  have H := Lib.hid (VBox.start (e0 := e0) (e1 := e1) (c0 := c0) (c1 := c1) h0 h1 hs)
  clear h0 h1 hs
  have CR0 := fun (w' : World) (h : VBox w e0 a0 n0 c0 l0 e1 a1 n1 c1 l1 sa sn sc sigs w') => rright_any e0 a0 n0 c0 l0 w' h.i0
  have CR1 := fun (w' : World) (h : VBox w e0 a0 n0 c0 l0 e1 a1 n1 c1 l1 sa sn sc sigs w') => rright_any e1 a1 n1 c1 l1 w' h.i1
  have CT := fun (w' : World) (h : VBox w e0 a0 n0 c0 l0 e1 a1 n1 c1 l1 sa sn sc sigs w') => rtext_any e1 a1 n1 c1 l1 w' h.i1
  have CP := fun (w' : World) (h : VBox w e0 a0 n0 c0 l0 e1 a1 n1 c1 l1 sa sn sc sigs w') => rproves_any e0 a0 n0 c0 l0 (textS e1 l1) sa sn sc sigs w' h.i0 h.s
  obtain ⟨x0, x1, y0, y1, y2⟩ := H.out.cells
  cases hr0 : rightB e0 l0 with
  | false =>
    have HV := Lib.hid (validC_old hr0 e1 l1 sigs)
    rw [hr0] at CR0
    replace CR0 := Lib.hid CR0
    clear hr0 CP CT CR1
    go_enter Try.func11, Try.ntmps11
    go_wp2_with fail
    refine (CR0.out _ H.out).mono ?_
    rintro r w1 ⟨rfl, b1⟩
    replace H := Lib.hid (H.out.old b1)
    clear x0 x1 y0 y1 y2 b1
    obtain ⟨x0, x1, y0, y1, y2⟩ := H.out.cells
    go_wp2_with fail
    go_ret
    exact ⟨by rw [HV.out]; rfl, H.out.below⟩
  | true =>
    rw [hr0] at CR0
    replace CR0 := Lib.hid CR0
    cases hr1 : rightB e1 l1 with
    | false =>
      have HV := Lib.hid (validC_new hr1 e0 l0 sigs)
      rw [hr1] at CR1
      replace CR1 := Lib.hid CR1
      clear hr0 hr1 CP CT
      go_enter Try.func11, Try.ntmps11
      go_wp2_with fail
      refine (CR0.out _ H.out).mono ?_
      rintro r w1 ⟨rfl, b1⟩
      replace H := Lib.hid (H.out.old b1)
      clear x0 x1 y0 y1 y2 b1
      obtain ⟨x0, x1, y0, y1, y2⟩ := H.out.cells
      go_wp2_with fail
      refine (CR1.out _ H.out).mono ?_
      rintro r w2 ⟨rfl, b2⟩
      replace H := Lib.hid (H.out.old b2)
      clear x0 x1 y0 y1 y2 b2
      obtain ⟨x0, x1, y0, y1, y2⟩ := H.out.cells
      go_wp2_with fail
      go_ret
      exact ⟨by rw [HV.out]; rfl, H.out.below⟩
    | true =>
      rw [hr1] at CR1
      replace CR1 := Lib.hid CR1
      have ht := textE_yes hr1
      rw [ht] at CT
      replace CT := Lib.hid CT
      obtain ⟨z0, z1, _⟩ := rightB_rising hr0
      obtain ⟨u0, u1, _⟩ := rightB_rising hr1
      by_cases hee : e1 = e0 + 1
      · have HV := validC_end hr0 hr1 hee sigs
        subst hee
        have hd : ((e0 + 1 : Int) != e0 + 1) = false := by simp
        cases hp : provesB e0 l0 (textS (e0 + 1) l1) sigs with
        | true =>
          rw [hp] at CP HV
          rw [if_pos rfl] at HV
          replace CP := Lib.hid CP; replace HV := Lib.hid HV
          clear hr0 hr1 ht hp
          generalize textS (e0 + 1) l1 = T at *
          go_enter Try.func11, Try.ntmps11
          go_wp2_with fail
          refine (CR0.out _ H.out).mono ?_
          rintro r w1 ⟨rfl, b1⟩
          replace H := Lib.hid (H.out.old b1)
          clear x0 x1 y0 y1 y2 b1
          obtain ⟨x0, x1, y0, y1, y2⟩ := H.out.cells
          go_wp2_with fail
          refine (CR1.out _ H.out).mono ?_
          rintro r w2 ⟨rfl, b2⟩
          replace H := Lib.hid (H.out.old b2)
          clear x0 x1 y0 y1 y2 b2
          obtain ⟨x0, x1, y0, y1, y2⟩ := H.out.cells
          go_wp2_with fail
          refine (CT.out _ H.out).mono ?_
          rintro r w3 ⟨rfl, b3⟩
          replace H := Lib.hid (H.out.old b3)
          clear x0 x1 y0 y1 y2 b3
          obtain ⟨x0, x1, y0, y1, y2⟩ := H.out.cells
          go_wp2_with fail
          refine (CP.out _ H.out).mono ?_
          rintro r w4 ⟨rfl, b4⟩
          replace H := Lib.hid (H.out.old b4)
          clear x0 x1 y0 y1 y2 b4
          obtain ⟨x0, x1, y0, y1, y2⟩ := H.out.cells
          go_wp2_with fail
          go_ret
          exact ⟨by rw [HV.out]; rfl, H.out.below⟩
        | false =>
          rw [hp] at CP HV
          rw [if_neg (by simp)] at HV
          replace CP := Lib.hid CP; replace HV := Lib.hid HV
          clear hr0 hr1 ht hp
          generalize textS (e0 + 1) l1 = T at *
          go_enter Try.func11, Try.ntmps11
          go_wp2_with fail
          refine (CR0.out _ H.out).mono ?_
          rintro r w1 ⟨rfl, b1⟩
          replace H := Lib.hid (H.out.old b1)
          clear x0 x1 y0 y1 y2 b1
          obtain ⟨x0, x1, y0, y1, y2⟩ := H.out.cells
          go_wp2_with fail
          refine (CR1.out _ H.out).mono ?_
          rintro r w2 ⟨rfl, b2⟩
          replace H := Lib.hid (H.out.old b2)
          clear x0 x1 y0 y1 y2 b2
          obtain ⟨x0, x1, y0, y1, y2⟩ := H.out.cells
          go_wp2_with fail
          refine (CT.out _ H.out).mono ?_
          rintro r w3 ⟨rfl, b3⟩
          replace H := Lib.hid (H.out.old b3)
          clear x0 x1 y0 y1 y2 b3
          obtain ⟨x0, x1, y0, y1, y2⟩ := H.out.cells
          go_wp2_with fail
          refine (CP.out _ H.out).mono ?_
          rintro r w4 ⟨rfl, b4⟩
          replace H := Lib.hid (H.out.old b4)
          clear x0 x1 y0 y1 y2 b4
          obtain ⟨x0, x1, y0, y1, y2⟩ := H.out.cells
          go_wp2_with fail
          go_ret
          exact ⟨by rw [HV.out]; rfl, H.out.below⟩
      · have HV := Lib.hid (validC_epoch hr0 hr1 hee sigs)
        have hd2 : (e1 != e0 + 1) = true := by simpa using hee
        clear hr0 hr1 CP ht CT
        go_enter Try.func11, Try.ntmps11
        go_wp2_with fail
        refine (CR0.out _ H.out).mono ?_
        rintro r w1 ⟨rfl, b1⟩
        replace H := Lib.hid (H.out.old b1)
        clear x0 x1 y0 y1 y2 b1
        obtain ⟨x0, x1, y0, y1, y2⟩ := H.out.cells
        go_wp2_with fail
        refine (CR1.out _ H.out).mono ?_
        rintro r w2 ⟨rfl, b2⟩
        replace H := Lib.hid (H.out.old b2)
        clear x0 x1 y0 y1 y2 b2
        obtain ⟨x0, x1, y0, y1, y2⟩ := H.out.cells
        go_wp2_with fail
        go_ret
        exact ⟨by rw [HV.out]; rfl, H.out.below⟩
end Go.Proofs.Ytdeomokhjmnfhaa
