
/- What WireBack and WireUnlike share. -/
import Derived.Test.YtijeieamodjgbaaWlw
import Derived.Test.YtijeieamodjgbaaWsa
namespace Go.Proofs.Ytijeieamodjgbaa
set_option maxRecDepth 100000
open Go.RowKit Go.Deep
set_option linter.unusedVariables false
set_option linter.unusedSimpArgs false

theorem canon_twice {m : Mg} (h : mgErr m = 0) (hb : MgB m) (hb' : MgB m.canon) : m.canon.canon = m.canon := by
  have h1 := (back13 h hb).1
  obtain ⟨g1, g2⟩ := again13 h1 (pos13 h hb).2
  have h2 := (back13 g1 hb').1
  rw [g2, h1] at h2
  injection h2 with h2
  exact h2.symm
theorem rd_back {m : Mg} (h : mgErr m = 0) (hb : MgB m) : rdErr13 (mgText m) = 0 ∧ rdMsg13 (mgText m) = m.canon := by
  have h1 := (back13 h hb).1
  have h2 := (pos13 h hb).2
  have hl : ¬ 65536 < (mgText m).size := by omega
  unfold rdErr13 rdMsg13
  rw [if_neg hl, if_neg hl, h1]
  exact ⟨rfl, rfl⟩
theorem rd_again {t : ByteArray} (h : rdErr13 t = 0) : mgErr (rdMsg13 t) = 0 ∧ mgText (rdMsg13 t) = t := by
  unfold rdErr13 at h
  split at h
  · exact absurd h (by decide)
  · rename_i hl
    split at h
    · rename_i hs
      obtain ⟨m, hm⟩ := Option.isSome_iff_exists.1 hs
      unfold rdMsg13
      rw [if_neg hl, hm]
      exact again13 hm (by omega)
    · exact absurd h (by decide)
theorem rd_zero {t : ByteArray} (h : ¬ rdErr13 t = 0) : rdMsg13 t = zeroM := by
  unfold rdErr13 at h
  unfold rdMsg13
  split
  · rfl
  · rename_i hl
    rw [if_neg hl] at h
    split at h
    · exact absurd rfl h
    · rename_i hs
      rw [Option.not_isSome_iff_eq_none.1 hs]
      rfl
def zRow : Array Value := (mgCs zeroM none 0 0 none 0 0 none 0 0 none 0 0).toArray
theorem build_msg (ρ : Operand → Value) (o : Oper) (ho : o.op = .build 34 #[]) (w : World) : (execOp ρ o).run Try.prog w = .ok (.value (.agg zRow)) w := by
  have hbd : (Instr.build 34 #[]).run Try.prog w = Result.ok (.agg zRow) w := by kernel_rfl
  unfold execOp
  simp [ho, hbd]
end Go.Proofs.Ytijeieamodjgbaa
