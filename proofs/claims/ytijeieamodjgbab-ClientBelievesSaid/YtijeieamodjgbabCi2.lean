
/- The client: Epoch, Chain. -/
import Derived.Test.YtijeieamodjgbabCi

namespace Go.Proofs.Ytijeieamodjgbab
set_option maxRecDepth 100000
open Go.RowKit Go.Maps
set_option linter.unusedVariables false
set_option linter.unusedSimpArgs false

set_option maxHeartbeats 1000000 in
theorem chain19_any {Z : Nat → Prop} {B p : Nat} {s : Cst} (w : World) (h : Cli Z w B p s) :
    Calls Try.prog 13 #[.pointer (some ⟨p, 0, none⟩)] w (ChainPost (chainL (s.c0 :: s.cs) s.ss) w) := by
  obtain ⟨X, t, oc, os, om, oa, ob, h, hz⟩ := h.ex
  obtain ⟨va, vb, hp, -⟩ := h.ex
  have p1 : w.cell? ⟨p, 1, none⟩ = some (.pointer (some ⟨t, 0, none⟩)) := by rw [blk_cell hp]; rfl
  have CE := Lib.hid (chain_any X B t oc os (s.c0 :: s.cs) s.ss w h.trk (by have := h.len; simp; omega) (by have := h.l64; omega))
  clear h hp hz
  go_enter Try.func13, Try.ntmps13
  go_wp2_with fail
  refine CE.out.mono ?_
  rintro r w1 ⟨hb, a, c, xs, rfl, h1, h2⟩
  go_wp2_with fail
  go_ret
  exact ⟨hb, a, c, xs, rfl, h1, h2⟩
end Go.Proofs.Ytijeieamodjgbab
