
/- Two requests stored in two new boxes; what the laws of deeds share. -/
import Derived.Test.YtnmhmbfhaiaaoaaDw
import Derived.Test.YtnmhmbfhaiaaoaaNews
namespace Go.Proofs.Ytnmhmbfhaiaaoaa
set_option maxRecDepth 100000
open Go.RowKit
set_option linter.unusedVariables false
set_option linter.unusedSimpArgs false

theorem rq_stored {w : World} {p : Nat} (kp : w.heap[p]? = some (.cells #[.int .i64 0, .int .i64 0, .int .i64 0, .string ⟨#[]⟩, .float .f64 0, .int .i64 0] 30 (0, 0))) (r : Rq) :
    ((((((w.setCell ⟨p, 0, none⟩ (.int .i64 r.c)).setCell ⟨p, 1, none⟩ (.int .i64 r.s)).setCell ⟨p, 2, none⟩ (.int .i64 r.kind)).setCell ⟨p, 3, none⟩ (.string r.key)).setCell ⟨p, 4, none⟩ (.float .f64 r.b)).setCell ⟨p, 5, none⟩ (.int .i64 r.id)).heap[p]? = some (.cells #[.int .i64 r.c, .int .i64 r.s, .int .i64 r.kind, .string r.key, .float .f64 r.b, .int .i64 r.id] 30 (0, 0)) :=
  blk_set (blk_set (blk_set (blk_set (blk_set (blk_set kp 0 _) 1 _) 2 _) 3 _) 4 _) 5 _
theorem rq_kept {w : World} {p q : Nat} {o : Obj} (kp : w.heap[q]? = some o) (h : q ≠ p) (r : Rq) :
    ((((((w.setCell ⟨p, 0, none⟩ (.int .i64 r.c)).setCell ⟨p, 1, none⟩ (.int .i64 r.s)).setCell ⟨p, 2, none⟩ (.int .i64 r.kind)).setCell ⟨p, 3, none⟩ (.string r.key)).setCell ⟨p, 4, none⟩ (.float .f64 r.b)).setCell ⟨p, 5, none⟩ (.int .i64 r.id)).heap[q]? = some o :=
  blk_set_other (blk_set_other (blk_set_other (blk_set_other (blk_set_other (blk_set_other kp p 0 _ h) p 1 _ h) p 2 _ h) p 3 _ h) p 4 _ h) p 5 _ h
theorem rq_below {n : Nat} {w1 w : World} {p : Nat} (hb : Below n w1 w) (hp : n ≤ p) (r : Rq) :
    Below n w1 ((((((w.setCell ⟨p, 0, none⟩ (.int .i64 r.c)).setCell ⟨p, 1, none⟩ (.int .i64 r.s)).setCell ⟨p, 2, none⟩ (.int .i64 r.kind)).setCell ⟨p, 3, none⟩ (.string r.key)).setCell ⟨p, 4, none⟩ (.float .f64 r.b)).setCell ⟨p, 5, none⟩ (.int .i64 r.id)) :=
  (((((hb.setCell hp _).setCell hp _).setCell hp _).setCell hp _).setCell hp _).setCell hp _
end Go.Proofs.Ytnmhmbfhaiaaoaa
