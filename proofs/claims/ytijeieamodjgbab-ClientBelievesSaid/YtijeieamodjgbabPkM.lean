
/- What the walks are told of a writer: its struct, its own bytes; what a call on it may change. No program in sight. -/
import Derived.Test.YtijeieamodjgbabOwn
import Derived.Maps.AppendAt
import Derived.Lib.Strings

namespace Go.Proofs.Ytijeieamodjgbab
set_option maxRecDepth 100000
open Go.RowKit
set_option linter.unusedVariables false

def byV (l : List UInt8) : List Value := l.map fun b => .int .u8 b.toNat
theorem byV_len (l : List UInt8) : (byV l).length = l.length := by simp [byV]
theorem byV_append (a b : List UInt8) : byV (a ++ b) = byV a ++ byV b := by simp [byV]
theorem byV_one (l : List UInt8) : ∀ u ∈ byV l, u.oneCell' = true := by
  intro u hu; obtain ⟨_, _, rfl⟩ := List.mem_map.1 hu; rfl

/-- A number's bytes, the greatest first. -/
def beN (n : Nat) : Nat → List UInt8
  | 0 => []
  | k + 1 => beN (n / 256) k ++ [UInt8.ofNat (n % 256)]
theorem beN_len : ∀ (k n : Nat), (beN n k).length = k
  | 0, _ => rfl
  | k + 1, n => by simp [beN, beN_len k]

/-- A writer's state: its bytes, its room, its error. -/
structure W where
  out : List UInt8
  room : Int
  err : Int
def wAdd (s : W) (bs : List UInt8) : W := if s.room < bs.length then ⟨s.out, s.room, 3⟩ else ⟨s.out ++ bs, s.room - bs.length, s.err⟩
def wPut (s : W) (ok : Bool) (bs : List UInt8) : W := if s.err = 0 then (if ok = true then wAdd s bs else ⟨s.out, s.room, 4⟩) else s
def wNew (limit : Int) : W := ⟨[], max limit 0, 0⟩
theorem wPut_err {s : W} (h : ¬ s.err = 0) (ok : Bool) (bs : List UInt8) : wPut s ok bs = s := by rw [wPut, if_neg h]
theorem wPut_bad {s : W} (h : s.err = 0) (bs : List UInt8) : wPut s false bs = ⟨s.out, s.room, 4⟩ := by rw [wPut, if_pos h, if_neg (by simp)]
theorem wPut_ok {s : W} (h : s.err = 0) (bs : List UInt8) : wPut s true bs = wAdd s bs := by rw [wPut, if_pos h, if_pos rfl]
theorem wAdd_full {s : W} {bs : List UInt8} (h : s.room < bs.length) : wAdd s bs = ⟨s.out, s.room, 3⟩ := by rw [wAdd, if_pos h]
theorem wAdd_room {s : W} {bs : List UInt8} (h : ¬ s.room < bs.length) : wAdd s bs = ⟨s.out ++ bs, s.room - bs.length, s.err⟩ := by rw [wAdd, if_neg h]

/-- A writer in memory: its struct at the head of block p (its slice, a number, its error), its bytes in a row of its own (block ob). All from block B on. -/
def WAt (T U : TypeId) (w : World) (B p : Nat) (ob : Option Nat) (out : List UInt8) (x err : Int) : Prop :=
  B ≤ p ∧ ob ≠ some p ∧ ∃ v, w.heap[p]? = some (.cells #[v, .int .i64 x, .int .i64 err] T (0, 0)) ∧ w.ownsRow B U 1 v out.length (byV out) ∧ v.ownBlock = ob

/-- What a call on it may change: block p and block ob. -/
structure Only (p : Nat) (ob : Option Nat) (w w' : World) : Prop where
  os : w'.os = w.os
  tape : w'.tape = w.tape
  output : w'.output = w.output
  size : w.heap.size ≤ w'.heap.size
  block : ∀ k, k < w.heap.size → k ≠ p → ob ≠ some k → w'.heap[k]? = w.heap[k]?

theorem Only.refl (p : Nat) (ob : Option Nat) (w : World) : Only p ob w w := ⟨rfl, rfl, rfl, Nat.le_refl _, fun _ _ _ _ => rfl⟩
theorem Only.trans {p : Nat} {ob ob' : Option Nat} {w w1 w2 : World} (h : Only p ob w w1) (h2 : Only p ob' w1 w2) (ho : ob' = ob ∨ ∃ k, ob' = some k ∧ w.heap.size ≤ k) : Only p ob w w2 :=
  ⟨h2.os.trans h.os, h2.tape.trans h.tape, h2.output.trans h.output, Nat.le_trans h.size h2.size, fun k hk hp hob => by
    rw [h2.block k (Nat.lt_of_lt_of_le hk h.size) hp ?_, h.block k hk hp hob]
    rcases ho with rfl | ⟨k', rfl, hk'⟩
    · exact hob
    · intro he; injection he with he; omega⟩
theorem Only.of_below {p : Nat} {ob : Option Nat} {w w' : World} (h : Below w.heap.size w w') : Only p ob w w' := ⟨h.os, h.tape, h.output, h.size, fun k hk _ _ => h.block k hk⟩
/-- Older memory stays. -/
theorem Only.below {p : Nat} {ob : Option Nat} {w0 w w' : World} (hb : Below w0.heap.size w0 w) (h : Only p ob w w') (hp : w0.heap.size ≤ p) (ho : ∀ k, ob = some k → w0.heap.size ≤ k) : Below w0.heap.size w0 w' :=
  hb.trans ⟨h.os, h.tape, h.output, h.size, fun k hk => h.block k (Nat.lt_of_lt_of_le hk hb.size) (by omega) (fun e => by have := ho k e; omega)⟩
theorem Only.set {p : Nat} {ob : Option Nat} {w w' : World} (h : Only p ob w w') (o : Nat) (v : Value) : Only p ob w (w'.setCell ⟨p, o, none⟩ v) :=
  ⟨h.os, h.tape, h.output, by rw [show (w'.setCell ⟨p, o, none⟩ v).heap.size = w'.heap.size by simp [World.setCell]]; exact h.size, fun k hk hp hob => by
    rw [Below.heap_setCell _ _ _ _ hp]; exact h.block k hk hp hob⟩
theorem Only.alloc {p : Nat} {ob : Option Nat} {w w' : World} (h : Only p ob w w') (o : Obj) : Only p ob w (w'.alloc o) :=
  ⟨h.os, h.tape, h.output, Nat.le_trans h.size (by simp), fun k hk hp hob => by
    rw [Below.heap_alloc _ _ _ (Nat.lt_of_lt_of_le hk h.size)]; exact h.block k hk hp hob⟩
theorem Only.grown {p : Nat} {ob : Option Nat} {w w' w2 : World} (h : Only p ob w w') (hg : w'.grownBy w2 ob) : Only p ob w w2 :=
  ⟨hg.os.trans h.os, hg.tape.trans h.tape, hg.output.trans h.output, Nat.le_trans h.size hg.size, fun k hk hp hob => by
    rw [hg.block k (Nat.lt_of_lt_of_le hk h.size) (Ne.symm hob)]; exact h.block k hk hp hob⟩

theorem WAt.lt {T U : TypeId} {w : World} {B p : Nat} {ob : Option Nat} {out : List UInt8} {x err : Int} (h : WAt T U w B p ob out x err) : p < w.heap.size := by
  obtain ⟨_, _, v, hp, _⟩ := h; exact blk_lt hp
theorem WAt.ob_lt {T U : TypeId} {w : World} {B p : Nat} {ob : Option Nat} {out : List UInt8} {x err : Int} (h : WAt T U w B p ob out x err) : ∀ k, ob = some k → B ≤ k ∧ k < w.heap.size := by
  obtain ⟨_, _, v, _, ho, rfl⟩ := h; exact ho.lt
/-- A writer stays while blocks that are not its own are written. -/
theorem WAt.kept {T U : TypeId} {w w' : World} {B p : Nat} {ob : Option Nat} {out : List UInt8} {x err : Int} (h : WAt T U w B p ob out x err) (hs : w.heap.size ≤ w'.heap.size)
    (hp : w'.heap[p]? = w.heap[p]?) (ho : ∀ k, ob = some k → w'.heap[k]? = w.heap[k]?) : WAt T U w' B p ob out x err := by
  obtain ⟨hB, hne, v, h1, h2, rfl⟩ := h
  refine ⟨hB, hne, v, by rw [hp]; exact h1, ⟨h2.1, ?_⟩, rfl⟩
  rcases h2.2 with h | ⟨g, cap, cur, rfl, hb, hg, r⟩
  · exact .inl h
  · exact .inr ⟨g, cap, cur, rfl, hb, by rw [ho g rfl]; exact hg, r⟩
theorem WAt.below {T U : TypeId} {w w' : World} {B p : Nat} {ob : Option Nat} {out : List UInt8} {x err : Int} (h : WAt T U w B p ob out x err) (hb : Below w.heap.size w w') : WAt T U w' B p ob out x err :=
  h.kept hb.size (hb.block p h.lt) (fun k hk => hb.block k (h.ob_lt k hk).2)
theorem WAt.mono {T U : TypeId} {w : World} {B B' p : Nat} {ob : Option Nat} {out : List UInt8} {x err : Int} (h : WAt T U w B p ob out x err) (hB : B' ≤ B) : WAt T U w B' p ob out x err := by
  obtain ⟨h1, hne, v, h2, h3, h4⟩ := h
  exact ⟨by omega, hne, v, h2, owns_mono h3 hB, h4⟩
/-- Its struct's cells. -/
theorem WAt.cells {T U : TypeId} {w : World} {B p : Nat} {ob : Option Nat} {out : List UInt8} {x err : Int} (h : WAt T U w B p ob out x err) :
    ∃ v, w.cell? ⟨p, 0, none⟩ = some v ∧ w.cell? ⟨p, 1, none⟩ = some (.int .i64 x) ∧ w.cell? ⟨p, 2, none⟩ = some (.int .i64 err) ∧ (∀ o, w.frozen? ⟨p, o, none⟩ = false) ∧ w.ownsRow B U 1 v out.length (byV out) ∧ v.ownBlock = ob := by
  obtain ⟨_, _, v, h1, h2, h3⟩ := h
  exact ⟨v, by rw [blk_cell h1]; rfl, by rw [blk_cell h1]; rfl, by rw [blk_cell h1]; rfl, fun o => blk_frozen h1 o, h2, h3⟩
/-- Another number, another error. -/
theorem WAt.set1 {T U : TypeId} {w : World} {B p : Nat} {ob : Option Nat} {out : List UInt8} {x err : Int} (h : WAt T U w B p ob out x err) (y : Int) : WAt T U (w.setCell ⟨p, 1, none⟩ (.int .i64 y)) B p ob out y err := by
  obtain ⟨hB, hne, v, h1, h2, rfl⟩ := h
  refine ⟨hB, hne, v, by rw [blk_set h1]; rfl, ⟨h2.1, ?_⟩, rfl⟩
  rcases h2.2 with h | ⟨g, cap, cur, rfl, hb, hg, r⟩
  · exact .inl h
  · exact .inr ⟨g, cap, cur, rfl, hb, by rw [blk_set_other hg _ _ _ (fun e => hne (by rw [← e]; rfl))], r⟩
theorem WAt.set2 {T U : TypeId} {w : World} {B p : Nat} {ob : Option Nat} {out : List UInt8} {x err : Int} (h : WAt T U w B p ob out x err) (y : Int) : WAt T U (w.setCell ⟨p, 2, none⟩ (.int .i64 y)) B p ob out x y := by
  obtain ⟨hB, hne, v, h1, h2, rfl⟩ := h
  refine ⟨hB, hne, v, by rw [blk_set h1]; rfl, ⟨h2.1, ?_⟩, rfl⟩
  rcases h2.2 with h | ⟨g, cap, cur, rfl, hb, hg, r⟩
  · exact .inl h
  · exact .inr ⟨g, cap, cur, rfl, hb, by rw [blk_set_other hg _ _ _ (fun e => hne (by rw [← e]; rfl))], r⟩
/-- Behind an append: the row is the new one. -/
theorem WAt.set0 {T U : TypeId} {w w1 : World} {B p : Nat} {ob : Option Nat} {out out' : List UInt8} {x err : Int} {v' : Value} (h : WAt T U w B p ob out x err) (hg : w.grownBy w1 ob)
    (h2 : w1.ownsRow B U 1 v' out'.length (byV out')) (hv : v'.ownBlock = ob ∨ ∃ k, v'.ownBlock = some k ∧ w.heap.size ≤ k) : WAt T U (w1.setCell ⟨p, 0, none⟩ v') B p v'.ownBlock out' x err := by
  have hpl := h.lt
  obtain ⟨hB, hne, v, h1, _, rfl⟩ := h
  have hne' : v'.ownBlock ≠ some p := by
    rcases hv with hv | ⟨k, hv, hk⟩
    · rw [hv]; exact hne
    · rw [hv]; intro e; injection e with e; omega
  have h1' : w1.heap[p]? = some (.cells #[v, .int .i64 x, .int .i64 err] T (0, 0)) := by rw [hg.block p hpl (Ne.symm hne)]; exact h1
  refine ⟨hB, hne', v', by rw [blk_set h1']; rfl, ⟨h2.1, ?_⟩, rfl⟩
  rcases h2.2 with h | ⟨g, cap, cur, rfl, hb, hg', r⟩
  · exact .inl h
  · exact .inr ⟨g, cap, cur, rfl, hb, by rw [blk_set_other hg' _ _ _ (fun e => hne' (by rw [← e]; rfl))], r⟩
/-- 'append(out, xs...)', xs nil too; and where the new row lies. -/
theorem wpList_append_any_at {P : Program} (w : World) {ops : Array Oper} {rest : List Oper} {o : Oper} {a : Act} {Q : Exit → Act → World → Prop} (hgd : o.guard = none) (s x : Operand) (t : TypeId)
    (ho : o.op = .call { callee := .builtin .append, args := #[s, x], argTypes := #[t, t] })
    (base : Nat) (e : TypeId) (i : TypeInfo) (z : Value) (size bytes : Nat) (ht : P.underlying t = some (.slice e)) (hi : P.info? e = some i) (hz : i.zero = some z)
    (hsize : i.size = size) (hby : i.bytes = bytes) (hzs : z.cells.size = size) (hsz : 0 < size)
    (v : Value) (n : Nat) (xs : List Value) (hs : a.eval s = v) (hown : w.ownsRow base e size v n xs)
    (xo : Option Addr) (m c : Nat) (news : List Value) (hx : a.eval x = .slice xo m c) (hl : news.length = m * size) (hxo : xo = none → m = 0 ∧ c = 0) (hnews : ∀ ad, xo = some ad → ∀ j u, news[j]? = some u → w.cell? (ad.add j) = some u) (h1 : ∀ u ∈ news, u.oneCell' = true)
    (h63 : n + m ≤ maxLen) (hbytes : (n + m) * bytes ≤ 140737488355328) (hbase : base ≤ w.heap.size)
    (h : ∀ v' w', w'.ownsRow base e size v' (n + m) (xs ++ news) → w.grownBy w' v.ownBlock → (v'.ownBlock = v.ownBlock ∨ v'.ownBlock = some w.heap.size) → wpList P ops Q rest (a.put o.dst v') w') : wpList P ops Q (o :: rest) a w := by
  cases xo with
  | some ad => exact wpList_append_own_at w hgd s x t ho base e i z size bytes ht hi hz hsize hby hzs hsz v n xs hs hown ad m c news hx hl (hnews ad rfl) h1 h63 hbytes hbase fun v' w' h1 h2 _ h3 => h v' w' h1 h2 h3
  | none =>
    obtain ⟨rfl, rfl⟩ := hxo rfl
    obtain rfl : news = [] := List.eq_nil_of_length_eq_zero (by simpa using hl)
    refine wpList_plain hgd fun K hK' => ?_
    have hrun := run_append_owned_none (P := P) w base t o.type e i size ht hi v n xs hown
    unfold Oper.wp
    simp [execOp, ho, resolve, invoke, builtin, hs, hx, hrun, Result.andThen]
    exact hK' _ _ (h v w (by simpa using hown) (World.grownBy.refl _ _) (.inl rfl))
theorem WAt.made (w : World) (T U : TypeId) (x : Int) : WAt T U (w.alloc (.cells #[.slice none 0 0, .int .i64 x, .int .i64 0] T)) w.heap.size w.heap.size none [] x 0 :=
  ⟨Nat.le_refl _, by simp, _, blk_alloc _ _, World.ownsRow_nil _ _ _ _, rfl⟩
end Go.Proofs.Ytijeieamodjgbab

/- What the walks are told of a reader. No program in sight. -/
namespace Go.Proofs.Ytijeieamodjgbab
set_option maxRecDepth 100000
open Go.RowKit
set_option linter.unusedVariables false

/-- A reader's state: what is left, whether it fell short. -/
structure R where
  rest : List UInt8
  bad : Bool
def valBE : List UInt8 → Nat := fun l => l.foldl (fun n b => n * 256 + b.toNat) 0
def rVal (s : R) (k : Nat) : Nat := if s.bad = true ∨ s.rest.length < k then 0 else valBE (s.rest.take k)
def rNext (s : R) (k : Nat) : R := if s.bad = true ∨ s.rest.length < k then ⟨s.rest, true⟩ else ⟨s.rest.drop k, false⟩
theorem rNext_bad {s : R} {k : Nat} (h : s.bad = true ∨ s.rest.length < k) : rNext s k = ⟨s.rest, true⟩ := by rw [rNext, if_pos h]
theorem rVal_ok {s : R} {k : Nat} (h : ¬ (s.bad = true ∨ s.rest.length < k)) : rVal s k = valBE (s.rest.take k) := by rw [rVal, if_neg h]
theorem rNext_ok {s : R} {k : Nat} (h : ¬ (s.bad = true ∨ s.rest.length < k)) : rNext s k = ⟨s.rest.drop k, false⟩ := by rw [rNext, if_neg h]

theorem valBE_snoc (l : List UInt8) (b : UInt8) : valBE (l ++ [b]) = valBE l * 256 + b.toNat := by simp [valBE]
theorem foldBE_lt : ∀ (l : List UInt8) (a : Nat), l.foldl (fun n b => n * 256 + b.toNat) a < (a + 1) * 256 ^ l.length
  | [], a => by simp
  | b :: r, a => by
    have h := foldBE_lt r (a * 256 + b.toNat)
    have hb := b.toNat_lt
    have h2 : (a * 256 + b.toNat + 1) * 256 ^ r.length ≤ ((a + 1) * 256) * 256 ^ r.length := Nat.mul_le_mul_right _ (by omega)
    rw [List.foldl_cons, List.length_cons, Nat.pow_succ, Nat.mul_comm (256 ^ r.length) 256, ← Nat.mul_assoc]
    omega
theorem valBE_lt (l : List UInt8) : valBE l < 256 ^ l.length := by
  have := foldBE_lt l 0
  simpa [valBE] using this
end Go.Proofs.Ytijeieamodjgbab

/- What a put leaves of a writer's room and errors. -/
namespace Go.Proofs.Ytijeieamodjgbab
set_option maxRecDepth 100000

theorem wPut_room {s : W} {ok : Bool} {bs : List UInt8} {T : Nat} (h0 : 0 ≤ s.room) (h1 : (s.out.length : Int) + s.room ≤ T) : 0 ≤ (wPut s ok bs).room ∧ ((wPut s ok bs).out.length : Int) + (wPut s ok bs).room ≤ T := by
  unfold wPut
  split
  · split
    · unfold wAdd
      split
      · exact ⟨h0, h1⟩
      · refine ⟨by show 0 ≤ s.room - _; omega, ?_⟩
        show ((s.out ++ bs).length : Int) + (s.room - _) ≤ T
        rw [List.length_append]; omega
    · exact ⟨h0, h1⟩
  · exact ⟨h0, h1⟩
theorem wPut_errs {s : W} {ok : Bool} {bs : List UInt8} (h : 0 ≤ s.err ∧ s.err ≤ 9) : 0 ≤ (wPut s ok bs).err ∧ (wPut s ok bs).err ≤ 9 := by
  unfold wPut
  split
  · split
    · unfold wAdd
      split
      · exact ⟨by show (0 : Int) ≤ 3; omega, by show (3 : Int) ≤ 9; omega⟩
      · exact h
    · exact ⟨by show (0 : Int) ≤ 4; omega, by show (4 : Int) ≤ 9; omega⟩
  · exact h
end Go.Proofs.Ytijeieamodjgbab
