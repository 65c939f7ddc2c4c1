
/- Texts behind a sign and numbers: plain, and walks of both layers' State. -/
import Derived.Test.YtijeieamodjgbaaPkW
import Derived.Test.YtijeieamodjgbaaPkM
import Derived.Test.YtijeieamodjgbaaQuiet
import Derived.Laws.Concat
namespace Go.Proofs.Ytijeieamodjgbaa
set_option maxRecDepth 100000
open Go.RowKit
set_option linter.unusedVariables false
set_option linter.unusedSimpArgs false

/-- A writer that is small. -/
structure Small (s : W) : Prop where
  room : 0 ≤ s.room
  size : (s.out.length : Int) + s.room ≤ 1000
  err : 0 ≤ s.err ∧ s.err ≤ 9
theorem Small.put {s : W} (h : Small s) (ok : Bool) (bs : List UInt8) : Small (wPut s ok bs) :=
  ⟨(wPut_room (ok := ok) (bs := bs) (T := 1000) h.room h.size).1, (wPut_room (ok := ok) (bs := bs) (T := 1000) h.room h.size).2, wPut_errs h.err⟩
theorem small_new (n : Int) (h : 0 ≤ n ∧ n ≤ 1000) : Small (wNew n) := ⟨by show 0 ≤ max n 0; omega, by show ((0 : Nat) : Int) + max n 0 ≤ 1000; omega, by show (0 : Int) ≤ 0 ∧ (0 : Int) ≤ 9; omega⟩
theorem wbyte_gen (w0 : World) (p : Nat) (ob : Option Nat) (s : W) (n : Int) (w : World) (h : PWr w w0.heap.size p ob s) (hb : Below w0.heap.size w0 w) (hs : Small s) (hn : i64 n) :
    Calls Try.prog 46 #[.pointer (some ⟨p, 0, none⟩), .int .i64 n] w fun e w' => e = .returned (.tuple #[]) ∧ (∃ ob', PWr w' w0.heap.size p ob' (wPut s (decide (0 ≤ n ∧ n ≤ 255)) (beN n.toNat 1))) ∧ Below w0.heap.size w0 w' := by
  have := hs.room; have := hs.size; have := hs.err
  refine (wbyte_any w0.heap.size p ob s n w h hb.size ⟨⟨by omega, by omega⟩, by omega, by omega⟩ (fits_of (by omega)) hn).mono ?_
  rintro e w' ⟨rfl, ob', _, h2, h3⟩
  exact ⟨rfl, ⟨ob', h2⟩, h3.below hb h.1 (fun k hk => (WAt.ob_lt h k hk).1)⟩
theorem wlong_gen (w0 : World) (p : Nat) (ob : Option Nat) (s : W) (n : Int) (w : World) (h : PWr w w0.heap.size p ob s) (hb : Below w0.heap.size w0 w) (hs : Small s) (hn : i64 n) :
    Calls Try.prog 149 #[.pointer (some ⟨p, 0, none⟩), .int .i64 n] w fun e w' => e = .returned (.tuple #[]) ∧ (∃ ob', PWr w' w0.heap.size p ob' (wPut s (decide (0 ≤ n ∧ n ≤ 4294967295)) (beN n.toNat 4))) ∧ Below w0.heap.size w0 w' := by
  have := hs.room; have := hs.size; have := hs.err
  refine (wlong_any w0.heap.size p ob s n w h hb.size ⟨⟨by omega, by omega⟩, by omega, by omega⟩ (fits_of (by omega)) hn).mono ?_
  rintro e w' ⟨rfl, ob', _, h2, h3⟩
  exact ⟨rfl, ⟨ob', h2⟩, h3.below hb h.1 (fun k hk => (WAt.ob_lt h k hk).1)⟩
theorem rlong_gen (w0 : World) (p : Nat) (ob : Option Nat) (s : W) (n : Int) (w : World) (h : RWr w w0.heap.size p ob s) (hb : Below w0.heap.size w0 w) (hs : Small s) (hn : i64 n) :
    Calls Try.prog 56 #[.pointer (some ⟨p, 0, none⟩), .int .i64 n, .int .i64 4] w fun e w' => e = .returned (.tuple #[]) ∧ (∃ ob', RWr w' w0.heap.size p ob' (wPut s (decide (0 ≤ n ∧ n ≤ 4294967295)) (beN n.toNat 4))) ∧ Below w0.heap.size w0 w' := by
  have := hs.room; have := hs.size; have := hs.err
  refine (rnum_any w0.heap.size p ob s n 4 w h hb.size (by omega) hn ⟨by omega, by omega⟩ (by omega)).mono ?_
  rintro e w' ⟨rfl, ob', _, h2, h3⟩
  rw [show decide (0 ≤ n ∧ n < ((256 ^ 4 : Nat) : Int)) = decide (0 ≤ n ∧ n ≤ 4294967295) from decide_eq_decide.2 (by omega)] at h2
  exact ⟨rfl, ⟨ob', h2⟩, h3.below hb h.1 (fun k hk => (WAt.ob_lt h k hk).1)⟩

theorem rbyte_gen (w0 : World) (p : Nat) (ob : Option Nat) (s : W) (n : Int) (w : World) (h : RWr w w0.heap.size p ob s) (hb : Below w0.heap.size w0 w) (hs : Small s) (hn : i64 n) :
    Calls Try.prog 56 #[.pointer (some ⟨p, 0, none⟩), .int .i64 n, .int .i64 1] w fun e w' => e = .returned (.tuple #[]) ∧ (∃ ob', RWr w' w0.heap.size p ob' (wPut s (decide (0 ≤ n ∧ n ≤ 255)) (beN n.toNat 1))) ∧ Below w0.heap.size w0 w' := by
  have := hs.room; have := hs.size; have := hs.err
  refine (rnum_any w0.heap.size p ob s n 1 w h hb.size (by omega) hn ⟨by omega, by omega⟩ (by omega)).mono ?_
  rintro e w' ⟨rfl, ob', _, h2, h3⟩
  rw [show decide (0 ≤ n ∧ n < ((256 ^ 1 : Nat) : Int)) = decide (0 ≤ n ∧ n ≤ 255) from decide_eq_decide.2 (by omega)] at h2
  exact ⟨rfl, ⟨ob', h2⟩, h3.below hb h.1 (fun k hk => (WAt.ob_lt h k hk).1)⟩
/-- Numbers, one behind the other. -/
def wLongs : List Int → W → W
  | [], s => s
  | n :: r, s => wLongs r (wPut s (decide (0 ≤ n ∧ n ≤ 4294967295)) (beN n.toNat 4))
def longOk (l : List Int) : Bool := l.all fun n => decide (0 ≤ n ∧ n ≤ 4294967295)
def longBs (l : List Int) : List UInt8 := l.flatMap fun n => beN n.toNat 4
theorem wLongs_small : ∀ (l : List Int) (s : W), Small s → Small (wLongs l s)
  | [], s, h => h
  | n :: r, s, h => wLongs_small r _ (h.put _ _)
theorem wLongs_snoc : ∀ (l : List Int) (n : Int) (s : W), wLongs (l ++ [n]) s = wPut (wLongs l s) (decide (0 ≤ n ∧ n ≤ 4294967295)) (beN n.toNat 4)
  | [], n, s => rfl
  | m :: r, n, s => by rw [List.cons_append, wLongs, wLongs_snoc r]; rfl
theorem wLongs_err : ∀ (l : List Int) (s : W), ¬ s.err = 0 → ¬ (wLongs l s).err = 0
  | [], s, h => h
  | n :: r, s, h => by rw [wLongs, wPut_err h]; exact wLongs_err r s h
theorem wLongs_bad : ∀ (l : List Int) (s : W), longOk l = false → ¬ (wLongs l s).err = 0
  | [], s, h => by cases h
  | n :: r, s, h => by
    rw [wLongs]
    by_cases he : s.err = 0
    · by_cases hn : 0 ≤ n ∧ n ≤ 4294967295
      · refine wLongs_bad r _ ?_
        rw [longOk, List.all_cons, decide_eq_true hn, Bool.true_and] at h
        exact h
      · rw [decide_eq_false hn, wPut_bad he]
        exact wLongs_err r _ (by show ¬ (4 : Int) = 0; omega)
    · rw [wPut_err he]; exact wLongs_err r _ he
theorem wLongs_ok : ∀ (l : List Int) (out : List UInt8) (room : Int), longOk l = true → 4 * (l.length : Int) ≤ room → wLongs l ⟨out, room, 0⟩ = ⟨out ++ longBs l, room - 4 * l.length, 0⟩
  | [], out, room, h, hr => by simp [wLongs, longBs]
  | n :: r, out, room, h, hr => by
    rw [longOk, List.all_cons, Bool.and_eq_true] at h
    have hl : (n :: r).length = r.length + 1 := rfl
    rw [wLongs, h.1, wPut_ok rfl, wAdd_room (by rw [beN_len]; show ¬ room < _; omega), beN_len]
    rw [wLongs_ok r _ _ h.2 (by show 4 * (r.length : Int) ≤ room - ((4 : Nat) : Int); omega), hl]
    simp only [longBs, List.flatMap_cons, List.append_assoc, W.mk.injEq, and_true, true_and]
    omega
/-- A head: a sign and numbers. -/
def headS (limit sign : Int) (l : List Int) : W := wLongs l (wPut (wNew limit) (decide (0 ≤ sign ∧ sign ≤ 255)) (beN sign.toNat 1))
def hdText (sign : Int) (l : List Int) (text : ByteArray) : ByteArray := if longOk l = true then ⟨(beN sign.toNat 1 ++ longBs l).toArray⟩ ++ text else ⟨#[]⟩
def hdErr (l : List Int) : Int := if longOk l = true then 0 else 1
theorem headS_small (limit sign : Int) (l : List Int) (h : 0 ≤ limit ∧ limit ≤ 1000) : Small (headS limit sign l) := wLongs_small _ _ ((small_new limit h).put _ _)
theorem headS_ok {limit sign : Int} {l : List Int} (h : longOk l = true) (hs : 0 ≤ sign ∧ sign ≤ 255) (hl : 1 + 4 * (l.length : Int) ≤ limit) : doneS (headS limit sign l) = ⟨(beN sign.toNat 1 ++ longBs l).toArray⟩ ∧ (headS limit sign l).err = 0 := by
  have e : headS limit sign l = ⟨beN sign.toNat 1 ++ longBs l, limit - 1 - 4 * l.length, 0⟩ := by
    rw [headS, decide_eq_true hs, wNew, wPut_ok rfl, wAdd_room (by rw [beN_len]; show ¬ max limit 0 < _; omega), beN_len]
    rw [show (⟨[] ++ beN sign.toNat 1, max limit 0 - (1 : Nat), 0⟩ : W) = ⟨beN sign.toNat 1, limit - 1, 0⟩ by rw [List.nil_append, show max limit 0 - ((1 : Nat) : Int) = limit - 1 by omega]]
    exact wLongs_ok l _ _ h (by omega)
  rw [e]
  exact ⟨by rw [doneS, if_pos rfl], rfl⟩
theorem headS_bad {limit sign : Int} {l : List Int} (h : longOk l = false) : ((headS limit sign l).err != 0) = true := by
  have := wLongs_bad l (wPut (wNew limit) (decide (0 ≤ sign ∧ sign ≤ 255)) (beN sign.toNat 1)) h
  simpa [headS] using this



end Go.Proofs.Ytijeieamodjgbaa
