/- Items: what they are in memory; walks of kind and same. -/
import Derived.Test.YtldlkhnhpbonkaaVw
import Derived.Test.YtldlkhnhpbonkaaPLive
namespace Go.Proofs.Ytldlkhnhpbonkaa
open Go.RowKit
set_option linter.unusedVariables false

/-- An item: its kind's number, a number, bits, a text. -/
abbrev It := Int × Int × Int × ByteArray
def shIt : Sh It := (Sh.int.pair (Sh.int.pair (Sh.u64.pair Sh.str))).bytes 40
theorem vwInt : Vw Try.prog 3 Sh.int := vw_int Try.underlying3 (by kernel_rfl) (by kernel_rfl)
theorem vwU64 : Vw Try.prog 30 Sh.u64 := vw_u64 Try.underlying30 (by kernel_rfl) (by kernel_rfl)
theorem vwStr : Vw Try.prog 9 Sh.str := vw_str Try.underlying9 (by kernel_rfl) (by kernel_rfl)
theorem vwIt : Vw Try.prog 32 shIt := vw_struct Try.underlying32 (fsv_cons vwInt (fsv_cons vwInt (fsv_cons vwU64 (fsv_one vwStr) rfl) rfl) rfl) (by kernel_rfl) (by kernel_rfl)
theorem vwIts : Vw Try.prog 22 shIt.slice := vw_slice Try.underlying22 (by kernel_rfl) (by kernel_rfl) vwIt (by decide) (by decide)

/-- One item of a slice: its four cells. -/
theorem it_cells {w : World} {a : Option Addr} {n c : Nat} {l : List It} (h : SlAt shIt w a n c l) {i : Nat} (hi : i < n) :
    ∃ b o k m x t, a = some ⟨b, o, none⟩ ∧ l[i]? = some (k, m, x, t) ∧ w.cell? ⟨b, o + i * 4, none⟩ = some (.int .i64 k) ∧ w.cell? ⟨b, o + i * 4 + 1, none⟩ = some (.int .i64 m) ∧ w.cell? ⟨b, o + i * 4 + 2, none⟩ = some (.int .u64 x) ∧ w.cell? ⟨b, o + i * 4 + 3, none⟩ = some (.string t) ∧
      i64 k ∧ i64 m ∧ (0 ≤ x ∧ x ≤ 18446744073709551615) ∧ t.size ≤ 140737488351232 := by
  obtain ⟨y, hy⟩ : ∃ y, l[i]? = some y := ⟨_, List.getElem?_eq_getElem (by rw [h.len]; exact hi)⟩
  obtain ⟨b, o, cs, ha, hE, hc⟩ := h.cell i y hy
  obtain ⟨k, m, x, t⟩ := y
  obtain ⟨_, _, rfl, ⟨rfl, h1⟩, _, _, rfl, ⟨rfl, h2⟩, _, _, rfl, ⟨rfl, h3⟩, rfl, h4⟩ := hE
  exact ⟨b, o, k, m, x, t, ha, hy, hc 0 _ rfl, hc 1 _ rfl, hc 2 _ rfl, hc 3 _ rfl, h1, h2, h3, h4⟩

def kindN (k : Int) : Int := wrap64 ((IntKind.u64.wrap k).tmod 5)
theorem kindN_range (k : Int) : kindN k = 0 ∨ kindN k = 1 ∨ kindN k = 2 ∨ kindN k = 3 ∨ kindN k = 4 := by
  have h : 0 ≤ IntKind.u64.wrap k := by simp [IntKind.wrap, IntKind.bits, IntKind.signed]; omega
  unfold kindN
  rw [Int.tmod_eq_emod_of_nonneg h, IntWalk.wrap64_in _ ⟨by omega, by omega⟩]
  omega
theorem kind_any (k m x : Int) (t : ByteArray) (w : World) : Calls Try.prog 23 #[.agg #[.int .i64 k, .int .i64 m, .int .u64 x, .string t]] w fun e w' => e = .returned (.int .i64 (kindN k)) ∧ Below w.heap.size w w' := by
  go_enter Try.func23, Try.ntmps23
  go_wp2_with fail
  go_ret
  exact ⟨rfl, below_alloc w _⟩

/-- What is left behind an item that is asked for. -/
def iNext (s : R) (k : Int) : R := if k = 0 then rNext s 1 else if k = 1 then rNext s 2 else if k = 2 then rNext s 4 else if k = 3 then rNext s 8 else tNext s
theorem rrd_below {p : Nat} {w w' : World} {s : R} (hr : RRd w p s) (hb : Below w.heap.size w w') : RRd w' p s := by
  obtain ⟨S, hk, h1, h2⟩ := hr
  exact ⟨S, blk_below hk hb, h1, h2⟩
theorem rrd_lt {p : Nat} {w : World} {s : R} (hr : RRd w p s) : p < w.heap.size := by
  obtain ⟨S, hk, h1, h2⟩ := hr
  exact blk_lt hk
theorem rrd_kept {p q : Nat} {w w' : World} {s : R} (hr : RRd w q s) (ho : Only p none w w') (h : ¬ q = p) : RRd w' q s := by
  obtain ⟨S, hk, h1, h2⟩ := hr
  exact ⟨S, by rw [ho.block q (blk_lt hk) h (by simp)]; exact hk, h1, h2⟩
theorem prd_kept {p q : Nat} {text : ByteArray} {w w' : World} {s : R} (hr : PRd w q text s) (ho : Only p none w w') (h : ¬ q = p) : PRd w' q text s := by
  obtain ⟨at0, h1, h2, hk, h3⟩ := hr
  exact ⟨at0, h1, h2, by rw [ho.block q (blk_lt hk) h (by simp)]; exact hk, h3⟩
/-- What same leaves: both readers have gone on alike. -/
def SamePost (w : World) (p q : Nat) (text : ByteArray) (s : R) (e : Ending) (w' : World) : Prop :=
  e = .returned (.bool true) ∧ PRd w' p text s ∧ RRd w' q s ∧ Only p (some q) w w'
theorem only_two {p q : Nat} {w w1 w2 w3 : World} (hb : Below w.heap.size w w1) (h1 : Only p none w1 w2) (h2 : Only q none w2 w3) : Only p (some q) w w3 :=
  ⟨(h2.os.trans h1.os).trans hb.os, (h2.tape.trans h1.tape).trans hb.tape, (h2.output.trans h1.output).trans hb.output, Nat.le_trans hb.size (Nat.le_trans h1.size h2.size), fun k hk hp hq => by
    rw [h2.block k (Nat.lt_of_lt_of_le hk (Nat.le_trans hb.size h1.size)) (fun h => hq (by rw [h])) (by simp), h1.block k (Nat.lt_of_lt_of_le hk hb.size) hp (by simp), hb.block k hk]⟩

set_option maxHeartbeats 1000000 in
theorem same_0 (k m x : Int) (t : ByteArray) (p q : Nat) (text : ByteArray) (s : R) (w : World) (hk : kindN k = 0) (hne : ¬ q = p) (hp : PRd w p text s) (hq : RRd w q s) :
    Calls Try.prog 12 #[.pointer (some ⟨p, 0, none⟩), .pointer (some ⟨q, 0, none⟩), .agg #[.int .i64 k, .int .i64 m, .int .u64 x, .string t]] w (SamePost w p q text (rNext s 1)) := by
  have CK := kind_any k m x t (w.alloc (.cells #[.int .i64 k, .int .i64 m, .int .u64 x, .string t] 32))
  rw [hk] at CK
  have CK := Lib.hid CK
  have HP := Lib.hid (prd_below hp (below_alloc w (.cells #[.int .i64 k, .int .i64 m, .int .u64 x, .string t] 32)))
  have HQ := Lib.hid (rrd_below hq (below_alloc w (.cells #[.int .i64 k, .int .i64 m, .int .u64 x, .string t] 32)))
  clear hk hp hq
  go_enter Try.func12, Try.ntmps12
  go_wp2_with fail
  refine CK.out.mono ?_
  rintro e w1 ⟨rfl, b1⟩
  replace HP := Lib.hid (prd_below HP.out b1)
  replace HQ := Lib.hid (rrd_below HQ.out b1)
  have B1 := Lib.hid (bthen (below_alloc w _) b1)
  clear b1 CK
  go_wp2_with fail
  refine (rbyte_any p text s w1 HP.out).mono ?_
  rintro e w2 ⟨rfl, hr2, o2⟩
  replace HQ := Lib.hid (rrd_kept HQ.out o2 hne)
  have HR := Lib.hid hr2; have O2 := Lib.hid o2
  clear hr2 o2 HP
  go_wp2_with fail
  refine (rrnum_any q s 1 w2 HQ.out (by omega)).mono ?_
  rintro e w3 ⟨rfl, hr3, o3⟩
  have HR3 := Lib.hid hr3; have O3 := Lib.hid o3
  clear hr3 o3
  go_wp2_with fail
  go_ret
  exact ⟨rfl, prd_kept HR.out O3.out (fun h => hne h.symm), HR3.out, only_two B1.out O2.out O3.out⟩

set_option maxHeartbeats 1000000 in
theorem same_1 (k m x : Int) (t : ByteArray) (p q : Nat) (text : ByteArray) (s : R) (w : World) (hk : kindN k = 1) (hne : ¬ q = p) (hp : PRd w p text s) (hq : RRd w q s) :
    Calls Try.prog 12 #[.pointer (some ⟨p, 0, none⟩), .pointer (some ⟨q, 0, none⟩), .agg #[.int .i64 k, .int .i64 m, .int .u64 x, .string t]] w (SamePost w p q text (rNext s 2)) := by
  have CK := kind_any k m x t (w.alloc (.cells #[.int .i64 k, .int .i64 m, .int .u64 x, .string t] 32))
  rw [hk] at CK
  have CK := Lib.hid CK
  have HP := Lib.hid (prd_below hp (below_alloc w (.cells #[.int .i64 k, .int .i64 m, .int .u64 x, .string t] 32)))
  have HQ := Lib.hid (rrd_below hq (below_alloc w (.cells #[.int .i64 k, .int .i64 m, .int .u64 x, .string t] 32)))
  clear hk hp hq
  go_enter Try.func12, Try.ntmps12
  go_wp2_with fail
  refine CK.out.mono ?_
  rintro e w1 ⟨rfl, b1⟩
  replace HP := Lib.hid (prd_below HP.out b1)
  replace HQ := Lib.hid (rrd_below HQ.out b1)
  have B1 := Lib.hid (bthen (below_alloc w _) b1)
  clear b1 CK
  go_wp2_with fail
  refine (rword_any p text s w1 HP.out).mono ?_
  rintro e w2 ⟨rfl, hr2, o2⟩
  replace HQ := Lib.hid (rrd_kept HQ.out o2 hne)
  have HR := Lib.hid hr2; have O2 := Lib.hid o2
  clear hr2 o2 HP
  go_wp2_with fail
  refine (rrnum_any q s 2 w2 HQ.out (by omega)).mono ?_
  rintro e w3 ⟨rfl, hr3, o3⟩
  have HR3 := Lib.hid hr3; have O3 := Lib.hid o3
  clear hr3 o3
  go_wp2_with fail
  go_ret
  exact ⟨rfl, prd_kept HR.out O3.out (fun h => hne h.symm), HR3.out, only_two B1.out O2.out O3.out⟩

set_option maxHeartbeats 1000000 in
theorem same_2 (k m x : Int) (t : ByteArray) (p q : Nat) (text : ByteArray) (s : R) (w : World) (hk : kindN k = 2) (hne : ¬ q = p) (hp : PRd w p text s) (hq : RRd w q s) :
    Calls Try.prog 12 #[.pointer (some ⟨p, 0, none⟩), .pointer (some ⟨q, 0, none⟩), .agg #[.int .i64 k, .int .i64 m, .int .u64 x, .string t]] w (SamePost w p q text (rNext s 4)) := by
  have CK := kind_any k m x t (w.alloc (.cells #[.int .i64 k, .int .i64 m, .int .u64 x, .string t] 32))
  rw [hk] at CK
  have CK := Lib.hid CK
  have HP := Lib.hid (prd_below hp (below_alloc w (.cells #[.int .i64 k, .int .i64 m, .int .u64 x, .string t] 32)))
  have HQ := Lib.hid (rrd_below hq (below_alloc w (.cells #[.int .i64 k, .int .i64 m, .int .u64 x, .string t] 32)))
  clear hk hp hq
  go_enter Try.func12, Try.ntmps12
  go_wp2_with fail
  refine CK.out.mono ?_
  rintro e w1 ⟨rfl, b1⟩
  replace HP := Lib.hid (prd_below HP.out b1)
  replace HQ := Lib.hid (rrd_below HQ.out b1)
  have B1 := Lib.hid (bthen (below_alloc w _) b1)
  clear b1 CK
  go_wp2_with fail
  refine (rlong_any p text s w1 HP.out).mono ?_
  rintro e w2 ⟨rfl, hr2, o2⟩
  replace HQ := Lib.hid (rrd_kept HQ.out o2 hne)
  have HR := Lib.hid hr2; have O2 := Lib.hid o2
  clear hr2 o2 HP
  go_wp2_with fail
  refine (rrnum_any q s 4 w2 HQ.out (by omega)).mono ?_
  rintro e w3 ⟨rfl, hr3, o3⟩
  have HR3 := Lib.hid hr3; have O3 := Lib.hid o3
  clear hr3 o3
  go_wp2_with fail
  go_ret
  exact ⟨rfl, prd_kept HR.out O3.out (fun h => hne h.symm), HR3.out, only_two B1.out O2.out O3.out⟩

set_option maxHeartbeats 1000000 in
theorem same_3 (k m x : Int) (t : ByteArray) (p q : Nat) (text : ByteArray) (s : R) (w : World) (hk : kindN k = 3) (hne : ¬ q = p) (hp : PRd w p text s) (hq : RRd w q s) :
    Calls Try.prog 12 #[.pointer (some ⟨p, 0, none⟩), .pointer (some ⟨q, 0, none⟩), .agg #[.int .i64 k, .int .i64 m, .int .u64 x, .string t]] w (SamePost w p q text (rNext s 8)) := by
  have CK := kind_any k m x t (w.alloc (.cells #[.int .i64 k, .int .i64 m, .int .u64 x, .string t] 32))
  rw [hk] at CK
  have CK := Lib.hid CK
  have HP := Lib.hid (prd_below hp (below_alloc w (.cells #[.int .i64 k, .int .i64 m, .int .u64 x, .string t] 32)))
  have HQ := Lib.hid (rrd_below hq (below_alloc w (.cells #[.int .i64 k, .int .i64 m, .int .u64 x, .string t] 32)))
  clear hk hp hq
  go_enter Try.func12, Try.ntmps12
  go_wp2_with fail
  refine CK.out.mono ?_
  rintro e w1 ⟨rfl, b1⟩
  replace HP := Lib.hid (prd_below HP.out b1)
  replace HQ := Lib.hid (rrd_below HQ.out b1)
  have B1 := Lib.hid (bthen (below_alloc w _) b1)
  clear b1 CK
  go_wp2_with fail
  refine (rdbits_any p text s w1 HP.out).mono ?_
  rintro e w2 ⟨rfl, hr2, o2⟩
  replace HQ := Lib.hid (rrd_kept HQ.out o2 hne)
  have HR := Lib.hid hr2; have O2 := Lib.hid o2
  clear hr2 o2 HP
  go_wp2_with fail
  refine (rbits_any q s 8 w2 HQ.out (by omega)).mono ?_
  rintro e w3 ⟨rfl, hr3, o3⟩
  have HR3 := Lib.hid hr3; have O3 := Lib.hid o3
  clear hr3 o3
  go_wp2_with fail
  go_ret
  exact ⟨rfl, prd_kept HR.out O3.out (fun h => hne h.symm), HR3.out, only_two B1.out O2.out O3.out⟩

set_option maxHeartbeats 1000000 in
theorem same_4 (k m x : Int) (t : ByteArray) (p q : Nat) (text : ByteArray) (s : R) (w : World) (hk : kindN k = 4) (hne : ¬ q = p) (hp : PRd w p text s) (hq : RRd w q s) :
    Calls Try.prog 12 #[.pointer (some ⟨p, 0, none⟩), .pointer (some ⟨q, 0, none⟩), .agg #[.int .i64 k, .int .i64 m, .int .u64 x, .string t]] w (SamePost w p q text (tNext s)) := by
  have CK := kind_any k m x t (w.alloc (.cells #[.int .i64 k, .int .i64 m, .int .u64 x, .string t] 32))
  rw [hk] at CK
  have CK := Lib.hid CK
  have HP := Lib.hid (prd_below hp (below_alloc w (.cells #[.int .i64 k, .int .i64 m, .int .u64 x, .string t] 32)))
  have HQ := Lib.hid (rrd_below hq (below_alloc w (.cells #[.int .i64 k, .int .i64 m, .int .u64 x, .string t] 32)))
  clear hk hp hq
  go_enter Try.func12, Try.ntmps12
  go_wp2_with fail
  refine CK.out.mono ?_
  rintro e w1 ⟨rfl, b1⟩
  replace HP := Lib.hid (prd_below HP.out b1)
  replace HQ := Lib.hid (rrd_below HQ.out b1)
  have B1 := Lib.hid (bthen (below_alloc w _) b1)
  clear b1 CK
  go_wp2_with fail
  refine (rdtext_any p text s w1 HP.out).mono ?_
  rintro e w2 ⟨rfl, hr2, o2⟩
  replace HQ := Lib.hid (rrd_kept HQ.out o2 hne)
  have HR := Lib.hid hr2; have O2 := Lib.hid o2
  clear hr2 o2 HP
  go_wp2_with fail
  refine (rrtext_any q s w2 HQ.out).mono ?_
  rintro e w3 ⟨rfl, hr3, o3⟩
  have HR3 := Lib.hid hr3; have O3 := Lib.hid o3
  clear hr3 o3
  go_wp2_with fail
  go_ret
  exact ⟨rfl, prd_kept HR.out O3.out (fun h => hne h.symm), HR3.out, only_two B1.out O2.out O3.out⟩

theorem same_any (k m x : Int) (t : ByteArray) (p q : Nat) (text : ByteArray) (s : R) (w : World) (hne : ¬ q = p) (hp : PRd w p text s) (hq : RRd w q s) :
    Calls Try.prog 12 #[.pointer (some ⟨p, 0, none⟩), .pointer (some ⟨q, 0, none⟩), .agg #[.int .i64 k, .int .i64 m, .int .u64 x, .string t]] w (SamePost w p q text (iNext s (kindN k))) := by
  rcases kindN_range k with h | h | h | h | h
  · rw [h]; exact same_0 k m x t p q text s w h hne hp hq
  · rw [h]; exact same_1 k m x t p q text s w h hne hp hq
  · rw [h]; exact same_2 k m x t p q text s w h hne hp hq
  · rw [h]; exact same_3 k m x t p q text s w h hne hp hq
  · rw [h]; exact same_4 k m x t p q text s w h hne hp hq
end Go.Proofs.Ytldlkhnhpbonkaa
