
/- Texts behind a sign and numbers: plain, and walks of both layers' State. -/
import Derived.Test.YtfhbjajhmegdmaaPkL
import Derived.Test.YtfhbjajhmegdmaaPkR
import Derived.Test.YtfhbjajhmegdmaaPut
import Derived.Test.YtfhbjajhmegdmaaPhase
import Derived.Laws.Concat
namespace Go.Proofs.Ytfhbjajhmegdmaa
set_option maxRecDepth 100000
open Go.RowKit
set_option linter.unusedVariables false
set_option linter.unusedSimpArgs false

/-- A writer that is small. -/
structure Small (s : W) : Prop where
  room : 0 ≤ s.room
  size : (s.out.length : Int) + s.room ≤ 1000
  err : 0 ≤ s.err ∧ s.err ≤ 9
theorem Small.put {s : W} (h : Small s) (ok : Bool) (bs : List UInt8) : Small (wPut s ok bs) :=
  ⟨(wPut_room (ok := ok) (bs := bs) (T := 1000) h.room h.size).1, (wPut_room (ok := ok) (bs := bs) (T := 1000) h.room h.size).2, wPut_errs h.err⟩
theorem small_new (n : Int) (h : 0 ≤ n ∧ n ≤ 1000) : Small (wNew n) := ⟨by show 0 ≤ max n 0; omega, by show ((0 : Nat) : Int) + max n 0 ≤ 1000; omega, by show (0 : Int) ≤ 0 ∧ (0 : Int) ≤ 9; omega⟩
theorem wbyte_gen (w0 : World) (p : Nat) (ob : Option Nat) (s : W) (n : Int) (w : World) (h : PWr w w0.heap.size p ob s) (hb : Below w0.heap.size w0 w) (hs : Small s) (hn : i64 n) :
    Calls Try.prog 44 #[.pointer (some ⟨p, 0, none⟩), .int .i64 n] w fun e w' => e = .returned (.tuple #[]) ∧ (∃ ob', PWr w' w0.heap.size p ob' (wPut s (decide (0 ≤ n ∧ n ≤ 255)) (beN n.toNat 1))) ∧ Below w0.heap.size w0 w' := by
  have := hs.room; have := hs.size; have := hs.err
  refine (wbyte_any w0.heap.size p ob s n w h hb.size ⟨⟨by omega, by omega⟩, by omega, by omega⟩ (fits_of (by omega)) hn).mono ?_
  rintro e w' ⟨rfl, ob', _, h2, h3⟩
  exact ⟨rfl, ⟨ob', h2⟩, h3.below hb h.1 (fun k hk => (WAt.ob_lt h k hk).1)⟩
theorem wlong_gen (w0 : World) (p : Nat) (ob : Option Nat) (s : W) (n : Int) (w : World) (h : PWr w w0.heap.size p ob s) (hb : Below w0.heap.size w0 w) (hs : Small s) (hn : i64 n) :
    Calls Try.prog 56 #[.pointer (some ⟨p, 0, none⟩), .int .i64 n] w fun e w' => e = .returned (.tuple #[]) ∧ (∃ ob', PWr w' w0.heap.size p ob' (wPut s (decide (0 ≤ n ∧ n ≤ 4294967295)) (beN n.toNat 4))) ∧ Below w0.heap.size w0 w' := by
  have := hs.room; have := hs.size; have := hs.err
  refine (wlong_any w0.heap.size p ob s n w h hb.size ⟨⟨by omega, by omega⟩, by omega, by omega⟩ (fits_of (by omega)) hn).mono ?_
  rintro e w' ⟨rfl, ob', _, h2, h3⟩
  exact ⟨rfl, ⟨ob', h2⟩, h3.below hb h.1 (fun k hk => (WAt.ob_lt h k hk).1)⟩
theorem rlong_gen (w0 : World) (p : Nat) (ob : Option Nat) (s : W) (n : Int) (w : World) (h : RWr w w0.heap.size p ob s) (hb : Below w0.heap.size w0 w) (hs : Small s) (hn : i64 n) :
    Calls Try.prog 50 #[.pointer (some ⟨p, 0, none⟩), .int .i64 n, .int .i64 4] w fun e w' => e = .returned (.tuple #[]) ∧ (∃ ob', RWr w' w0.heap.size p ob' (wPut s (decide (0 ≤ n ∧ n ≤ 4294967295)) (beN n.toNat 4))) ∧ Below w0.heap.size w0 w' := by
  have := hs.room; have := hs.size; have := hs.err
  refine (rnum_any w0.heap.size p ob s n 4 w h hb.size (by omega) hn ⟨by omega, by omega⟩ (by omega)).mono ?_
  rintro e w' ⟨rfl, ob', _, h2, h3⟩
  rw [show decide (0 ≤ n ∧ n < ((256 ^ 4 : Nat) : Int)) = decide (0 ≤ n ∧ n ≤ 4294967295) from decide_eq_decide.2 (by omega)] at h2
  exact ⟨rfl, ⟨ob', h2⟩, h3.below hb h.1 (fun k hk => (WAt.ob_lt h k hk).1)⟩

theorem rbyte_gen (w0 : World) (p : Nat) (ob : Option Nat) (s : W) (n : Int) (w : World) (h : RWr w w0.heap.size p ob s) (hb : Below w0.heap.size w0 w) (hs : Small s) (hn : i64 n) :
    Calls Try.prog 50 #[.pointer (some ⟨p, 0, none⟩), .int .i64 n, .int .i64 1] w fun e w' => e = .returned (.tuple #[]) ∧ (∃ ob', RWr w' w0.heap.size p ob' (wPut s (decide (0 ≤ n ∧ n ≤ 255)) (beN n.toNat 1))) ∧ Below w0.heap.size w0 w' := by
  have := hs.room; have := hs.size; have := hs.err
  refine (rnum_any w0.heap.size p ob s n 1 w h hb.size (by omega) hn ⟨by omega, by omega⟩ (by omega)).mono ?_
  rintro e w' ⟨rfl, ob', _, h2, h3⟩
  rw [show decide (0 ≤ n ∧ n < ((256 ^ 1 : Nat) : Int)) = decide (0 ≤ n ∧ n ≤ 255) from decide_eq_decide.2 (by omega)] at h2
  exact ⟨rfl, ⟨ob', h2⟩, h3.below hb h.1 (fun k hk => (WAt.ob_lt h k hk).1)⟩
/-- Numbers, one behind the other. -/
def wLongs : List Int → W → W
  | [], s => s
  | n :: r, s => wLongs r (wPut s (decide (0 ≤ n ∧ n ≤ 4294967295)) (beN n.toNat 4))
def longOk (l : List Int) : Bool := l.all fun n => decide (0 ≤ n ∧ n ≤ 4294967295)
def longBs (l : List Int) : List UInt8 := l.flatMap fun n => beN n.toNat 4
theorem wLongs_small : ∀ (l : List Int) (s : W), Small s → Small (wLongs l s)
  | [], s, h => h
  | n :: r, s, h => wLongs_small r _ (h.put _ _)
theorem wLongs_snoc : ∀ (l : List Int) (n : Int) (s : W), wLongs (l ++ [n]) s = wPut (wLongs l s) (decide (0 ≤ n ∧ n ≤ 4294967295)) (beN n.toNat 4)
  | [], n, s => rfl
  | m :: r, n, s => by rw [List.cons_append, wLongs, wLongs_snoc r]; rfl
theorem wLongs_err : ∀ (l : List Int) (s : W), ¬ s.err = 0 → ¬ (wLongs l s).err = 0
  | [], s, h => h
  | n :: r, s, h => by rw [wLongs, wPut_err h]; exact wLongs_err r s h
theorem wLongs_bad : ∀ (l : List Int) (s : W), longOk l = false → ¬ (wLongs l s).err = 0
  | [], s, h => by cases h
  | n :: r, s, h => by
    rw [wLongs]
    by_cases he : s.err = 0
    · by_cases hn : 0 ≤ n ∧ n ≤ 4294967295
      · refine wLongs_bad r _ ?_
        rw [longOk, List.all_cons, decide_eq_true hn, Bool.true_and] at h
        exact h
      · rw [decide_eq_false hn, wPut_bad he]
        exact wLongs_err r _ (by show ¬ (4 : Int) = 0; omega)
    · rw [wPut_err he]; exact wLongs_err r _ he
theorem wLongs_ok : ∀ (l : List Int) (out : List UInt8) (room : Int), longOk l = true → 4 * (l.length : Int) ≤ room → wLongs l ⟨out, room, 0⟩ = ⟨out ++ longBs l, room - 4 * l.length, 0⟩
  | [], out, room, h, hr => by simp [wLongs, longBs]
  | n :: r, out, room, h, hr => by
    rw [longOk, List.all_cons, Bool.and_eq_true] at h
    have hl : (n :: r).length = r.length + 1 := rfl
    rw [wLongs, h.1, wPut_ok rfl, wAdd_room (by rw [beN_len]; show ¬ room < _; omega), beN_len]
    rw [wLongs_ok r _ _ h.2 (by show 4 * (r.length : Int) ≤ room - ((4 : Nat) : Int); omega), hl]
    simp only [longBs, List.flatMap_cons, List.append_assoc, W.mk.injEq, and_true, true_and]
    omega
/-- A head: a sign and numbers. -/
def headS (limit sign : Int) (l : List Int) : W := wLongs l (wPut (wNew limit) (decide (0 ≤ sign ∧ sign ≤ 255)) (beN sign.toNat 1))
def hdText (sign : Int) (l : List Int) (text : ByteArray) : ByteArray := if longOk l = true then ⟨(beN sign.toNat 1 ++ longBs l).toArray⟩ ++ text else ⟨#[]⟩
def hdErr (l : List Int) : Int := if longOk l = true then 0 else 1
theorem headS_small (limit sign : Int) (l : List Int) (h : 0 ≤ limit ∧ limit ≤ 1000) : Small (headS limit sign l) := wLongs_small _ _ ((small_new limit h).put _ _)
theorem headS_ok {limit sign : Int} {l : List Int} (h : longOk l = true) (hs : 0 ≤ sign ∧ sign ≤ 255) (hl : 1 + 4 * (l.length : Int) ≤ limit) : doneS (headS limit sign l) = ⟨(beN sign.toNat 1 ++ longBs l).toArray⟩ ∧ (headS limit sign l).err = 0 := by
  have e : headS limit sign l = ⟨beN sign.toNat 1 ++ longBs l, limit - 1 - 4 * l.length, 0⟩ := by
    rw [headS, decide_eq_true hs, wNew, wPut_ok rfl, wAdd_room (by rw [beN_len]; show ¬ max limit 0 < _; omega), beN_len]
    rw [show (⟨[] ++ beN sign.toNat 1, max limit 0 - (1 : Nat), 0⟩ : W) = ⟨beN sign.toNat 1, limit - 1, 0⟩ by rw [List.nil_append, show max limit 0 - ((1 : Nat) : Int) = limit - 1 by omega]]
    exact wLongs_ok l _ _ h (by omega)
  rw [e]
  exact ⟨by rw [doneS, if_pos rfl], rfl⟩
theorem headS_bad {limit sign : Int} {l : List Int} (h : longOk l = false) : ((headS limit sign l).err != 0) = true := by
  have := wLongs_bad l (wPut (wNew limit) (decide (0 ≤ sign ∧ sign ≤ 255)) (beN sign.toNat 1)) h
  simpa [headS] using this

set_option maxHeartbeats 1000000 in
theorem headed_any (sign : Int) (text : ByteArray) (a : Option Addr) (n c : Nat) (l : List Int) (w : World) (h : IntsAt w a n l) (hn : l.length ≤ 15) (hi : ∀ x ∈ l, i64 x) (hs : 0 ≤ sign ∧ sign ≤ 255) (ht : text.size ≤ 140737488355328) :
    Calls Try.prog 47 #[.int .i64 sign, .string text, .slice a n c] w fun e w' => e = .returned (.tuple #[.string (hdText sign l text), .int .i64 (hdErr l)]) ∧ Below w.heap.size w w' := by
  have hmax := h.max
  have Hlen := Lib.hid h.len
  have HI := Lib.hid h
  have HN := Lib.hid hi
  have hn' : n ≤ 15 := by have := h.len; omega
  have Hn := Lib.hid hn
  have HT := Lib.hid ht
  have S0 := Lib.hid (small_new 64 (by omega))
  have HS := Lib.hid hs
  clear h hi hn ht hs
  go_enter Try.func47, Try.ntmps47
  go_wp2_with fail
  refine (wnew_any 64 w).mono ?_
  rintro r w1 ⟨rfl, h1, b1⟩
  have H1 := Lib.hid h1; have B1 := Lib.hid b1
  clear h1 b1
  go_wp2_with fail
  refine (wbyte_gen w _ _ _ sign _ H1.out B1.out S0.out (by have := HS.out; unfold i64; omega)).mono ?_
  rintro r w2 ⟨rfl, ⟨ob2, h2⟩, b2⟩
  have H2 := Lib.hid h2; have B2 := Lib.hid b2
  have S2 := Lib.hid (S0.out.put (decide (0 ≤ sign ∧ sign ≤ 255)) (beN sign.toNat 1))
  clear h2 b2 H1 B1
  go_wp2_with fail
  go_loopw [19] (fun i wr => ∃ k : Nat, k ≤ n ∧ i = .int .i64 k ∧ Hid (Below w.heap.size w wr) ∧ Hid (∃ ob, PWr wr w.heap.size w.heap.size ob (headS 64 sign (l.take k)))) (fun i _ => n - (intOf i).toNat)
  case atStart => exact ⟨0, by omega, rfl, B2, Lib.hid ⟨_, H2.out⟩⟩
  case round =>
    obtain ⟨k, hk, rfl, HB, HW⟩ := hrel
    clear H2 B2
    obtain ⟨ob, hw⟩ := HW.out
    have HW' := Lib.hid hw
    clear hw HW
    by_cases hlt : k < n
    · obtain ⟨b, o, x, rfl, hc, b0, b1, hd, _⟩ := (HI.out.below HB.out).elem k hlt
      have hx := HN.out x (by have : x ∈ l.drop k := by rw [hd]; simp
                              exact List.mem_of_mem_drop this)
      have HD := Lib.hid hd
      have HX := Lib.hid hx
      clear hd hx
      go_wp2_with fail
      refine (wlong_gen w _ _ _ x _ HW'.out HB.out (headS_small 64 sign _ (by omega)) HX.out).mono ?_
      rintro r w3 ⟨rfl, ⟨ob3, h3⟩, b3⟩
      have HT3 := Lib.hid (show PWr w3 w.heap.size w.heap.size ob3 (headS 64 sign (l.take (k + 1))) by
        have ht : l.take (k + 1) = l.take k ++ [x] := by
          have h0 : l[k]? = some x := by
            have := congrArg (fun z => z[0]?) HD.out
            simpa using this
          rw [List.take_add_one, h0]; rfl
        rw [ht, headS, wLongs_snoc]
        exact h3)
      have B3 := Lib.hid b3
      clear h3 b3
      go_wp2_with fail
      go_round
      case rel => exact ⟨k + 1, by omega, by go_num, B3, Lib.hid ⟨_, HT3.out⟩⟩
      case measure => simp [intOf]; omega
    · have hkl : l.take k = l := List.take_of_length_le (by rw [Hlen.out]; omega)
      rw [hkl] at HW'
      have CD := wdone_any _ _ _ _ _ HW'.out
      have hs := headS_small 64 sign l (by omega)
      cases hok : longOk l with
      | true =>
        obtain ⟨d1, d2⟩ := headS_ok (limit := 64) hok HS.out (by have := Hn.out; omega)
        rw [d1, d2] at CD
        have CD := Lib.hid CD
        have HX := Lib.hid (show hdText sign l text = ⟨(beN sign.toNat 1 ++ longBs l).toArray⟩ ++ text ∧ hdErr l = 0 by rw [hdText, hdErr, hok]; exact ⟨rfl, rfl⟩)
        have hsz : (beN sign.toNat 1 ++ longBs l).length ≤ 1000 := by
          have h1 := hs.size
          have h2 := hs.room
          have h3 := congrArg (fun z : ByteArray => z.size) d1
          rw [doneS, if_pos d2] at h3
          simp only [ByteArray.size, List.size_toArray] at h3
          omega
        have hcat : ∀ w : World, (Op.stringOp .add (⟨(beN sign.toNat 1 ++ longBs l).toArray⟩ : ByteArray) text).run Try.prog w = .ok (.string (⟨(beN sign.toNat 1 ++ longBs l).toArray⟩ ++ text)) w := fun w => run_string_add_sum w _ _ (by
          have := HT.out
          have h4 : (⟨(beN sign.toNat 1 ++ longBs l).toArray⟩ : ByteArray).size = (beN sign.toNat 1 ++ longBs l).length := by simp [ByteArray.size]
          omega)
        generalize (⟨(beN sign.toNat 1 ++ longBs l).toArray⟩ : ByteArray) = HD at *
        clear hs hok d1 d2 hsz hkl
        go_wp2_with fail
        refine CD.out.mono ?_
        rintro r w3 ⟨rfl, b3⟩
        have B3 := Lib.hid (bthen HB.out b3)
        clear b3
        go_wp2_with fail
        go_ret2
        exact ⟨by rw [HX.out.1, HX.out.2]; rfl, B3.out⟩
      | false =>
        have hne := headS_bad (limit := 64) (sign := sign) hok
        have HX := Lib.hid (show hdText sign l text = ⟨#[]⟩ ∧ hdErr l = 1 by rw [hdText, hdErr, hok]; exact ⟨rfl, rfl⟩)
        generalize doneS (headS 64 sign l) = D at *
        generalize (headS 64 sign l).err = E at *
        have CD := Lib.hid CD
        clear hs hok hkl
        go_wp2_with fail
        refine CD.out.mono ?_
        rintro r w3 ⟨rfl, b3⟩
        have B3 := Lib.hid (bthen HB.out b3)
        clear b3
        go_wp2_with fail
        go_ret2
        exact ⟨by rw [HX.out.1, HX.out.2]; rfl, B3.out⟩

set_option maxHeartbeats 1000000 in
theorem state_any (slot : Int) (bytes : ByteArray) (w : World) (hs : i64 slot) (hb : bytes.size ≤ 140737488355328) :
    Calls Try.prog 31 #[.int .i64 slot, .string bytes] w fun e w' => e = .returned (.tuple #[.string (hdText 83 [slot] bytes), .int .i64 (hdErr [slot])]) ∧ Below w.heap.size w w' := by
  have CH := Lib.hid (headed_any 83 bytes (some ⟨w.heap.size, 0, none⟩) 1 1 [slot] (w.alloc (.cells #[.int .i64 slot] 3)) (IntsAt.made w [slot] 3 (by simpa using hs) (by simp)) (by simp) (by simpa using hs) (by omega) hb)
  generalize hdText 83 [slot] bytes = T at *
  generalize hdErr [slot] = E at *
  clear hs hb
  go_enter Try.func31, Try.ntmps31
  go_wp2_with fail
  refine CH.out.mono ?_
  rintro r w1 ⟨rfl, b1⟩
  have B := Lib.hid (bthen (below_alloc _ _) b1)
  clear b1
  go_wp2_with fail
  go_ret2
  exact ⟨rfl, B.out⟩

set_option maxHeartbeats 1000000 in
theorem rstate_any (slot : Int) (bytes : ByteArray) (w : World) (hs : i64 slot) (hb : bytes.size ≤ 140737488355328) :
    Calls Try.prog 34 #[.int .i64 slot, .string bytes] w fun e w' => e = .returned (.tuple #[.string (hdText 83 [slot] bytes), .int .i64 (hdErr [slot])]) ∧ Below w.heap.size w w' := by
  have HS := Lib.hid hs
  have S0 := Lib.hid (small_new 5 (by omega))
  have S1 := Lib.hid (S0.out.put (decide (0 ≤ (83 : Int) ∧ (83 : Int) ≤ 255)) (beN (83 : Int).toNat 1))
  have HT := Lib.hid hb
  clear hs hb
  go_enter Try.func34, Try.ntmps34
  go_wp2_with fail
  refine (rnew_any 5 w).mono ?_
  rintro r w1 ⟨rfl, h1, b1⟩
  have H1 := Lib.hid h1; have B1 := Lib.hid b1
  clear h1 b1
  go_wp2_with fail
  refine (rbyte_gen w _ _ _ 83 _ H1.out B1.out S0.out (by unfold i64; omega)).mono ?_
  rintro r w2 ⟨rfl, ⟨ob2, h2⟩, b2⟩
  have H2 := Lib.hid h2; have B2 := Lib.hid b2
  clear h2 b2 H1 B1
  go_wp2_with fail
  refine (rlong_gen w _ _ _ slot _ H2.out B2.out S1.out HS.out).mono ?_
  rintro r w3 ⟨rfl, ⟨ob3, h3⟩, b3⟩
  have CD := rdone_any _ _ _ _ w3 h3
  have B3 := Lib.hid b3
  clear h3 b3 H2 B2
  rw [show wPut (wPut (wNew 5) (decide (0 ≤ (83 : Int) ∧ (83 : Int) ≤ 255)) (beN (83 : Int).toNat 1)) (decide (0 ≤ slot ∧ slot ≤ 4294967295)) (beN slot.toNat 4) = headS 5 83 [slot] from rfl] at CD
  cases hok : longOk [slot] with
  | true =>
    obtain ⟨d1, d2⟩ := headS_ok (limit := 5) (sign := 83) hok (by omega) (by simp)
    rw [d1, d2] at CD
    have CD := Lib.hid CD
    have HX := Lib.hid (show hdText 83 [slot] bytes = ⟨(beN (83 : Int).toNat 1 ++ longBs [slot]).toArray⟩ ++ bytes ∧ hdErr [slot] = 0 by rw [hdText, hdErr, hok]; exact ⟨rfl, rfl⟩)
    have hcat : ∀ w : World, (Op.stringOp .add (⟨(beN (83 : Int).toNat 1 ++ longBs [slot]).toArray⟩ : ByteArray) bytes).run Try.prog w = .ok (.string (⟨(beN (83 : Int).toNat 1 ++ longBs [slot]).toArray⟩ ++ bytes)) w := fun w => run_string_add_sum w _ _ (by
      have := HT.out
      have h4 : (⟨(beN (83 : Int).toNat 1 ++ longBs [slot]).toArray⟩ : ByteArray).size = 5 := by simp [ByteArray.size, beN_len, longBs]
      omega)
    generalize (⟨(beN (83 : Int).toNat 1 ++ longBs [slot]).toArray⟩ : ByteArray) = HD at *
    clear hok d1 d2
    go_wp2_with fail
    refine CD.out.mono ?_
    rintro r w4 ⟨rfl, b4⟩
    have B4 := Lib.hid (bthen B3.out b4)
    clear b4
    go_wp2_with fail
    go_ret2
    exact ⟨by rw [HX.out.1, HX.out.2]; rfl, B4.out⟩
  | false =>
    have hne := headS_bad (limit := 5) (sign := 83) hok
    have HX := Lib.hid (show hdText 83 [slot] bytes = ⟨#[]⟩ ∧ hdErr [slot] = 1 by rw [hdText, hdErr, hok]; exact ⟨rfl, rfl⟩)
    generalize doneS (headS 5 83 [slot]) = D at *
    generalize (headS 5 83 [slot]).err = E at *
    have CD := Lib.hid CD
    clear hok
    go_wp2_with fail
    refine CD.out.mono ?_
    rintro r w4 ⟨rfl, b4⟩
    have B4 := Lib.hid (bthen B3.out b4)
    clear b4
    go_wp2_with fail
    go_ret2
    exact ⟨by rw [HX.out.1, HX.out.2]; rfl, B4.out⟩
end Go.Proofs.Ytfhbjajhmegdmaa
