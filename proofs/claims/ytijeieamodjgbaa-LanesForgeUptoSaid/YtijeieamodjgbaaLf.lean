
/- Lanes: what lies in a lane's row was sent, or is a bad one's and derivable; a lane with what was sent and what was seen beside it. -/
import Derived.Test.YtijeieamodjgbaaLg
import Derived.Test.YtijeieamodjgbaaWfp
import Derived.Test.YtijeieamodjgbaaNt

namespace Go.Proofs.Ytijeieamodjgbaa
set_option maxRecDepth 100000
open Go.RowKit Go.Deep
set_option linter.unusedVariables false
set_option linter.unusedSimpArgs false

/-- Each packet of the row was sent, or is of a bad node, fits, and each signature in it is a bad one's or was seen. -/
def ForgeI (bad : List Int) (sent row : List Pk) (book : List Sg) : Prop :=
  ∀ y ∈ row, (termsP y.m).length ≤ 1048576 ∧ ((∃ z ∈ sent, z.canon = y.canon) ∨ (hasB bad y.fr = true ∧ mgErr y.m = 0 ∧ derivP book bad (termsP y.m) = true))
theorem noteP_sub (more l : List Sg) : ∀ s ∈ l, s ∈ noteP l more := by
  induction more generalizing l with
  | nil => exact fun s h => h
  | cons x r ih =>
    intro s h
    have h2 : noteP l (x :: r) = noteP (if x ∈ l then l else l ++ [x]) r := rfl
    rw [h2]
    refine ih _ s ?_
    split
    · exact h
    · exact List.mem_append_left _ h
theorem sendB_sub (L : List Pk) (book : List Sg) : ∀ s ∈ book, s ∈ sendB book L := by
  induction L generalizing book with
  | nil => exact fun s h => h
  | cons y r ih =>
    intro s h
    have h2 : sendB book (y :: r) = sendB (noteP book (termsP y.m)) r := rfl
    rw [h2]
    exact ih _ s (noteP_sub _ _ s h)
theorem derivP_sub {l l' : List Sg} (h : ∀ s ∈ l, s ∈ l') (bad : List Int) (sigs : List Sg) (hd : derivP l bad sigs = true) : derivP l' bad sigs = true := by
  unfold derivP at *
  rw [List.all_eq_true] at *
  intro s hs
  have := hd s hs
  rw [Bool.or_eq_true, decide_eq_true_eq] at *
  rcases this with h1 | h1
  · exact .inl h1
  · exact .inr (h s h1)
section
variable {bad : List Int} {sent row : List Pk} {book : List Sg}
theorem ForgeI.sub {row' : List Pk} (h : ForgeI bad sent row book) (hs : ∀ y ∈ row', y ∈ row) : ForgeI bad sent row' book := fun y hy => h y (hs y hy)
theorem ForgeI.send (h : ForgeI bad sent row book) (L : List Pk) (hL : ∀ y ∈ L, (termsP y.m).length ≤ 1048576) : ForgeI bad (sent ++ L) (sendR row L) (sendB book L) := fun y hy => by
  unfold sendR at hy
  rcases List.mem_append.1 hy with hy | hy
  · rcases h y hy with ⟨h0, ⟨z, hz, he⟩ | ⟨h1, h2, h3⟩⟩
    · exact ⟨h0, .inl ⟨z, List.mem_append_left _ hz, he⟩⟩
    · exact ⟨h0, .inr ⟨h1, h2, derivP_sub (sendB_sub L book) bad _ h3⟩⟩
  · exact ⟨hL y (List.mem_of_mem_take hy), .inl ⟨y, List.mem_append_right _ (List.mem_of_mem_take hy), rfl⟩⟩
theorem ForgeI.take (h : ForgeI bad sent row book) (n : Int) : ForgeI bad sent (takeR row n) book := h.sub fun y hy => List.mem_of_mem_eraseIdx hy
theorem ForgeI.copy (h : ForgeI bad sent row book) (n : Int) : ForgeI bad sent (copyR row n) book := h.sub fun y hy => by
  unfold copyR at hy
  split at hy
  · rcases List.mem_append.1 hy with hy | hy
    · exact hy
    · rw [Option.mem_toList] at hy
      exact List.mem_of_getElem? hy
  · exact hy
theorem ForgeI.inject (h : ForgeI bad sent row book) (y : Pk) (hL : (termsP y.m).length ≤ 1048576) : ForgeI bad sent (injR bad row book y) book := fun z hz => by
  unfold injR at hz
  split at hz
  · rename_i he
    rcases List.mem_append.1 hz with hz | hz
    · exact h z hz
    · rw [List.mem_singleton] at hz
      subst hz
      unfold injE at he
      split at he
      · rename_i h1
        split at he
        · rename_i h2
          split at he
          · rename_i h3
            exact ⟨hL, .inr ⟨h1, h2, h3⟩⟩
          · exact absurd he (by decide)
        · exact absurd he (by decide)
      · exact absurd he (by decide)
  · exact h z hz
theorem takeV_mem (n : Int) (h : 0 < row.length) : takeV row n ∈ row := by
  unfold takeV
  rw [List.getElem?_eq_getElem (plc_lt h)]
  exact List.getElem_mem _
end
theorem err_fits {m : Mg} (h : mgErr m = 0) : fitR m = 0 := by
  rw [fitR_eq]
  unfold mgErr at h
  cases hk : kindB m with
  | false => rw [hk, if_pos rfl] at h; exact absurd h (by decide)
  | true =>
    cases hf : fitsP m with
    | false => rw [hk, hf, if_neg (by decide), if_pos rfl] at h; exact absurd h (by decide)
    | true => rfl
theorem sendB_len (L : List Pk) (book : List Sg) : (sendB book L).length ≤ book.length + sendN L := by
  induction L generalizing book with
  | nil => simp [sendB, sendN]
  | cons y r ih =>
    have h2 : sendB book (y :: r) = sendB (noteP book (termsP y.m)) r := rfl
    have h3 : sendN (y :: r) = (termsP y.m).length + sendN r := by simp [sendN]
    have := ih (noteP book (termsP y.m))
    have := noteP_len book (termsP y.m)
    rw [h2, h3]; omega
theorem rowOf_app {α : Type} {S : Sh α} {X : Nat → Prop} {w : World} : ∀ {l l' : List α} {xs xs' : List Value}, rowOf S X w l xs → rowOf S X w l' xs' → rowOf S X w (l ++ l') (xs ++ xs')
  | [], l', xs, xs', h, h' => by
    obtain rfl : xs = [] := h
    exact h'
  | y :: r, l', xs, xs', h, h' => by
    obtain ⟨cs, zs, rfl, h1, h2, h3⟩ := h
    exact ⟨cs, zs ++ xs', by rw [List.append_assoc], h1, h2, rowOf_app h3 h'⟩
theorem len_sz (L : List Pk) : L.length + 1 ≤ shPk.slice.sz L := by
  have h : shPk.slice.sz L = (L.map shPk.sz).sum + 1 := rfl
  have h2 : L.length ≤ (L.map shPk.sz).sum := by
    clear h
    induction L with
    | nil => simp
    | cons y r ih =>
      have h : shPk.sz y = 1 + (1 + shMsg.sz y.m) := rfl
      rw [List.map_cons, List.sum_cons, List.length_cons]; omega
  omega
theorem step_len (y : Stp) : y.l.length ≤ shStep.sz y := by
  have h : shStep.sz y = 1 + (1 + shPk.slice.sz y.l) := rfl
  have := len_sz y.l
  omega

/-- A lane, and beside it what was sent and what was seen, and boxes that stay. -/
def FS (w : World) (p : Nat) (bad : List Int) (row : List Pk) (book : List Sg) (N : Nat) (sent : List Pk) (seen : List Sg) (vs vn : Value) (bx : List (Nat × Obj)) (wr : World) : Prop :=
  ∃ M NB xs, (Ln w.heap.size M wr p bad row book NB ∧ NB ≤ N ∧ Below w.heap.size w wr) ∧
    (wr.ownsRow w.heap.size 56 19 vs sent.length xs ∧ (∀ k, vs.ownBlock = some k → ¬ M k) ∧ rowOf shPk (fun k => w.heap.size ≤ k) wr sent xs) ∧
    (wr.ownsRow w.heap.size 49 2 vn seen.length (flatV seen) ∧ (∀ k, vn.ownBlock = some k → ¬ M k ∧ vs.ownBlock ≠ some k) ∧ (∀ s ∈ seen, sgOk s)) ∧
    ∀ z ∈ bx, wr.heap[z.1]? = some z.2 ∧ ¬ M z.1 ∧ vs.ownBlock ≠ some z.1 ∧ vn.ownBlock ≠ some z.1
section
variable {w wr w' : World} {p : Nat} {bad : List Int} {row : List Pk} {book : List Sg} {N : Nat} {sent : List Pk} {seen : List Sg} {vs vn : Value} {bx : List (Nat × Obj)}
theorem FS.below (h : FS w p bad row book N sent seen vs vn bx wr) : Below w.heap.size w wr := by
  obtain ⟨M, NB, xs, ⟨h1, h2, h3⟩, h4, h5, h6⟩ := h
  exact h3
theorem heap_lt {w : World} {k : Nat} {o : Obj} (h : w.heap[k]? = some o) : k < w.heap.size := by
  rcases Nat.lt_or_ge k w.heap.size with h1 | h1
  · exact h1
  · rw [Array.getElem?_eq_none h1] at h; cases h
theorem FS.lane {M M' : Nat → Prop} {NB NB' N' : Nat} {xs : List Value} {row' : List Pk} {book' : List Sg} (h1 : Ln w.heap.size M wr p bad row book NB) (h3 : Below w.heap.size w wr)
    (h4 : wr.ownsRow w.heap.size 56 19 vs sent.length xs ∧ (∀ k, vs.ownBlock = some k → ¬ M k) ∧ rowOf shPk (fun k => w.heap.size ≤ k) wr sent xs)
    (h5 : wr.ownsRow w.heap.size 49 2 vn seen.length (flatV seen) ∧ (∀ k, vn.ownBlock = some k → ¬ M k ∧ vs.ownBlock ≠ some k) ∧ (∀ s ∈ seen, sgOk s))
    (hx : ∀ z ∈ bx, wr.heap[z.1]? = some z.2 ∧ ¬ M z.1 ∧ vs.ownBlock ≠ some z.1 ∧ vn.ownBlock ≠ some z.1)
    (hk : Keep M wr w') (hM : ∀ k, M' k → M k ∨ wr.heap.size ≤ k) (hL : Ln w.heap.size M' w' p bad row' book' NB') (hN : NB' ≤ N') : FS w p bad row' book' N' sent seen vs vn bx w' := by
  obtain ⟨h6, h7, h8⟩ := h4
  obtain ⟨h9, h10, h11⟩ := h5
  exact ⟨M', NB', xs, ⟨hL, hN, hk.below h3 h1.ge⟩, ⟨owns_keep h6 hk h7, fun k hv hm => (hM k hm).elim (h7 k hv) (fun h => by have := (h6.lt k hv).2; omega), h8.step hk (fun k _ hm => h1.ge k hm) (fun _ _ h => h)⟩,
    ⟨owns_keep h9 hk (fun k hv => (h10 k hv).1), fun k hv => ⟨fun hm => (hM k hm).elim (h10 k hv).1 (fun h => by have := (h9.lt k hv).2; omega), (h10 k hv).2⟩, h11⟩,
    fun z hz => by
      obtain ⟨g1, g2, g3⟩ := hx z hz
      exact ⟨(hk.block _ (heap_lt g1) g2).trans g1, fun hm => (hM _ hm).elim g2 (fun h => by have := heap_lt g1; omega), g3⟩⟩
theorem FS.old (h : FS w p bad row book N sent seen vs vn bx wr) (hb : Below wr.heap.size wr w') : FS w p bad row book N sent seen vs vn bx w' := by
  obtain ⟨M, NB, xs, ⟨h1, h2, h3⟩, h4, h5, h6⟩ := h
  exact FS.lane h1 h3 h4 h5 h6 (Keep.of_below hb) (fun k hk => .inl hk) (h1.old hb) h2
theorem FS.mono {N' : Nat} (h : FS w p bad row book N sent seen vs vn bx wr) (hN : N ≤ N') : FS w p bad row book N' sent seen vs vn bx wr := by
  obtain ⟨M, NB, xs, ⟨h1, h2, h3⟩, h4, h5, h6⟩ := h
  exact ⟨M, NB, xs, ⟨h1, by omega, h3⟩, h4, h5, h6⟩
theorem FS.nobox (h : FS w p bad row book N sent seen vs vn bx wr) : FS w p bad row book N sent seen vs vn [] wr := by
  obtain ⟨M, NB, xs, h1, h4, h5, h6⟩ := h
  exact ⟨M, NB, xs, h1, h4, h5, fun z hz => by cases hz⟩
/-- A box that is younger than all that. -/
theorem FS.box (h : FS w p bad row book N sent seen vs vn [] wr) (hb : Below wr.heap.size wr w') {q : Nat} {o : Obj} (hq : wr.heap.size ≤ q) (ho : w'.heap[q]? = some o) : FS w p bad row book N sent seen vs vn [(q, o)] w' := by
  obtain ⟨M, NB, xs, ⟨h1, h2, h3⟩, h4, h5, h6⟩ := h
  obtain ⟨M', NB', xs', ⟨g1, g2, g3⟩, g4, g5, g6⟩ := FS.lane h1 h3 h4 h5 h6 (Keep.of_below hb) (M' := M) (fun k hk => .inl hk) (h1.old hb) h2
  refine ⟨M, NB, xs, ⟨h1.old hb, h2, g3⟩, ⟨owns_old h4.1 hb, h4.2.1, h4.2.2.step (Y := fun _ => False) (Keep.of_below hb) (fun _ _ h => h.elim) (fun _ _ h => h)⟩, ⟨owns_old h5.1 hb, h5.2⟩, fun z hz => ?_⟩
  obtain rfl := List.mem_singleton.1 hz
  exact ⟨ho, fun hm => by have := h1.lt _ hm; omega, fun hv => by have := (h4.1.lt _ hv).2; omega, fun hv => by have := (h5.1.lt _ hv).2; omega⟩
theorem FS.at {q : Nat} {o : Obj} (h : FS w p bad row book N sent seen vs vn [(q, o)] wr) : wr.heap[q]? = some o := by
  obtain ⟨M, NB, xs, h1, h4, h5, h6⟩ := h
  exact (h6 _ (List.mem_singleton.2 rfl)).1
theorem FS.of (h : LS w p bad row book N wr) : FS w p bad row book N [] [] (.slice none 0 0) (.slice none 0 0) [] wr := by
  obtain ⟨M, NB, h1, h2, h3⟩ := h
  exact ⟨M, NB, [], ⟨h1, h2, h3⟩, ⟨World.ownsRow_nil _ _ _ _, fun k hk => (by cases hk), rfl⟩, ⟨World.ownsRow_nil _ _ _ _, fun k hk => (by cases hk), fun s hs => by cases hs⟩, fun z hz => by cases hz⟩
theorem FS.send (h : FS w p bad row book N sent seen vs vn bx wr) {a : Option Addr} {n c : Nat} {L : List Pk} (hs : SlAt shPk w a n c L) (hT : ∀ y ∈ L, (termsP y.m).length * 24 ≤ 140737488355328) (hN : N + sendN L < 4611686018427387904) :
    Calls Try.prog 23 #[.pointer (some ⟨p, 0, none⟩), .slice a n c] wr fun r w' => r = .returned (.tuple #[]) ∧ FS w p bad (sendR row L) (sendB book L) (N + sendN L) sent seen vs vn bx w' := by
  obtain ⟨M, NB, xs, ⟨h1, h2, h3⟩, h4, h5, hx⟩ := h
  refine (lanesend_any w.heap.size M p bad row book NB a n c L wr h1 h3.size (pks_in h3 h1.ge hs) hT (by omega)).mono ?_
  rintro r w' ⟨h6, hk, M', hM1, hM2, hL⟩
  exact ⟨h6, FS.lane h1 h3 h4 h5 hx hk hM2 hL (by omega)⟩
theorem FS.drop (h : FS w p bad row book N sent seen vs vn bx wr) {n : Int} (hn : i64 n) :
    Calls Try.prog 31 #[.pointer (some ⟨p, 0, none⟩), .int .i64 n] wr fun r w' => r = .returned (.bool (decide (0 < row.length))) ∧ FS w p bad (takeR row n) book N sent seen vs vn bx w' := by
  obtain ⟨M, NB, xs, ⟨h1, h2, h3⟩, h4, h5, hx⟩ := h
  refine (lanedrop_any w.heap.size M p bad row book NB n wr h1 hn h3.size).mono ?_
  rintro r w' ⟨h6, hk, M', hM1, hM2, hL⟩
  exact ⟨h6, FS.lane h1 h3 h4 h5 hx hk hM2 hL h2⟩
theorem FS.copy (h : FS w p bad row book N sent seen vs vn bx wr) {n : Int} (hn : i64 n) :
    Calls Try.prog 24 #[.pointer (some ⟨p, 0, none⟩), .int .i64 n] wr fun r w' => r = .returned (.bool (decide (0 < row.length) && decide (row.length < 4096))) ∧ FS w p bad (copyR row n) book N sent seen vs vn bx w' := by
  obtain ⟨M, NB, xs, ⟨h1, h2, h3⟩, h4, h5, hx⟩ := h
  refine (lanecopy_any w.heap.size M p bad row book NB n wr h1 hn h3.size).mono ?_
  rintro r w' ⟨h6, hk, M', hM1, hM2, hL⟩
  exact ⟨h6, FS.lane h1 h3 h4 h5 hx hk hM2 hL h2⟩
theorem FS.inject (h : FS w p bad row book N sent seen vs vn bx wr) {y : Pk} {cs : List Value} (hE : shPk.E w y cs) (hT : (termsP y.m).length * 24 ≤ 140737488355328) (hN : N < 4611686018427387904) :
    Calls Try.prog 29 #[.pointer (some ⟨p, 0, none⟩), .agg cs.toArray] wr fun r w' => r = .returned (.int .i64 (injE bad row book y)) ∧ FS w p bad (injR bad row book y) book N sent seen vs vn bx w' := by
  obtain ⟨M, NB, xs, ⟨h1, h2, h3⟩, h4, h5, hx⟩ := h
  refine (laneinject_any w.heap.size M p bad row book NB y cs wr h1 h3.size (rob_old (w := w) (fun w' hb' => shPk.old hE hb') (Keep.of_below h3) (fun k hk => hk)) hT (by omega)).mono ?_
  rintro r w' ⟨h6, hk, M', hM1, hM2, hL⟩
  exact ⟨h6, FS.lane h1 h3 h4 h5 hx hk hM2 hL h2⟩
theorem FS.take (h : FS w p bad row book N sent seen vs vn bx wr) {n : Int} (hn : i64 n) :
    Calls Try.prog 25 #[.pointer (some ⟨p, 0, none⟩), .int .i64 n] wr fun r w' => (∃ cs : List Value, r = .returned (.tuple #[.agg cs.toArray, .bool (decide (0 < row.length))]) ∧ cs.length = 19 ∧ cs.toArray.all (·.oneCell') = true ∧ Rob (fun k => w.heap.size ≤ k) (fun w' => shPk.E w' (takeV row n) cs) w') ∧ FS w p bad (takeR row n) book N sent seen vs vn bx w' := by
  obtain ⟨M, NB, xs, ⟨h1, h2, h3⟩, h4, h5, hx⟩ := h
  refine (lanetake_any w.heap.size M p bad row book NB n wr h1 hn h3.size).mono ?_
  rintro r w' ⟨hk, M', hM1, hM2, hr⟩
  cases hy : row[plc n row.length]? with
  | none =>
    rw [hy] at hr
    obtain ⟨h6, h7⟩ := hr
    have h0 : row = [] := by
      rcases Nat.eq_zero_or_pos row.length with h0 | h0
      · exact List.eq_nil_of_length_eq_zero h0
      · rw [List.getElem?_eq_getElem (plc_lt h0)] at hy; cases hy
    subst h0
    exact ⟨⟨zeroPk, h6, rfl, by simp [zeroPk, Value.oneCell'], fun w' _ => pkZ_E w'⟩, FS.lane h1 h3 h4 h5 hx hk hM2 h7 h2⟩
  | some y =>
    rw [hy] at hr
    obtain ⟨⟨cs, h6, h8⟩, h7⟩ := hr
    have hl : decide (0 < row.length) = true := by
      have := (List.getElem?_eq_some_iff.1 hy).1
      simp; omega
    have hv : takeV row n = y := by unfold takeV; rw [hy]; rfl
    exact ⟨⟨cs, by rw [hl]; exact h6, shPk.len h8.self, all_oneCell_toArray (pk_one h8.self), by rw [hv]; exact h8⟩, FS.lane h1 h3 h4 h5 hx hk hM2 h7 h2⟩
/-- What was sent, as a slice. -/
theorem FS.sentAt (h : FS w p bad row book N sent seen vs vn bx wr) (hw : sent.length ≤ 1048576) : ∃ a c, vs = .slice a sent.length c ∧ SlAt shPk wr a sent.length c sent := by
  obtain ⟨M, NB, xs, h1, ⟨h3, h4, h5⟩, h6, hx⟩ := h
  obtain ⟨a, c, rfl⟩ := owns_form h3
  exact ⟨a, c, rfl, sl_of_row h3 h5 (by show sent.length * 232 ≤ _; omega)⟩
/-- What was seen, as a slice. -/
theorem FS.seenAt (h : FS w p bad row book N sent seen vs vn bx wr) (hw : seen.length ≤ 1048576) : ∃ a c, vn = .slice a seen.length c ∧ SlAt shSig wr a seen.length c seen := by
  obtain ⟨M, NB, xs, h1, h2, ⟨h3, h4, h5⟩, hx⟩ := h
  obtain ⟨a, c, rfl⟩ := owns_form h3
  exact ⟨a, c, rfl, sl_owned h3 h5 (by omega)⟩
theorem FS.seen_lt (h : FS w p bad row book N sent seen vs vn bx wr) (q : Nat) (hq : vn.ownBlock = some q) : q < wr.heap.size := by
  obtain ⟨M, NB, xs, h1, h2, ⟨h3, h4, h5⟩, hx⟩ := h
  exact (h3.lt q hq).2
/-- More is sent. -/
theorem FS.grow {xs : List Value} {M : Nat → Prop} {NB : Nat} {v' : Value} {xs' : List Value} {sent' : List Pk} (h1 : Ln w.heap.size M wr p bad row book NB ∧ NB ≤ N ∧ Below w.heap.size w wr)
    (h4 : wr.ownsRow w.heap.size 56 19 vs sent.length xs ∧ (∀ k, vs.ownBlock = some k → ¬ M k) ∧ rowOf shPk (fun k => w.heap.size ≤ k) wr sent xs)
    (h5 : wr.ownsRow w.heap.size 49 2 vn seen.length (flatV seen) ∧ (∀ k, vn.ownBlock = some k → ¬ M k ∧ vs.ownBlock ≠ some k) ∧ (∀ s ∈ seen, sgOk s))
    (hx : ∀ z ∈ bx, wr.heap[z.1]? = some z.2 ∧ ¬ M z.1 ∧ vs.ownBlock ≠ some z.1 ∧ vn.ownBlock ≠ some z.1)
    (hg : wr.grownBy w' vs.ownBlock) (ho : w'.ownsRow w.heap.size 56 19 v' sent'.length xs') (hor : v'.ownBlock = vs.ownBlock ∨ v'.ownBlock = some wr.heap.size) (hr : rowOf shPk (fun k => w.heap.size ≤ k) wr sent' xs') : FS w p bad row book N sent' seen v' vn bx w' := by
  obtain ⟨h1, h2, h3⟩ := h1
  obtain ⟨h6, h7, h8⟩ := h4
  obtain ⟨h9, h10, h11⟩ := h5
  have K : Keep (fun k => vs.ownBlock = some k) wr w' := (Keep.refl _ wr).grown hg (fun k hk => .inr hk)
  have hW : ∀ k, vs.ownBlock = some k → w.heap.size ≤ k := fun k hk => (h6.lt k hk).1
  refine ⟨M, NB, xs', ⟨h1.keep K (fun k hk => ⟨h7 k hk, hW k hk⟩), h2, K.below h3 hW⟩, ⟨ho, fun k hk hm => ?_, hr.step K (fun k _ hk => hW k hk) (fun _ _ h => h)⟩, ⟨owns_keep h9 K (fun k hk => (h10 k hk).2), fun k hk => ⟨(h10 k hk).1, fun hv => ?_⟩, h11⟩, fun z hz => ?_⟩
  · rcases hor with h | h
    · exact h7 k (by rw [← h]; exact hk) hm
    · rw [h] at hk
      injection hk with hk
      have := h1.lt k hm
      omega
  · rcases hor with h | h
    · exact (h10 k hk).2 (by rw [← h]; exact hv)
    · rw [h] at hv
      injection hv with hv
      have := (h9.lt k hk).2
      omega
  · obtain ⟨g1, g2, g3, g4⟩ := hx z hz
    refine ⟨(K.block _ (heap_lt g1) g3).trans g1, g2, fun hv => ?_, g4⟩
    rcases hor with h | h
    · exact g3 (by rw [← h]; exact hv)
    · rw [h] at hv
      injection hv with hv
      have := heap_lt g1
      omega
/-- More is seen. -/
theorem FS.noted (h : FS w p bad row book N sent seen vs vn bx wr) {a : Option Addr} {n c : Nat} {more : List Sg} {B : Nat} (ho : wr.ownsRow B 49 2 (.slice a n c) more.length (flatV more)) (hB : ∀ k, (Value.slice a n c).ownBlock = some k → vn.ownBlock ≠ some k) (hm : ∀ s ∈ more, sgOk s) (hN : seen.length + more.length ≤ 1048576) :
    Calls Try.prog 32 #[vn, .slice a n c] wr fun r w' => ∃ v', r = .returned v' ∧ FS w p bad row book N sent (noteP seen more) vs v' bx w' := by
  obtain ⟨M, NB, xs, ⟨h1, h2, h3⟩, ⟨h6, h7, h8⟩, ⟨h9, h10, h11⟩, hx⟩ := h
  have hn : n = more.length := by
    obtain ⟨a', c', he⟩ := owns_form ho
    injection he
  subst hn
  refine (rnoted_any w.heap.size vn seen a more.length c more wr h9 h11 h3.size (fun w' hk => sl_owned (owns_keep ho hk (fun k hk => hB k hk)) hm (by omega)) (by omega)).mono ?_
  rintro r w' ⟨v', rfl, ho', hor, K⟩
  have hW : ∀ k, vn.ownBlock = some k → w.heap.size ≤ k := fun k hk => (h9.lt k hk).1
  refine ⟨v', rfl, M, NB, xs, ⟨h1.keep K (fun k hk => ⟨(h10 k hk).1, hW k hk⟩), h2, K.below h3 hW⟩, ⟨owns_keep h6 K (fun k hk hv => (h10 k hv).2 hk), h7, h8.step K (fun k _ hk => hW k hk) (fun _ _ h => h)⟩, ⟨ho', fun k hk => ?_, noteP_ok h11 hm⟩, fun z hz => ?_⟩
  · rcases hor with h | ⟨g, h, hg⟩
    · exact h10 k (by rw [← h]; exact hk)
    · rw [h] at hk
      injection hk with hk
      refine ⟨fun hm => by have := h1.lt k hm; omega, fun hv => by have := (h6.lt k hv).2; omega⟩
  · obtain ⟨g1, g2, g3, g4⟩ := hx z hz
    refine ⟨(K.block _ (heap_lt g1) g4).trans g1, g2, g3, fun hv => ?_⟩
    rcases hor with h | ⟨g, h, hg⟩
    · exact g4 (by rw [← h]; exact hv)
    · rw [h] at hv
      injection hv with hv
      have := heap_lt g1
      omega
end
end Go.Proofs.Ytijeieamodjgbaa
