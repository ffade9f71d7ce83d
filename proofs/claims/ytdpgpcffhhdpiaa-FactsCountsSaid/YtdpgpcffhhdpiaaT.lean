/- A store as the laws use it; cut. -/
import Derived.Test.YtdpgpcffhhdpiaaR
namespace Go.Proofs.Ytdpgpcffhhdpiaa
open Go.RowKit Go.Maps
set_option linter.unusedVariables false
set_option linter.unusedSimpArgs false

/-- cut's number -/
def cutN (c : Int) (n : Nat) : Nat := ((if c < 0 then -(c + 1) else c) % ((n : Int) + 1)).toNat
theorem cutN_le (c : Int) (n : Nat) : cutN c n ≤ n := by
  unfold cutN
  have h := Int.emod_lt_of_pos (if c < 0 then -(c + 1) else c) (show (0 : Int) < (n : Int) + 1 by omega)
  have h2 := Int.emod_nonneg (if c < 0 then -(c + 1) else c) (show ((n : Int) + 1) ≠ 0 by omega)
  omega
theorem cut15 (c : Int) (hc : allInt c) (n : Nat) (hn : n < 4294967296) (w : World) : Calls Try.prog 15 #[.int .i64 c, .int .i64 (n : Int)] w fun e w' => e = .returned (.int .i64 (cutN c n : Int)) ∧ w = w' := by
  unfold allInt at hc
  have h2 := Int.emod_nonneg (if c < 0 then -(c + 1) else c) (show ((n : Int) + 1) ≠ 0 by omega)
  have hr : ((cutN c n : Nat) : Int) = (if c < 0 then -(c + 1) else c) % ((n : Int) + 1) := by unfold cutN; omega
  rw [hr]
  have HN := Lib.hid h2
  clear hr h2
  by_cases h : c < 0
  · rw [if_pos h]
    go_enter Try.func15, Try.ntmps15
    go_wp2
    go_ret
    exact ⟨ret_int (show -(c + 1).tmod ((n : Int) + 1) = -(c + 1) % ((n : Int) + 1) by rw [← Int.neg_tmod, Int.tmod_eq_emod_of_nonneg (by omega)]), rfl⟩
  · rw [if_neg h]
    go_enter Try.func15, Try.ntmps15
    go_wp2
    go_ret
    exact ⟨rfl, rfl⟩
/-- a store made behind w0, turned last in a world of A blocks -/
structure Sto (w0 : World) (A B : Nat) (w : World) (d m : Nat) (bs : List (List FactT)) : Prop where
  below : Below w0.heap.size w0 w
  le : A ≤ w.heap.size
  at_ : ∃ F : Nat → Prop, (∀ k, F k → w0.heap.size ≤ k ∧ k < A) ∧ BAt F B w d m bs
section
variable {w0 w w' : World} {A B d m : Nat} {bs : List (List FactT)}
theorem Sto.step (h : Sto w0 A B w d m bs) (hB : Below w.heap.size w w') : Sto w0 A B w' d m bs := by
  obtain ⟨h1, h2, F, h3, h4⟩ := h
  exact ⟨Below.call h1 hB, Nat.le_trans h2 hB.size, F, h3, h4.below hB⟩
/-- what lies below A may not turn; what lies above may -/
theorem Sto.over (h : Sto w0 A B w d m bs) (hw : w0.heap.size ≤ A) (hB : Below A w w') : Sto w0 A B w' d m bs := by
  obtain ⟨h1, h2, F, h3, h4⟩ := h
  exact ⟨h1.trans (hB.mono hw), Nat.le_trans h2 hB.size, F, h3, h4.turn (G := fun k => A ≤ k) ⟨hB.os, hB.tape, hB.output, hB.size, fun k hk hn => hB.block k (by omega)⟩ (fun k hk hg => by have := h3 k hk; omega)⟩
theorem Sto.start (h : BAt (fun k => w.heap.size ≤ k ∧ k < w'.heap.size) B w' d m bs) (hB : Below w.heap.size w w') : Sto w w'.heap.size B w' d m bs := ⟨hB, Nat.le_refl _, _, fun k hk => hk, h⟩
theorem appendS (h : Sto w0 A B w d m bs) (v : Value) (l : List FactT) (hr : FactsN A w v l) (hl : ∀ f ∈ l, shortF f) (hbd : (flat bs).length + 64 < 4294967296 ∧ bs.length + 1 < 4294967296) :
    Calls Try.prog 10 #[ptrV B, v] w fun e w' =>
      (checkE d m (valsI (flat bs)) l ≠ 0 ∧ e = .returned (.tuple #[.int .i64 0, .int .i64 (checkE d m (valsI (flat bs)) l)]) ∧ Below w.heap.size w w') ∨
      (checkE d m (valsI (flat bs)) l = 0 ∧ e = .returned (.tuple #[intV (bs.length + 1), .int .i64 0]) ∧ Turn (fun k => w0.heap.size ≤ k ∧ k < A) w w' ∧ Sto w0 w'.heap.size B w' d m (bs ++ [l])) := by
  obtain ⟨h1, h2, F, h3, h4⟩ := h
  refine (appendB h4 v l (hr.rowK (fun k hk _ => (h3 k hk).2)) hl (fun k hk => Nat.lt_of_lt_of_le (h3 k hk).2 h2) hbd).mono ?_
  rintro e w' hh
  rcases hh with hh | ⟨ha, hb, hc, hd⟩
  · exact .inl hh
  · refine .inr ⟨ha, hb, hc.mono (fun k _ hk => h3 k hk), ⟨h1.trans (hc.below h1.size (fun k hk hF => by have := h3 k hF; omega)), Nat.le_refl _, _, fun k hk => ?_, hd⟩⟩
    rcases hk with hk | hk
    · have := h3 k hk; exact ⟨this.1, Nat.lt_of_lt_of_le this.2 (Nat.le_trans h2 hc.size)⟩
    · exact ⟨Nat.le_trans h1.size hk.1, hk.2⟩
theorem lenS (h : Sto w0 A B w d m bs) : Calls Try.prog 16 #[ptrV B] w fun e w' => e = .returned (intV (flat bs).length) ∧ ∃ n, w' = w.drewN n := by
  obtain ⟨h1, h2, F, h3, h4⟩ := h; exact lenB h4
theorem segsS (h : Sto w0 A B w d m bs) (hl : (flat bs).length < 4294967296) : Calls Try.prog 17 #[ptrV B] w fun e w' => e = .returned (intV (((flat bs).length + 255) / 256)) ∧ ∃ n, w' = w.drewN n := by
  obtain ⟨h1, h2, F, h3, h4⟩ := h; exact segsB h4 hl
theorem seqS (h : Sto w0 A B w d m bs) : Calls Try.prog 21 #[ptrV B] w fun e w' => e = .returned (intV bs.length) ∧ w = w' := by
  obtain ⟨h1, h2, F, h3, h4⟩ := h; exact seqB h4
theorem scanS (h : Sto w0 A B w d m bs) (a b : Int) (ha : allInt a) (hb : allInt b) : Calls Try.prog 12 #[ptrV B, .int .i64 a, .int .i64 b] w fun e w' => ∃ v, e = .returned v ∧ Below w.heap.size w w' ∧ FactsN w.heap.size w' v (cutB bs a b) := by
  obtain ⟨h1, h2, F, h3, h4⟩ := h; exact scanB h4 a b ha hb
theorem sizeS (h : Sto w0 A B w d m bs) (a b : Int) (ha : allInt a) (hb : allInt b) : Calls Try.prog 14 #[ptrV B, .int .i64 a, .int .i64 b] w fun e w' => e = .returned (intV (cutB bs a b).length) ∧ Below w.heap.size w w' := by
  obtain ⟨h1, h2, F, h3, h4⟩ := h; exact sizeB h4 a b ha hb
theorem valuesS (h : Sto w0 A B w d m bs) (i : Int) (hi : allInt i) : Calls Try.prog 18 #[ptrV B, .int .i64 i] w fun e w' => e = .returned (intV (if 0 ≤ i ∧ i < d then (valsI (flat bs) i.toNat).length else 0)) ∧ Below w.heap.size w w' := by
  obtain ⟨h1, h2, F, h3, h4⟩ := h; exact valuesB h4 i hi
theorem matchS (h : Sto w0 A B w d m bs) (i : Int) (hi : allInt i) (s : ByteArray) (hs : s.size ≤ maxLen) (b : Int) (hb : allInt b) :
    Calls Try.prog 19 #[ptrV B, .int .i64 i, .string s, .int .i64 b] w fun e w' => e = .returned (intV (if 0 ≤ i ∧ i < d then cntF i.toNat s (cutB bs 0 b) else 0)) ∧ Below w.heap.size w w' := by
  obtain ⟨h1, h2, F, h3, h4⟩ := h; exact matchB h4 i hi s hs b hb
theorem newS (d m : Nat) (hd : 1 ≤ d ∧ d ≤ 6) (hm : 1 ≤ m ∧ m ≤ 4) (w : World) :
    Calls Try.prog 9 #[intV d, intV m] w fun e w' => e = .returned (.tuple #[ptrV w.heap.size, .int .i64 0]) ∧ Sto w w'.heap.size w.heap.size w' d m [] :=
  (newB d m hd hm w).mono fun e w' ⟨h1, h2, h3⟩ => ⟨h1, Sto.start h3 h2⟩
end
end Go.Proofs.Ytdpgpcffhhdpiaa
