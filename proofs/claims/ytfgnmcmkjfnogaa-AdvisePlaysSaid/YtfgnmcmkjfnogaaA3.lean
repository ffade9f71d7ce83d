/- What the reference reckons a view to gain; what a view takes up, by the program's closure. -/
import Derived.Test.YtfgnmcmkjfnogaaA2
namespace Go.Proofs.Ytfgnmcmkjfnogaa
open Go.RowKit
set_option linter.unusedVariables false
set_option linter.unusedSimpArgs false

theorem benStep14 (set : Int) (W C : List Int) (rows : Int) (k : Nat) (a b : Int) (hc : coversB set k = true) (ha : W.getD k 0 = a) (hb : C.getD k 0 = b)
    (hd : 0 < keepZ b 16777216 - keepZ rows 16777216) :
    wrap64 (benTo set W C rows k + wrap64 (keepZ a 64 * (keepZ b 16777216 - keepZ rows 16777216))) = benTo set W C rows (k + 1) := by
  have h0 := benTo_bd set W C rows k
  have h1 := benOne_bd set W C rows k
  have e : benOne set W C rows k = keepZ a 64 * (keepZ b 16777216 - keepZ rows 16777216) := by
    unfold benOne; rw [if_pos hc, ha, hb, if_neg (by omega)]
  simp only [benTo]
  rw [e] at h1 ⊢
  by_cases hk : (k : Int) < 100000
  · rw [w64 (x := keepZ a 64 * _) (by omega), w64 (by omega)]
  · have : isSetB (k : Int) = false := by simp [isSetB]; omega
    simp [coversB, this] at hc

theorem benSkip (set : Int) (W C : List Int) (rows : Int) (k : Nat) (b : Int) (hb : C.getD k 0 = b)
    (h : coversB set k = false ∨ ¬ 0 < keepZ b 16777216 - keepZ rows 16777216) : benTo set W C rows k = benTo set W C rows (k + 1) := by
  have e : benOne set W C rows k = 0 := by
    unfold benOne
    rcases h with h | h
    · rw [if_neg (by simp [h])]
    · split
      · rw [hb]
        split
        · simp
        · have : keepZ b 16777216 - keepZ rows 16777216 = 0 := by omega
          rw [this]; simp
      · rfl
  simp [benTo, e]

set_option maxHeartbeats 1000000 in
theorem benefit14 (set rows : Int) (W C : List Int) (w : World) (hW : W.length = 64) (hC : C.length = 64) :
    Calls Try.prog 14 #[.int .i64 set, .agg (ints W), .agg (ints C), .int .i64 rows] w fun e w' => e = .returned (.int .i64 (benTo set W C rows 64)) ∧ Below w.heap.size w w' := by
  have r5 := @keepZ_ge rows 16777216 (by omega)
  have r6 := @keepZ_le rows 16777216 (by omega)
  go_enter Try.func14, Try.ntmps14
  go_wp2
  go_loopw [9, 10, 11, 12] (fun s i _ _ wr => ∃ k : Nat, k ≤ 64 ∧ i = .int .i64 k ∧ s = .int .i64 (benTo set W C rows k) ∧ Below (w.heap.size + 2) ((w.alloc (Obj.cells (ints W) 22)).alloc (Obj.cells (ints C) 22)) wr) (fun _ i _ _ _ => 64 - (intOf i).toNat)
  case atStart => exact ⟨0, by omega, rfl, rfl, Below.refl _ _⟩
  case round =>
    obtain ⟨k, hk, rfl, rfl, hB⟩ := hrel
    have hsz : w.heap.size + 2 ≤ wr.heap.size := by have := hB.size; simp at this; omega
    by_cases hlt : k < 64
    · obtain ⟨a, ha, cW⟩ : ∃ a, Hid (W.getD k 0 = a) ∧ wr.cell? ⟨w.heap.size, k, none⟩ = some (.int .i64 a) := ⟨_, rfl, by
        rw [hB.cell (by simp), World.cell?_alloc_past _ _ _ (by simp), World.cell?_alloc_at _ _ _ _ rfl]
        simp [ints, hW, hlt]⟩
      obtain ⟨b, hb, cC⟩ : ∃ a, Hid (C.getD k 0 = a) ∧ wr.cell? ⟨w.heap.size + 1, k, none⟩ = some (.int .i64 a) := ⟨_, rfl, by
        rw [hB.cell (by simp), World.cell?_alloc_at _ _ _ _ (by simp)]
        simp [ints, hC, hlt]⟩
      have b5 := @keepZ_ge b 16777216 (by omega)
      have b6 := @keepZ_le b 16777216 (by omega)
      obtain ⟨c, hc⟩ : ∃ c, c = coversB set k := ⟨_, rfl⟩
      have HC' := Lib.hid hc; clear hc
      go_wp2_with fail
      refine (covers33 _ _ _).mono ?_
      rw [← HC'.out]
      rintro e w1 ⟨rfl, hB1⟩
      have cW1 : w1.cell? ⟨w.heap.size, k, none⟩ = some (.int .i64 a) := (hB1.cell (by show w.heap.size < wr.heap.size; omega)).trans cW
      have cC1 : w1.cell? ⟨w.heap.size + 1, k, none⟩ = some (.int .i64 b) := (hB1.cell (by show w.heap.size + 1 < wr.heap.size; omega)).trans cC
      have hB2 : Below (w.heap.size + 2) ((w.alloc (Obj.cells (ints W) 22)).alloc (Obj.cells (ints C) 22)) w1 := hB.trans (hB1.mono hsz)
      clear cW cC hB1
      by_cases hd : 0 < keepZ b 16777216 - keepZ rows 16777216
      · have hd' : decide (0 < keepZ b 16777216 - keepZ rows 16777216) = true := by simpa using hd
        cases c
        · go_wp2_with (go_at_call 31; refine (keep31 _ _ _).mono ?_; rintro e w' ⟨rfl, rfl⟩)
          go_roundw
          case rel => exact ⟨k + 1, by omega, by go_num, congrArg _ (benSkip set W C rows k b hb.out (.inl HC'.out.symm)), hB2⟩
          case measure => simp [intOf]; omega
        · go_wp2_with (go_at_call 31; refine (keep31 _ _ _).mono ?_; rintro e w' ⟨rfl, rfl⟩)
          go_roundw
          case rel => exact ⟨k + 1, by omega, by go_num, congrArg _ (benStep14 set W C rows k a b HC'.out.symm ha.out hb.out hd), hB2⟩
          case measure => simp [intOf]; omega
      · have hd' : decide (0 < keepZ b 16777216 - keepZ rows 16777216) = false := by simpa using hd
        cases c
        all_goals
          go_wp2_with (go_at_call 31; refine (keep31 _ _ _).mono ?_; rintro e w' ⟨rfl, rfl⟩)
          go_roundw
          case rel => exact ⟨k + 1, by omega, by go_num, congrArg _ (benSkip set W C rows k b hb.out (.inr (by omega))), hB2⟩
          case measure => simp [intOf]; omega
    · obtain rfl : k = 64 := by omega
      go_wp2
      go_ret
      exact ⟨rfl, (((Below.refl _ _).alloc (Nat.le_refl _) _).alloc (by simp) _).trans (hB.mono (by omega))⟩

/-- what a view takes up -/
def spaceZ (Y : List Int) (s : Nat) : Int := keepZ (Y.getD s 0) 67108864
theorem spaceZ_bd (Y : List Int) (s : Nat) : 0 ≤ spaceZ Y s ∧ spaceZ Y s ≤ 67108864 := ⟨keepZ_ge (by omega), keepZ_le (by omega)⟩

theorem space29 (Y : List Int) (s b : Nat) (w : World) (hs : s < 64) (hc : w.cell? ⟨b, s, none⟩ = some (.int .i64 (Y.getD s 0))) :
    Calls Try.prog 29 #[.int .i64 s, .pointer (some ⟨b, 0, none⟩)] w fun e w' => e = .returned (.int .i64 (spaceZ Y s)) ∧ w = w' := by
  unfold spaceZ
  generalize Y.getD s 0 = y at *
  go_enter Try.func29, Try.ntmps29
  go_wp2_with (go_at_call 28; refine (keep28 _ _ _ (by omega)).mono ?_; rintro e w' ⟨rfl, rfl⟩)
  go_ret
  exact ⟨rfl, rfl⟩

end Go.Proofs.Ytfgnmcmkjfnogaa
