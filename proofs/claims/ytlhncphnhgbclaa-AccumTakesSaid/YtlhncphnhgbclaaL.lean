/- What is awake: the chapter's examples. -/
import Derived.Test.YtlhncphnhgbclaaK
namespace Go.Proofs.Ytlhncphnhgbclaa
open Go.RowKit
set_option linter.unusedVariables false
set_option linter.unusedSimpArgs false

theorem RowP.al {w : World} {v : Value} {ps : List Prt} (h : RowP w.heap.size w v ps) (o : Obj) : RowP (w.alloc o).heap.size (w.alloc o) v ps := Row.mono h (Below.al (Below.refl _ _) _) (by simp)
theorem owns_som {w : World} {base : Nat} {e : TypeId} {size : Nat} {v : Value} {n : Nat} {xs : List Value} (h : w.ownsRow base e size v n xs) : Som v n := by
  rcases h.2 with ⟨rfl, rfl⟩ | ⟨g, cap, cur, rfl, _⟩
  · exact .inl rfl
  · exact .inr ⟨_, cap, rfl⟩
theorem one_in (x : Int) (h : -9223372036854775808 ≤ x ∧ x ≤ 9223372036854775807) : ∀ i, i < [x].length → -9223372036854775808 ≤ [x].getD i 0 ∧ [x].getD i 0 ≤ 9223372036854775807 := by
  intro i hi
  have : i = 0 := by simpa using hi
  subst this
  exact h
theorem rowI_one (w : World) (x : Int) : RowI (w.alloc (Obj.cells #[.int .i64 x] 2)).heap.size (w.alloc (Obj.cells #[.int .i64 x] 2)) (.slice (some ⟨w.heap.size, 0, none⟩) 1 1) [x] :=
  RowI.of_blk (l := [x]) (T := 2) (Blk.new w 2 _) rfl (by decide)
theorem lits1 : sumV 5 = .agg #[.int .i64 0, .int .u64 5] := by kernel_rfl
theorem lits2 : sumV (w128 (5 + -7)) = .agg #[.int .i64 (-1), .int .u64 18446744073709551614] := by kernel_rfl
theorem lits3 : sumV 9223372036854775807 = .agg #[.int .i64 0, .int .u64 9223372036854775807] := by kernel_rfl
theorem lits4 : sumV (w128 (9223372036854775807 + 9223372036854775807)) = .agg #[.int .i64 0, .int .u64 18446744073709551614] := by kernel_rfl
theorem litp : takeL (takeL [zeroP] [5]) [-3] = [⟨true, 2, -3, 5⟩] := by kernel_rfl
theorem littx : txt (w128 (9223372036854775807 + 9223372036854775807)) = [49, 56, 52, 52, 54, 55, 52, 52, 48, 55, 51, 55, 48, 57, 53, 53, 49, 54, 49, 52] := by decide +kernel

set_option maxRecDepth 100000 in
set_option maxHeartbeats 8000000 in
theorem awake10 (w : World) : Calls Try.prog 10 #[] w fun e w' => e = .returned (.bool true) ∧ Below w.heap.size w w' := by
  have e15 := fun w => add15 5 (-7) w (by omega)
  have e11a := fun w => value11 (w128 (5 + -7)) w (w128_in _)
  have e13 := fun w => plus13 9223372036854775807 9223372036854775807 w
  have e11b := fun w => value11 (w128 (9223372036854775807 + 9223372036854775807)) w (w128_in _)
  have e19 := fun w => text19 (w128 (9223372036854775807 + 9223372036854775807)) w (w128_in _)
  rw [lits1, lits2] at e15
  rw [lits2] at e11a
  rw [lits3, lits4] at e13
  rw [lits4] at e11b e19
  rw [littx] at e19
  rw [show fitN (w128 (5 + -7)) = -2 from by decide, show fitB (w128 (5 + -7)) = true from by decide] at e11a
  rw [show fitN (w128 (9223372036854775807 + 9223372036854775807)) = 0 from by decide, show fitB (w128 (9223372036854775807 + 9223372036854775807)) = false from by decide] at e11b
  go_enter Try.func10, Try.ntmps10
  go_wp2_with fail
  refine (new21 1 1 _ (by decide) (by omega)).mono ?_
  rintro e w1 ⟨v0, rfl, hown0, hB1⟩
  have hr0 : RowP (w1.alloc (Obj.cells #[.int .i64 5] 2)).heap.size (w1.alloc (Obj.cells #[.int .i64 5] 2)) v0 [zeroP] := Row.mono (Row.of_owns hown0) (Below.al (Below.refl _ _) _) (by simp)
  have hs0 : Som v0 [zeroP].length := owns_som hown0
  clear hown0
  go_wp2_with fail
  refine (take27 [zeroP] [5] 0 v0 _ _ hr0 hs0 (rowI_one w1 5) (by simp) (one_in 5 (by omega))).mono ?_
  rintro e w2 ⟨v1, rfl, hown1, hB2⟩
  have hB3 := Below.call (Below.al hB1 (Obj.cells #[.int .i64 5] 2)) hB2
  have hl1 : (takeL [zeroP] [5]).length = 1 := takeL_len _ _
  have hr1 : RowP (w2.alloc (Obj.cells #[.int .i64 (-3)] 2)).heap.size (w2.alloc (Obj.cells #[.int .i64 (-3)] 2)) v1 (takeL [zeroP] [5]) := Row.mono (Row.of_owns hown1) (Below.al (Below.refl _ _) _) (by simp)
  have hs1 : Som v1 (takeL [zeroP] [5]).length := owns_som hown1
  clear hown1 hB2 hB1 hr0 hs0
  go_wp2_with fail
  refine (take27 (takeL [zeroP] [5]) [-3] _ v1 _ _ hr1 hs1 (rowI_one w2 (-3)) (by rw [hl1]; omega) (one_in (-3) (by omega))).mono ?_
  rintro e w3 ⟨v2, rfl, hown2, hB4⟩
  have hB5 := Below.call (Below.al hB3 (Obj.cells #[.int .i64 (-3)] 2)) hB4
  rw [litp, hl1] at hown2
  have hr2 : RowP w3.heap.size w3 v2 [⟨true, 2, -3, 5⟩] := Row.of_owns hown2
  clear hown2 hB4 hB3 hr1 hs1 hl1
  rw [show wrap64 (wrap64 1 + 1) = 2 from by kernel_rfl]
  obtain ⟨a2, c2, rfl, hc2, hm2, hcc⟩ := hr2.open
  obtain ⟨g, off, rfl, hg, hcells⟩ := hcc (by decide)
  go_upto_region 2 with (fail)
  have hb1 : Blk (w3.alloc (Obj.cells #[.int .i64 2, .slice (some ⟨g, off, none⟩) [(⟨true, 2, -3, 5⟩ : Prt)].length c2] 39)) w3.heap.size 39 #[.int .i64 2, .slice (some ⟨g, off, none⟩) [(⟨true, 2, -3, 5⟩ : Prt)].length c2] := Blk.newAt _ _ _ rfl
  have hB6 := Below.al hB5 (Obj.cells #[.int .i64 2, .slice (some ⟨g, off, none⟩) [(⟨true, 2, -3, 5⟩ : Prt)].length c2] 39)
  have hr3 := RowP.al hr2 (Obj.cells #[.int .i64 2, .slice (some ⟨g, off, none⟩) [(⟨true, 2, -3, 5⟩ : Prt)].length c2] 39)
  have hl3 : [(⟨true, 2, -3, 5⟩ : Prt)].length = 1 := rfl
  have hm1 : w3.heap.size < (w3.alloc (Obj.cells #[.int .i64 2, .slice (some ⟨g, off, none⟩) [(⟨true, 2, -3, 5⟩ : Prt)].length c2] 39)).heap.size := by simp
  rw [hl3] at hb1 hB6 hr3 hm1
  obtain ⟨bt, hbt⟩ : ∃ b, b = w3.heap.size := ⟨_, rfl⟩
  rw [← hbt] at hb1 hm1 ⊢
  generalize w3.alloc (Obj.cells #[.int .i64 2, .slice (some ⟨g, off, none⟩) 1 c2] 39) = wa at *
  clear hbt hr2 hcells hcc hB5 hc2 hl3
  go_wp2_with fail
  refine (e15 _).mono ?_
  rintro e w4 ⟨rfl, hB7⟩
  go_wp2_with fail
  refine (e11a _).mono ?_
  rintro e w5 ⟨rfl, hB8⟩
  have hb3 := Blk.below (Blk.below hb1 hB7 hm1) hB8 (Nat.lt_of_lt_of_le hm1 hB7.size)
  have hr5 := Row.mono (Row.mono hr3 hB7 hB7.size) hB8 hB8.size
  have hB9 := Below.call (Below.call hB6 hB7) hB8
  clear hb1 hr3 hB6 hB7 hB8 hm1
  go_wp2_with fail
  refine (e13 _).mono ?_
  rintro e w6 ⟨rfl, hB10⟩
  have hb4 := Blk.below hb3 hB10 (Blk.lt hb3)
  have hr6 := Row.mono hr5 hB10 hB10.size
  have hB11 := Below.call hB9 hB10
  clear hb3 hr5 hB9 hB10
  go_upto_region 4 with (fail)
  have hb5 : Blk (w6.alloc (Obj.cells #[.int .i64 0, .int .u64 18446744073709551614] 24)) w6.heap.size 24 #[.int .i64 0, .int .u64 18446744073709551614] := Blk.newAt _ _ _ rfl
  have hb6 := Blk.alloc hb4 (Obj.cells #[.int .i64 0, .int .u64 18446744073709551614] 24)
  have hB12 := Below.al hB11 (Obj.cells #[.int .i64 0, .int .u64 18446744073709551614] 24)
  have hr7 := RowP.al (ps := [⟨true, 2, -3, 5⟩]) hr6 (Obj.cells #[.int .i64 0, .int .u64 18446744073709551614] 24)
  obtain ⟨bq, hbq⟩ : ∃ b, b = w6.heap.size := ⟨_, rfl⟩
  rw [← hbq] at hb5 ⊢
  generalize w6.alloc (Obj.cells #[.int .i64 0, .int .u64 18446744073709551614] 24) = wb at *
  clear hbq hb4 hr6 hB11
  have y0 : wb.cell? ⟨bq, 0, none⟩ = some (.int .i64 0) := Blk.cell hb5 0
  have y1 : wb.cell? ⟨bq, 1, none⟩ = some (.int .u64 18446744073709551614) := Blk.cell hb5 1
  go_wp2_with fail
  refine (e11b _).mono ?_
  rintro e w7 ⟨rfl, hB13⟩
  have hb7 := Blk.below hb6 hB13 (Blk.lt hb6)
  have hb8 := Blk.below hb5 hB13 (Blk.lt hb5)
  have hr8 : RowP w7.heap.size w7 (.slice (some ⟨g, off, none⟩) 1 c2) [⟨true, 2, -3, 5⟩] := Row.mono hr7 hB13 hB13.size
  have hB14 := Below.call hB12 hB13
  clear hb6 hb5 hr7 hB12 hB13 y0 y1
  obtain ⟨a9, c9, hv9, -, -, hcc⟩ := hr8.open
  injection hv9 with v1e v2e v3e
  clear v2e v3e
  obtain ⟨g9, off9, h9, hg9, hcells⟩ := hcc (by decide)
  rw [← v1e] at h9
  injection h9 with h9
  injection h9 with g1e g2e g3e
  subst g1e g2e
  clear v1e g3e hcc
  have x0 : w7.cell? ⟨bt, 0, none⟩ = some (.int .i64 2) := Blk.cell hb7 0
  have x1 : w7.cell? ⟨bt, 1, none⟩ = some (.slice (some ⟨g, off, none⟩) 1 c2) := Blk.cell hb7 1
  have y0 : w7.cell? ⟨bq, 0, none⟩ = some (.int .i64 0) := Blk.cell hb8 0
  have y1 : w7.cell? ⟨bq, 1, none⟩ = some (.int .u64 18446744073709551614) := Blk.cell hb8 1
  have z0 : w7.cell? ⟨g, off, none⟩ = some (.bool true) := by have := hcells 0 0 (by decide) (by decide); exact this
  have z1 : w7.cell? ⟨g, off + 1, none⟩ = some (.int .i64 0) := by have := hcells 0 1 (by decide) (by decide); rw [Nat.zero_mul, Nat.add_zero] at this; exact this
  have z2 : w7.cell? ⟨g, off + 2, none⟩ = some (.int .u64 2) := by have := hcells 0 2 (by decide) (by decide); rw [Nat.zero_mul, Nat.add_zero] at this; exact this
  have z3 : w7.cell? ⟨g, off + 3, none⟩ = some (.int .i64 (-3)) := by have := hcells 0 3 (by decide) (by decide); rw [Nat.zero_mul, Nat.add_zero] at this; exact this
  have z4 : w7.cell? ⟨g, off + 4, none⟩ = some (.int .i64 5) := by have := hcells 0 4 (by decide) (by decide); rw [Nat.zero_mul, Nat.add_zero] at this; exact this
  clear hcells
  go_wp2_with fail
  refine (e19 _).mono ?_
  rintro e w8 ⟨rfl, hB15⟩
  have hbA := Blk.below hb7 hB15 (Blk.lt hb7)
  have hrA : RowP w8.heap.size w8 (.slice (some ⟨g, off, none⟩) 1 c2) [⟨true, 2, -3, 5⟩] := Row.mono hr8 hB15 hB15.size
  have hB16 := Below.call hB14 hB15
  clear hb7 hb8 hr8 hB14 hB15 x0 x1 y0 y1 z0 z1 z2 z3 z4
  have x0 : w8.cell? ⟨bt, 0, none⟩ = some (.int .i64 2) := Blk.cell hbA 0
  have x1 : w8.cell? ⟨bt, 1, none⟩ = some (.slice (some ⟨g, off, none⟩) 1 c2) := Blk.cell hbA 1
  go_wp2_with fail
  refine (valid25 2 1 _ [⟨true, 2, -3, 5⟩] _ hrA (by omega) rfl (fun i hi => by have h0 : i = 0 := by simpa using hi
                                                                                subst h0; exact ⟨rfl, by decide⟩)).mono ?_
  rintro e w9 ⟨rfl, hB17⟩
  have hbB := Blk.below hbA hB17 (Blk.lt hbA)
  have hrB : RowP w9.heap.size w9 (.slice (some ⟨g, off, none⟩) 1 c2) [⟨true, 2, -3, 5⟩] := Row.mono hrA hB17 hB17.size
  have hB18 := Below.call hB16 hB17
  clear hbA hrA hB16 hB17 x0 x1
  have x0 : w9.cell? ⟨bt, 0, none⟩ = some (.int .i64 2) := Blk.cell hbB 0
  have x1 : w9.cell? ⟨bt, 1, none⟩ = some (.slice (some ⟨g, off, none⟩) 1 c2) := Blk.cell hbB 1
  go_wp2_with fail
  refine (same24 2 _ _ [⟨true, 2, -3, 5⟩] _ hrB hrB).mono ?_
  rintro e wA ⟨rfl, hB19⟩
  have hB20 := Below.call hB18 hB19
  go_wp2_with fail
  go_ret
  exact ⟨rfl, hB20⟩
end Go.Proofs.Ytlhncphnhgbclaa
