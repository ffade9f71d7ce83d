/- Sums: the document's Minus; told as an int64 (both). -/
import Derived.Test.YtlhncphnhgbclaaD
namespace Go.Proofs.Ytlhncphnhgbclaa
open Go.RowKit
set_option linter.unusedVariables false
set_option linter.unusedSimpArgs false

theorem dig_not (u i : Nat) (hu : u < 340282366920938463463374607431768211456) (h : i < 16) : dig (340282366920938463463374607431768211455 - u) i = 255 - dig u i := by
  unfold dig
  have hi : i = 0 ∨ i = 1 ∨ i = 2 ∨ i = 3 ∨ i = 4 ∨ i = 5 ∨ i = 6 ∨ i = 7 ∨ i = 8 ∨ i = 9 ∨ i = 10 ∨ i = 11 ∨ i = 12 ∨ i = 13 ∨ i = 14 ∨ i = 15 := by omega
  rcases hi with rfl | rfl | rfl | rfl | rfl | rfl | rfl | rfl | rfl | rfl | rfl | rfl | rfl | rfl | rfl | rfl <;> omega
theorem w128_not (a : Int) : w128 (w128 ((340282366920938463463374607431768211455 - uns a : Nat) : Int) + 1) = w128 (-a) := by unfold w128 uns; omega

set_option maxRecDepth 100000 in
set_option maxHeartbeats 4000000 in
theorem minus18 (a : Int) (w : World) :
    Calls Try.prog 18 #[sumV a] w fun e w' => e = .returned (sumV (w128 (-a))) ∧ Below w.heap.size w w' := by
  have hzv := zv60'
  have e35 := fun w => digits35 a w
  have hul := uns_lt a
  have hdn := Lib.hid (fun i (h : i < 16) => dig_not (uns a) i hul h)
  have hwn := w128_not a
  have e36 := fun w => sum36 (340282366920938463463374607431768211455 - uns a) w (by omega)
  obtain ⟨s, hs⟩ : ∃ s, w128 (-a) = s := ⟨_, rfl⟩
  obtain ⟨u, hu⟩ : ∃ u, uns a = u := ⟨_, rfl⟩
  rw [hu] at e35 hdn hwn e36
  rw [hs] at hwn ⊢
  obtain ⟨v, hv⟩ : ∃ v, 340282366920938463463374607431768211455 - u = v := ⟨_, rfl⟩
  rw [hv] at hdn hwn e36
  obtain ⟨s1, hs1⟩ : ∃ s1, w128 (v : Int) = s1 := ⟨_, rfl⟩
  rw [hs1] at hwn e36
  have e14 := fun w => plus14 s1 1 w
  rw [hwn] at e14
  unfold sumV at e35
  unfold sumV
  clear hwn hs hu hs1 hul hv
  go_enter Try.func18, Try.ntmps18
  go_wp2_with fail
  refine (e35 _).mono ?_
  rintro e w1 ⟨rfl, hB1⟩
  have hz0 : Blk w1 (w.heap.size + 1) 24 #[.int .i64 0, .int .u64 0] := Blk.below (Blk.newAt _ _ _ (by simp)) hB1 (by simp)
  have hBw : Below w.heap.size w w1 := Below.call (Below.al (Below.al (Below.refl _ _) _) _) hB1
  have hs1 := Blk.lt hz0
  clear hB1
  go_upto_region 2 with (refine wpList_store_row rfl 60 _ _ rfl w1.heap.size (ints (digL u)) rfl rfl 60 _ (Blk.newAt _ _ _ rfl) (by rw [size_ints, digL_len]; exact info60) (by rw [size_ints, size_ints, digL_len, z16_len]) (ints_one _) ?_)
  have ha5 : Arr ((w1.alloc (Obj.cells (ints z16) 60)).setRow w1.heap.size (ints (digL u))) w1.heap.size 60 (digL u) := Blk.setRow (Blk.newAt _ _ _ rfl)
  have hB2 : Below w1.heap.size w1 ((w1.alloc (Obj.cells (ints z16) 60)).setRow w1.heap.size (ints (digL u))) := Below.setRow (Below.al (Below.refl _ _) _) (Nat.le_refl _) _
  generalize ((w1.alloc (Obj.cells (ints z16) 60)).setRow w1.heap.size (ints (digL u))) = w2 at *
  have hz2 : Blk w2 (w.heap.size + 1) 24 #[.int .i64 0, .int .u64 0] := Blk.below hz0 hB2 hs1
  have hBw2 := Below.call hBw hB2
  obtain ⟨b5, hb5⟩ : ∃ b5, b5 = w1.heap.size := ⟨_, rfl⟩
  rw [← hb5] at ha5 ⊢ 
  have h5 : w.heap.size + 1 < b5 := by omega
  clear hB2 hBw hz0 hb5 hs1
  rw [← mixL_zero (dig v) u] at ha5
  go_wp2_with fail
  go_loopw [4] (fun i wr => ∃ (k : Nat), k ≤ 16 ∧ i = .int .i64 k ∧ Arr wr b5 60 (mixL (dig v) (dig u) k) ∧ Blk wr (w.heap.size + 1) 24 #[.int .i64 0, .int .u64 0] ∧ Below w.heap.size w wr) (fun i _ => 16 - (intOf i).toNat)
  case atStart => exact ⟨0, by omega, rfl, ha5, hz2, hBw2⟩
  case round =>
    obtain ⟨k, hk, rfl, hA, hZ, hB⟩ := hrel
    by_cases hlt : k < 16
    · have hkI : (k : Int) < 16 := by omega
      obtain ⟨d1, h1, c1⟩ : ∃ d : Int, Hid (((dig u k : Nat) : Int) = d) ∧ wr.cell? ⟨b5, k, none⟩ = some (.int .i64 d) := ⟨_, rfl, by rw [Arr.cell hA (j := k) (by rw [mixL_len]; omega), mixL_at _ _ k k (by omega) (Nat.le_refl _)]⟩
      have n1 : 0 ≤ d1 ∧ d1 < 256 := by have := h1.out; have := dig_lt u k; omega
      have he1 : ((dig v k : Nat) : Int) = 255 - d1 := by rw [hdn.out k hlt, ← h1.out]; have := dig_lt u k; omega
      have f1 := Arr.free hA
      have HE := Lib.hid he1
      clear he1
      go_wp2_with fail
      have hA1 := Arr.set hA k (255 - d1)
      rw [← HE.out, mixL_step _ _ k hlt, HE.out] at hA1
      have hZ1 := Blk.other hZ (p := ⟨b5, k, none⟩) (by show b5 ≠ w.heap.size + 1; omega) (.int .i64 (255 - d1))
      go_roundw
      case rel => exact ⟨k + 1, by omega, by go_num, hA1, hZ1, hB.setCell (p := ⟨b5, k, none⟩) (by show w.heap.size ≤ b5; omega) _⟩
      case measure => simp [intOf]; omega
    · obtain rfl : k = 16 := by omega
      rw [mixL_full] at hA
      go_wp2_with (refine wpList_load_at rfl 60 _ rfl _ 0 rfl (ints (digL v)) _ (fun j _ => by rw [Nat.zero_add]; exact Blk.cell hA j) Try.underlying60 rfl (by rw [size_ints, digL_len]; exact info60) ?_)
      refine (e36 _).mono ?_
      rintro e w5 ⟨rfl, hB5⟩
      have hZ1 := Blk.below hZ hB5 (Blk.lt hZ)
      have hB6 := Below.call hB hB5
      go_wp2_with fail
      refine (of33 1 _ (by omega)).mono ?_
      rintro e w6 ⟨rfl, hB7⟩
      have hZ2 := Blk.below hZ1 hB7 (Blk.lt hZ1)
      have hB8 := Below.call hB6 hB7
      go_wp2_with fail
      refine (e14 _).mono ?_
      rintro e w7 ⟨rfl, hB9⟩
      have hZ3 := Blk.below hZ2 hB9 (Blk.lt hZ2)
      have hB10 := Below.call hB8 hB9
      go_wp2_with (refine wpList_store_row rfl 24 _ _ rfl (w.heap.size + 1) #[.int .i64 (hiW s), .int .u64 (loW s)] rfl rfl 24 _ hZ3 info24 rfl (by simp [Value.oneCell']) ?_)
      refine bodyPost_ret (results_cell_row rfl _ _ (w.heap.size + 1) 24 #[.int .i64 (hiW s), .int .u64 (loW s)] (0, 0) _ rfl (Blk.setRow hZ3) Try.underlying24 rfl info24) rfl ?_
      exact ⟨rfl, Below.setRow hB10 (by omega) _⟩

/-- does a sum fit an int64? -/
def fitB (a : Int) : Bool := decide (-9223372036854775808 ≤ a) && decide (a ≤ 9223372036854775807)
def fitN (a : Int) : Int := if fitB a then a else 0

theorem value11 (a : Int) (w : World) (ha : In128 a) :
    Calls Try.prog 11 #[sumV a] w fun e w' => e = .returned (.tuple #[.int .i64 (fitN a), .bool (fitB a)]) ∧ Below w.heap.size w w' := by
  have e0 : wrap64 (loW a) = wrap64 a := by unfold wrap64 loW; omega
  have hw : -9223372036854775808 ≤ wrap64 a ∧ wrap64 a ≤ 9223372036854775807 := by unfold wrap64; omega
  obtain ⟨s, hs⟩ : ∃ s, wrap64 a = s := ⟨_, rfl⟩
  rw [hs] at e0 hw
  have ew : IntKind.i64.wrap (loW a) = s := by rw [IntWalk.i64_left]; exact e0
  have hfit : fitB a = decide (s = a) := by
    rw [← hs]; unfold fitB wrap64 at *
    by_cases h1 : -9223372036854775808 ≤ a <;> by_cases h2 : a ≤ 9223372036854775807 <;> simp [h1, h2] <;> omega
  have hn : fitN a = if s = a then s else 0 := by
    unfold fitN; rw [hfit]; by_cases h : s = a <;> simp [h]
  have HF := Lib.hid hfit
  have HN := Lib.hid hn
  clear hfit hn hs
  go_enter Try.func11, Try.ntmps11
  unfold sumV
  go_wp2_with fail
  have hb1 : Blk (w.alloc (Obj.cells #[Value.int IntKind.i64 (hiW a), Value.int IntKind.u64 (loW a)] 24)) w.heap.size 24 #[Value.int IntKind.i64 (hiW a), Value.int IntKind.u64 (loW a)] := Blk.newAt _ _ _ rfl
  have hB1 : Below w.heap.size w (w.alloc (Obj.cells #[Value.int IntKind.i64 (hiW a), Value.int IntKind.u64 (loW a)] 24)) := Below.al (Below.refl _ _) _
  generalize w.alloc (Obj.cells #[Value.int IntKind.i64 (hiW a), Value.int IntKind.u64 (loW a)] 24) = w1 at *
  by_cases hsa : s = a
  · have hf : fitB a = true := by rw [HF.out]; simpa using hsa
    have hv : fitN a = s := by rw [HN.out, if_pos hsa]
    have HFx := Lib.hid hf
    have HVx := Lib.hid hv
    have e3 : hiW s = hiW a := by rw [hsa]
    have e4 : loW s = loW a := by rw [hsa]
    clear HF HN hf hv hsa
    refine wp_region_below (by kernel_rfl) (by kernel_rfl) ?_
    refine qb_pure rfl _ (fun w' hB' => by go_simp; rfl) ?_
    simp only [Act.put, List.setIfInBounds_toArray, List.set_cons_zero, List.set_cons_succ]
    refine qb_call rfl 32 #[.int .i64 s] (.agg #[.int .i64 (hiW s), .int .u64 (loW s)]) (fun w' => by go_simp) (fun w' hB' => of32 s w' hw) ?_
    simp only [Act.put, List.setIfInBounds_toArray, List.set_cons_zero, List.set_cons_succ]
    refine qb_load_at rfl 24 (.tmp 1) rfl w.heap.size 0 rfl #[Value.int IntKind.i64 (hiW a), Value.int IntKind.u64 (loW a)] _ (Blk.lt hb1) (fun j _ => by rw [Nat.zero_add]; exact Blk.cell hb1 j) Try.underlying24 rfl info24 ?_
    simp only [Act.put, List.setIfInBounds_toArray, List.set_cons_zero, List.set_cons_succ]
    refine qb_pure rfl (.bool false) (fun w' hB' => by go_simp) ?_
    simp only [Act.put, List.setIfInBounds_toArray, List.set_cons_zero, List.set_cons_succ]
    refine qb_nil ?_
    intro w2 hB2
    have hB3 := Below.call hB1 hB2
    go_wp2_with fail
    go_ret2
    exact ⟨by rw [HFx.out, HVx.out]; rfl, hB3⟩
  · have hf : fitB a = false := by rw [HF.out]; simpa using hsa
    have hv : fitN a = 0 := by rw [HN.out, if_neg hsa]
    have HFx := Lib.hid hf
    have HVx := Lib.hid hv
    have e4 : loW s = loW a := by rw [← e0]; unfold wrap64 loW; omega
    have e3 : (hiW s == hiW a) = false := by
      have h1 := hi_lo s
      have h2 := hi_lo a
      simp only [beq_eq_false_iff_ne, ne_eq]
      intro h3
      apply hsa
      omega
    clear HF HN hf hv hsa
    refine wp_region_below (by kernel_rfl) (by kernel_rfl) ?_
    refine qb_pure rfl _ (fun w' hB' => by go_simp; rfl) ?_
    simp only [Act.put, List.setIfInBounds_toArray, List.set_cons_zero, List.set_cons_succ]
    refine qb_call rfl 32 #[.int .i64 s] (.agg #[.int .i64 (hiW s), .int .u64 (loW s)]) (fun w' => by go_simp) (fun w' hB' => of32 s w' hw) ?_
    simp only [Act.put, List.setIfInBounds_toArray, List.set_cons_zero, List.set_cons_succ]
    refine qb_load_at rfl 24 (.tmp 1) rfl w.heap.size 0 rfl #[Value.int IntKind.i64 (hiW a), Value.int IntKind.u64 (loW a)] _ (Blk.lt hb1) (fun j _ => by rw [Nat.zero_add]; exact Blk.cell hb1 j) Try.underlying24 rfl info24 ?_
    simp only [Act.put, List.setIfInBounds_toArray, List.set_cons_zero, List.set_cons_succ]
    refine qb_pure rfl (.bool true) (fun w' hB' => by go_simp) ?_
    simp only [Act.put, List.setIfInBounds_toArray, List.set_cons_zero, List.set_cons_succ]
    refine qb_nil ?_
    intro w2 hB2
    have hB3 := Below.call hB1 hB2
    go_wp2_with fail
    go_ret2
    exact ⟨by rw [HFx.out, HVx.out]; rfl, hB3⟩

theorem value12 (a : Int) (w : World) (ha : In128 a) :
    Calls Try.prog 12 #[sumV a] w fun e w' => e = .returned (.tuple #[.int .i64 (fitN a), .bool (fitB a)]) ∧ Below w.heap.size w w' := by
  have e0 : wrap64 (loW a) = wrap64 a := by unfold wrap64 loW; omega
  have hw : -9223372036854775808 ≤ wrap64 a ∧ wrap64 a ≤ 9223372036854775807 := by unfold wrap64; omega
  obtain ⟨s, hs⟩ : ∃ s, wrap64 a = s := ⟨_, rfl⟩
  rw [hs] at e0 hw
  have ew : IntKind.i64.wrap (loW a) = s := by rw [IntWalk.i64_left]; exact e0
  have hfit : fitB a = decide (s = a) := by
    rw [← hs]; unfold fitB wrap64 at *
    by_cases h1 : -9223372036854775808 ≤ a <;> by_cases h2 : a ≤ 9223372036854775807 <;> simp [h1, h2] <;> omega
  have hn : fitN a = if s = a then s else 0 := by
    unfold fitN; rw [hfit]; by_cases h : s = a <;> simp [h]
  have HF := Lib.hid hfit
  have HN := Lib.hid hn
  clear hfit hn hs
  go_enter Try.func12, Try.ntmps12
  unfold sumV
  go_wp2_with fail
  have hb1 : Blk (w.alloc (Obj.cells #[Value.int IntKind.i64 (hiW a), Value.int IntKind.u64 (loW a)] 24)) w.heap.size 24 #[Value.int IntKind.i64 (hiW a), Value.int IntKind.u64 (loW a)] := Blk.newAt _ _ _ rfl
  have hB1 : Below w.heap.size w (w.alloc (Obj.cells #[Value.int IntKind.i64 (hiW a), Value.int IntKind.u64 (loW a)] 24)) := Below.al (Below.refl _ _) _
  generalize w.alloc (Obj.cells #[Value.int IntKind.i64 (hiW a), Value.int IntKind.u64 (loW a)] 24) = w1 at *
  by_cases hsa : s = a
  · have hf : fitB a = true := by rw [HF.out]; simpa using hsa
    have hv : fitN a = s := by rw [HN.out, if_pos hsa]
    have HFx := Lib.hid hf
    have HVx := Lib.hid hv
    have e3 : hiW s = hiW a := by rw [hsa]
    have e4 : loW s = loW a := by rw [hsa]
    clear HF HN hf hv hsa
    refine wp_region_below (by kernel_rfl) (by kernel_rfl) ?_
    refine qb_pure rfl _ (fun w' hB' => by go_simp; rfl) ?_
    simp only [Act.put, List.setIfInBounds_toArray, List.set_cons_zero, List.set_cons_succ]
    refine qb_call rfl 33 #[.int .i64 s] (.agg #[.int .i64 (hiW s), .int .u64 (loW s)]) (fun w' => by go_simp) (fun w' hB' => of33 s w' hw) ?_
    simp only [Act.put, List.setIfInBounds_toArray, List.set_cons_zero, List.set_cons_succ]
    refine qb_load_at rfl 24 (.tmp 1) rfl w.heap.size 0 rfl #[Value.int IntKind.i64 (hiW a), Value.int IntKind.u64 (loW a)] _ (Blk.lt hb1) (fun j _ => by rw [Nat.zero_add]; exact Blk.cell hb1 j) Try.underlying24 rfl info24 ?_
    simp only [Act.put, List.setIfInBounds_toArray, List.set_cons_zero, List.set_cons_succ]
    refine qb_pure rfl (.bool false) (fun w' hB' => by go_simp) ?_
    simp only [Act.put, List.setIfInBounds_toArray, List.set_cons_zero, List.set_cons_succ]
    refine qb_nil ?_
    intro w2 hB2
    have hB3 := Below.call hB1 hB2
    go_wp2_with fail
    go_ret2
    exact ⟨by rw [HFx.out, HVx.out]; rfl, hB3⟩
  · have hf : fitB a = false := by rw [HF.out]; simpa using hsa
    have hv : fitN a = 0 := by rw [HN.out, if_neg hsa]
    have HFx := Lib.hid hf
    have HVx := Lib.hid hv
    have e4 : loW s = loW a := by rw [← e0]; unfold wrap64 loW; omega
    have e3 : (hiW s == hiW a) = false := by
      have h1 := hi_lo s
      have h2 := hi_lo a
      simp only [beq_eq_false_iff_ne, ne_eq]
      intro h3
      apply hsa
      omega
    clear HF HN hf hv hsa
    refine wp_region_below (by kernel_rfl) (by kernel_rfl) ?_
    refine qb_pure rfl _ (fun w' hB' => by go_simp; rfl) ?_
    simp only [Act.put, List.setIfInBounds_toArray, List.set_cons_zero, List.set_cons_succ]
    refine qb_call rfl 33 #[.int .i64 s] (.agg #[.int .i64 (hiW s), .int .u64 (loW s)]) (fun w' => by go_simp) (fun w' hB' => of33 s w' hw) ?_
    simp only [Act.put, List.setIfInBounds_toArray, List.set_cons_zero, List.set_cons_succ]
    refine qb_load_at rfl 24 (.tmp 1) rfl w.heap.size 0 rfl #[Value.int IntKind.i64 (hiW a), Value.int IntKind.u64 (loW a)] _ (Blk.lt hb1) (fun j _ => by rw [Nat.zero_add]; exact Blk.cell hb1 j) Try.underlying24 rfl info24 ?_
    simp only [Act.put, List.setIfInBounds_toArray, List.set_cons_zero, List.set_cons_succ]
    refine qb_pure rfl (.bool true) (fun w' hB' => by go_simp) ?_
    simp only [Act.put, List.setIfInBounds_toArray, List.set_cons_zero, List.set_cons_succ]
    refine qb_nil ?_
    intro w2 hB2
    have hB3 := Below.call hB1 hB2
    go_wp2_with fail
    go_ret2
    exact ⟨by rw [HFx.out, HVx.out]; rfl, hB3⟩
end Go.Proofs.Ytlhncphnhgbclaa
