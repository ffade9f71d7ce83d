/- Sums of 128 bits: one number, told as two words; Plus, Add, Minus, Value. -/
import Derived.Test.YtlhncphnhgbclaaBase8
import Derived.Shelf.Spec.BitsCarry
import Derived.PlainAid
import Derived.Test.YtlhncphnhgbclaaProg
namespace Go.Proofs.Ytlhncphnhgbclaa
open Go.RowKit
set_option linter.unusedVariables false
set_option linter.unusedSimpArgs false

theorem add64 (x y c : Int) (hx : 0 ≤ x) (hy : 0 ≤ y) (hc0 : 0 ≤ c) (hc : c ≤ 1) (w : World) : (callFunc 34 #[.int .u64 x, .int .u64 y, .int .u64 c]).run Try.prog w =
    .ok (.value (.tuple #[.int .u64 ((x + y + c) % 18446744073709551616), .int .u64 ((x + y + c) / 18446744073709551616)])) w := by
  rw [run_callFunc_extern Try.func34 (by kernel_rfl) (by kernel_rfl) (by kernel_rfl) (e := add64Entry) (by kernel_rfl), run_add64 x y c hx hy hc0 hc]
  rfl
theorem sub64 (x y b : Int) (hx : 0 ≤ x) (hy : 0 ≤ y) (hy' : y < 18446744073709551616) (hb0 : 0 ≤ b) (hb : b ≤ 1) (w : World) : (callFunc 37 #[.int .u64 x, .int .u64 y, .int .u64 b]).run Try.prog w =
    .ok (.value (.tuple #[.int .u64 ((x - y - b) % 18446744073709551616), .int .u64 (if x < y + b then 1 else 0)])) w := by
  obtain ⟨x, rfl⟩ := Int.eq_ofNat_of_zero_le hx
  obtain ⟨y, rfl⟩ := Int.eq_ofNat_of_zero_le hy
  obtain ⟨b, rfl⟩ := Int.eq_ofNat_of_zero_le hb0
  have e1 : (((x + 18446744073709551616 - y - b) % 18446744073709551616 : Nat) : Int) = ((x : Int) - y - b) % 18446744073709551616 := by omega
  have e2 : ((if x < y + b then 1 else 0 : Nat) : Int) = if (x : Int) < y + b then 1 else 0 := by split <;> split <;> omega
  rw [← e1, ← e2]
  rw [run_callFunc_extern Try.func37 (by kernel_rfl) (by kernel_rfl) (by kernel_rfl) (e := sub64Entry) (by kernel_rfl)]
  rw [run_sub64 x y b (by omega) w]
  rfl
theorem add64_0 (x y : Int) (hx : 0 ≤ x) (hy : 0 ≤ y) (w : World) : (callFunc 34 #[.int .u64 x, .int .u64 y, .int .u64 0]).run Try.prog w =
    .ok (.value (.tuple #[.int .u64 ((x + y) % 18446744073709551616), .int .u64 ((x + y) / 18446744073709551616)])) w := by
  simpa using add64 x y 0 hx hy (Int.le_refl 0) (by decide) w
theorem sub64_0 (x y : Int) (hx : 0 ≤ x) (hy : 0 ≤ y) (hy' : y < 18446744073709551616) (w : World) : (callFunc 37 #[.int .u64 x, .int .u64 y, .int .u64 0]).run Try.prog w =
    .ok (.value (.tuple #[.int .u64 ((x - y) % 18446744073709551616), .int .u64 (if x < y then 1 else 0)])) w := by
  simpa using sub64 x y 0 hx hy hy' (Int.le_refl 0) (by decide) w

/-- a number's upper and lower word -/
def hiW (a : Int) : Int := a / 18446744073709551616
def loW (a : Int) : Int := a % 18446744073709551616
/-- a sum's two cells -/
def sumC (a : Int) : List Value := [.int .i64 (hiW a), .int .u64 (loW a)]
def sumV (a : Int) : Value := .agg #[.int .i64 (hiW a), .int .u64 (loW a)]
/-- a number of 128 bits, with its sign -/
def w128 (x : Int) : Int := (x + 170141183460469231731687303715884105728) % 340282366920938463463374607431768211456 - 170141183460469231731687303715884105728
def In128 (a : Int) : Prop := -170141183460469231731687303715884105728 ≤ a ∧ a < 170141183460469231731687303715884105728
theorem w128_in (x : Int) : In128 (w128 x) := by unfold In128 w128; omega
theorem w128_id {x : Int} (h : In128 x) : w128 x = x := by unfold In128 at h; unfold w128; omega
theorem loW_bd (a : Int) : 0 ≤ loW a ∧ loW a < 18446744073709551616 := by unfold loW; omega
theorem hiW_bd {a : Int} (h : In128 a) : -9223372036854775808 ≤ hiW a ∧ hiW a ≤ 9223372036854775807 := by unfold In128 at h; unfold hiW; omega
theorem hi_lo (a : Int) : hiW a * 18446744073709551616 + loW a = a := by unfold hiW loW; omega
def bor (x y : Int) : Int := if x < y then 1 else 0
/-- the upper word without its sign -/
def hiU (a : Int) : Int := hiW a % 18446744073709551616
theorem hiU_bd (a : Int) : 0 ≤ hiU a ∧ hiU a < 18446744073709551616 := by unfold hiU; omega


theorem info24 : (Try.prog.info? 24).map (·.size) = some 2 := by kernel_rfl
theorem sumV_eq {a x y : Int} (h1 : hiW a = x) (h2 : loW a = y) : Ending.returned (.agg #[.int .i64 x, .int .u64 y]) = .returned (sumV a) := by rw [← h1, ← h2]; rfl
theorem In64.in128 {n : Int} (h : -9223372036854775808 ≤ n ∧ n ≤ 9223372036854775807) : In128 n := by unfold In128; omega

theorem of32 (n : Int) (w : World) (h : -9223372036854775808 ≤ n ∧ n ≤ 9223372036854775807) :
    Calls Try.prog 32 #[.int .i64 n] w fun e w' => e = .returned (sumV n) ∧ Below w.heap.size w w' := by
  go_enter Try.func32, Try.ntmps32
  go_wp2_with fail
  refine bodyPost_ret (results_cell_row rfl _ _ w.heap.size 24 _ (0, 0) _ rfl (Blk.newAt _ _ _ rfl) Try.underlying24 rfl info24) rfl ?_
  exact ⟨sumV_eq (by unfold hiW; omega) (by rw [IntKind.wrap_u64]; rfl), Below.al (Below.refl _ _) _⟩

theorem plus_hi (a b : Int) : hiW (w128 (a + b)) = wrap64 ((hiU a + hiU b + (loW a + loW b) / 18446744073709551616) % 18446744073709551616) := by
  have h1 := hi_lo a
  have h2 := hi_lo b
  unfold hiU
  have k1 := loW_bd a
  have k2 := loW_bd b
  unfold w128 wrap64
  rw [hiW]
  generalize hiW a = x at *
  generalize hiW b = y at *
  generalize loW a = p at *
  generalize loW b = q at *
  subst h1 h2
  omega
theorem plus_lo (a b : Int) : loW (w128 (a + b)) = (loW a + loW b) % 18446744073709551616 := by unfold loW w128; omega

theorem plus13 (a b : Int) (w : World) :
    Calls Try.prog 13 #[sumV a, sumV b] w fun e w' => e = .returned (sumV (w128 (a + b))) ∧ Below w.heap.size w w' := by
  have k1 := loW_bd a
  have k2 := loW_bd b
  have k0 : 0 ≤ (loW a + loW b) / 18446744073709551616 := by omega
  have k0' : (loW a + loW b) / 18446744073709551616 ≤ 1 := by omega
  have k3 : IntKind.u64.wrap (hiW a) = hiU a := by rw [IntKind.wrap_u64]; rfl
  have k4 : IntKind.u64.wrap (hiW b) = hiU b := by rw [IntKind.wrap_u64]; rfl
  have e1 := plus_hi a b
  have e2 := plus_lo a b
  obtain ⟨s, hs⟩ : ∃ s, sumV (w128 (a + b)) = s := ⟨_, rfl⟩
  rw [hs]
  have HS := Lib.hid hs
  clear hs
  unfold sumV
  have E1 := Lib.hid e1
  have E2 := Lib.hid e2
  clear e1 e2
  go_enter Try.func13, Try.ntmps13
  go_wp2_with (first | simp only [add64_0 (loW a) (loW b) k1.1 k2.1] | simp only [add64 (hiU a) (hiU b) _ (hiU_bd a).1 (hiU_bd b).1 k0 k0'])
  refine bodyPost_ret (results_cell_row rfl _ _ (w.heap.size + 1 + 1) 24 _ (0, 0) _ rfl (Blk.newAt _ _ _ (by simp)) Try.underlying24 rfl info24) rfl ?_
  rw [← HS.out]
  exact ⟨sumV_eq E1.out E2.out, Below.al (Below.al (Below.al (Below.refl _ _) _) _) _⟩

theorem minus_hi (a : Int) : hiW (w128 (-a)) = wrap64 ((0 - hiU a - (if 0 < loW a then 1 else 0)) % 18446744073709551616) := by
  have h1 := hi_lo a
  have k1 := loW_bd a
  unfold hiU
  unfold w128 wrap64
  rw [hiW]
  generalize hiW a = x at *
  generalize loW a = p at *
  subst h1
  split <;> omega
theorem minus_lo (a : Int) : loW (w128 (-a)) = (0 - loW a) % 18446744073709551616 := by unfold loW w128; omega

theorem minus17 (a : Int) (w : World) :
    Calls Try.prog 17 #[sumV a] w fun e w' => e = .returned (sumV (w128 (-a))) ∧ Below w.heap.size w w' := by
  have k1 := loW_bd a
  have k0 : (0 : Int) ≤ (if 0 < loW a then 1 else 0) := by split <;> decide
  have k0' : (if 0 < loW a then 1 else 0 : Int) ≤ 1 := by split <;> decide
  have k3 : IntKind.u64.wrap (hiW a) = hiU a := by rw [IntKind.wrap_u64]; rfl
  have e1 := minus_hi a
  have e2 := minus_lo a
  obtain ⟨s, hs⟩ : ∃ s, sumV (w128 (-a)) = s := ⟨_, rfl⟩
  rw [hs]
  have HS := Lib.hid hs
  clear hs
  unfold sumV
  obtain ⟨c, hc⟩ : ∃ c : Int, (if 0 < loW a then 1 else 0 : Int) = c := ⟨_, rfl⟩
  rw [hc] at k0 k0' e1
  have s0 : ∀ w, (callFunc 37 #[.int .u64 0, .int .u64 (loW a), .int .u64 0]).run Try.prog w = .ok (.value (.tuple #[.int .u64 ((0 - loW a) % 18446744073709551616), .int .u64 c])) w := by
    intro w; rw [← hc]; exact sub64_0 0 (loW a) (Int.le_refl 0) k1.1 k1.2 w
  have E1 := Lib.hid e1
  have E2 := Lib.hid e2
  clear e1 e2 hc
  have s1 : ∀ w, (callFunc 37 #[.int .u64 0, .int .u64 (hiU a), .int .u64 c]).run Try.prog w = .ok (.value (.tuple #[.int .u64 ((0 - hiU a - c) % 18446744073709551616), .int .u64 (bor 0 (hiU a + c))])) w := by
    intro w; rw [sub64 0 (hiU a) c (Int.le_refl 0) (hiU_bd a).1 (hiU_bd a).2 k0 k0' w]; rfl
  go_enter Try.func17, Try.ntmps17
  go_wp2_with (first | simp only [s0] | simp only [s1])
  refine bodyPost_ret (results_cell_row rfl _ _ (w.heap.size + 1) 24 _ (0, 0) _ rfl (Blk.newAt _ _ _ (by simp)) Try.underlying24 rfl info24) rfl ?_
  rw [← HS.out]
  refine ⟨sumV_eq ?_ ?_, Below.al (Below.al (Below.refl _ _) _) _⟩
  · rw [E1.out]; simp
  · rw [E2.out]; simp

theorem add15 (a n : Int) (w : World) (h : -9223372036854775808 ≤ n ∧ n ≤ 9223372036854775807) :
    Calls Try.prog 15 #[sumV a, .int .i64 n] w fun e w' => e = .returned (sumV (w128 (a + n))) ∧ Below w.heap.size w w' := by
  go_enter Try.func15, Try.ntmps15
  unfold sumV
  go_wp2_with fail
  obtain ⟨w1, hw1⟩ : ∃ w1, w1 = (w.alloc (Obj.cells #[Value.int IntKind.i64 (hiW a), Value.int IntKind.u64 (loW a)] 24)).alloc (Obj.cells #[Value.int IntKind.i64 0, Value.int IntKind.u64 0] 24) := ⟨_, rfl⟩
  have hb1 : Blk w1 w.heap.size 24 #[Value.int IntKind.i64 (hiW a), Value.int IntKind.u64 (loW a)] := by rw [hw1]; exact (Blk.newAt _ _ _ rfl).alloc _
  have hb2 : Blk w1 (w.heap.size + 1) 24 #[Value.int IntKind.i64 0, Value.int IntKind.u64 0] := by rw [hw1]; exact Blk.newAt _ _ _ (by simp)
  have hB : Below w.heap.size w w1 := by rw [hw1]; exact Below.al (Below.al (Below.refl _ _) _) _
  rw [← hw1]
  clear hw1
  have hs1 := Blk.lt hb2
  refine hp_start (fun w' => Below (w.heap.size + 1) w1 w') 5 rfl (by kernel_rfl) (fun c a a' w hd h => ⟨hd ▸ h.1, h.2⟩) (fun hP => ?_)
  rw [show Array.replicate 5 false = #[false, false, false, false, false] from rfl]
  have HS0 : Below (w.heap.size + 1) w1 w1.drew := (Below.refl _ _).drew
  refine hp_load_at hP 0 (some 5) rfl rfl (by kernel_rfl) rfl 24 _ rfl w.heap.size 0 rfl #[Value.int IntKind.i64 (hiW a), Value.int IntKind.u64 (loW a)] _ (fun w' hS' j hj => (hS'.cell (by exact Nat.lt_succ_self _)).trans (by rw [Nat.zero_add]; exact Blk.cell hb1 j)) Try.underlying24 rfl info24 HS0 ?_
  simp only [Act.put, List.setIfInBounds_toArray, List.set_cons_zero, List.set_cons_succ]
  refine hp_take hP 1 (some 6) _ rfl rfl (by kernel_rfl) rfl (fun w' hS' => by go_simp; rfl) HS0 ?_
  simp only [Act.put, List.setIfInBounds_toArray, List.set_cons_zero, List.set_cons_succ]
  refine hp_call 2 (some 7) rfl rfl (by kernel_rfl) rfl 32 #[.int .i64 n] (by go_simp) ((of32 n _ h).mono ?_)
  rintro e w2 ⟨rfl, hB2⟩
  have HS1 : Below (w.heap.size + 1) w1 w2 := HS0.trans (hB2.mono (by exact Nat.le_of_lt hs1))
  refine ⟨_, rfl, HS1, ?_⟩
  simp only [Act.put, List.setIfInBounds_toArray, List.set_cons_zero, List.set_cons_succ]
  refine hp_call 3 (some 8) rfl rfl (by kernel_rfl) rfl 13 #[sumV a, sumV n] (by go_simp; rfl) ((plus13 a n _).mono ?_)
  rintro e w3 ⟨rfl, hB3⟩
  have HS2 : Below (w.heap.size + 1) w1 w3 := HS1.trans (hB3.mono (by have := hB2.size; have e : w1.drew.heap.size = w1.heap.size := rfl; omega))
  refine ⟨_, rfl, HS2, ?_⟩
  simp only [Act.put, List.setIfInBounds_toArray, List.set_cons_zero, List.set_cons_succ]
  have hb3 : Blk w3 (w.heap.size + 1) 24 #[Value.int IntKind.i64 0, Value.int IntKind.u64 0] := Blk.below (Blk.below (Blk.drew hb2) hB2 (by exact hs1)) hB3 (by have := hB2.size; have e : w1.drew.heap.size = w1.heap.size := rfl; omega)
  have hBw : Below w.heap.size w w3 := hB.trans (HS2.mono (Nat.le_succ _))
  refine hp_store_row 4 rfl rfl (by kernel_rfl) rfl 24 _ _ rfl (w.heap.size + 1) #[Value.int IntKind.i64 (hiW (w128 (a + n))), Value.int IntKind.u64 (loW (w128 (a + n)))] rfl rfl 24 _ hb3 info24 rfl (by simp [Value.oneCell']) (Below.setRow HS2 (Nat.le_refl _) _) ?_
  simp only [List.setIfInBounds_toArray, List.set_cons_zero, List.set_cons_succ]
  refine hk_done (by kernel_rfl) ?_
  go_wp2_with fail
  refine bodyPost_ret (results_cell_row rfl _ _ (w.heap.size + 1) 24 _ (0, 0) _ rfl (Blk.setRow hb3) Try.underlying24 rfl info24) rfl ?_
  exact ⟨rfl, Below.setRow hBw (Nat.le_succ _) _⟩
end Go.Proofs.Ytlhncphnhgbclaa
