/- The document's sums: out of digits, of a number, added, negated. -/
import Derived.Test.YtlhncphnhgbclaaB
namespace Go.Proofs.Ytlhncphnhgbclaa
open Go.RowKit
set_option linter.unusedVariables false
set_option linter.unusedSimpArgs false

theorem sum_lo (u m : Nat) (h : m < 8) : u % 18446744073709551616 / 256 ^ (m + 1) * 256 + dig u m = u % 18446744073709551616 / 256 ^ m := by
  unfold dig
  match m, h with
  | 0, _ | 1, _ | 2, _ | 3, _ | 4, _ | 5, _ | 6, _ | 7, _ => omega
theorem sum_hi (u m : Nat) (h : m < 8) : u / 18446744073709551616 / 256 ^ (m + 1) * 256 + dig u (m + 8) = u / 18446744073709551616 / 256 ^ m := by
  unfold dig
  match m, h with
  | 0, _ | 1, _ | 2, _ | 3, _ | 4, _ | 5, _ | 6, _ | 7, _ => omega
theorem sum_st1 (u : Nat) : 0 = u % 18446744073709551616 / 256 ^ 8 := by
  have : (256 : Nat) ^ 8 = 18446744073709551616 := by decide
  rw [this]; omega
theorem sum_st2 (u : Nat) (hu : u < 340282366920938463463374607431768211456) : 0 = u / 18446744073709551616 / 256 ^ 8 := by
  have : (256 : Nat) ^ 8 = 18446744073709551616 := by decide
  rw [this]; omega
theorem sum_en1 (u : Nat) : hiW (w128 u) = wrap64 ((u / 18446744073709551616 / 256 ^ 0 : Nat) : Int) := by
  rw [Nat.pow_zero, Nat.div_one]; unfold hiW w128 wrap64; omega
theorem sum_en2 (u : Nat) : loW (w128 u) = ((u % 18446744073709551616 / 256 ^ 0 : Nat) : Int) := by
  rw [Nat.pow_zero, Nat.div_one]; unfold loW w128; omega
theorem sum_l1 (u m : Nat) : u % 18446744073709551616 / 256 ^ m < 18446744073709551616 := Nat.lt_of_le_of_lt (Nat.div_le_self _ _) (Nat.mod_lt _ (by decide))
theorem sum_l2 (u m : Nat) (hu : u < 340282366920938463463374607431768211456) : u / 18446744073709551616 / 256 ^ m < 18446744073709551616 := Nat.lt_of_le_of_lt (Nat.div_le_self _ _) (by omega)
theorem dig_lt (u i : Nat) : dig u i < 256 := Nat.mod_lt _ (by omega)

set_option maxRecDepth 100000 in
set_option maxHeartbeats 4000000 in
theorem sum36 (u : Nat) (w : World) (hu : u < 340282366920938463463374607431768211456) :
    Calls Try.prog 36 #[.agg (ints (digL u))] w fun e w' => e = .returned (sumV (w128 u)) ∧ Below w.heap.size w w' := by
  go_enter Try.func36, Try.ntmps36
  go_wp2_with fail
  go_loopw [3, 4, 5] (fun x y i wr => ∃ (k x0 y0 : Nat), k ≤ 8 ∧ i = .int .i64 ((k : Int) - 1) ∧ x = .int .u64 x0 ∧ y = .int .u64 y0 ∧ Hid (x0 = u % 18446744073709551616 / 256 ^ k) ∧ Hid (y0 = u / 18446744073709551616 / 256 ^ k) ∧
    Arr wr w.heap.size 60 (digL u) ∧ Blk wr (w.heap.size + 1) 24 #[.int .i64 0, .int .u64 0] ∧ Below w.heap.size w wr) (fun _ _ i _ => ((intOf i) + 1).toNat)
  case atStart =>
    refine ⟨8, 0, 0, by omega, by simp, rfl, rfl, sum_st1 u, sum_st2 u hu, ?_, ?_, ?_⟩
    · exact (Blk.newAt _ _ _ (by simp)).alloc _
    · exact Blk.newAt _ _ _ (by simp)
    · exact Below.al (Below.al (Below.refl _ _) _) _
  case round =>
    obtain ⟨k, x0, y0, hk, rfl, rfl, rfl, hx, hy, hA, hZ, hB⟩ := hrel
    cases k with
    | succ m =>
      have e0 : ((m + 1 : Nat) : Int) - 1 = m := by omega
      rw [e0]
      have hge : decide ((0 : Int) ≤ m) = true := by simp
      obtain ⟨d1, h1, c1⟩ : ∃ d : Nat, Hid (dig u m = d) ∧ wr.cell? ⟨w.heap.size, m, none⟩ = some (.int .i64 d) := ⟨_, rfl, by rw [Arr.cell hA (j := m) (by rw [digL_len]; omega), digL_at u m (by omega)]⟩
      obtain ⟨d2, h2, c2⟩ : ∃ d : Nat, Hid (dig u (m + 8) = d) ∧ wr.cell? ⟨w.heap.size, m + 8, none⟩ = some (.int .i64 d) := ⟨_, rfl, by rw [Arr.cell hA (j := m + 8) (by rw [digL_len]; omega), digL_at u (m + 8) (by omega)]⟩
      have b1 : d1 < 256 := by rw [← h1.out]; exact dig_lt _ _
      have b2 : d2 < 256 := by rw [← h2.out]; exact dig_lt _ _
      have kw1 : IntKind.u64.wrap (d1 : Int) = d1 := by rw [IntKind.wrap_u64]; omega
      have kw2 : IntKind.u64.wrap (d2 : Int) = d2 := by rw [IntKind.wrap_u64]; omega
      have s1 : x0 * 256 + d1 = u % 18446744073709551616 / 256 ^ m := by rw [hx.out, ← h1.out]; exact sum_lo u m (by omega)
      have s2 : y0 * 256 + d2 = u / 18446744073709551616 / 256 ^ m := by rw [hy.out, ← h2.out]; exact sum_hi u m (by omega)
      have l1 : x0 * 256 + d1 < 18446744073709551616 := by rw [s1]; exact sum_l1 u m
      have l2 : y0 * 256 + d2 < 18446744073709551616 := by rw [s2]; exact sum_l2 u m hu
      have S1 := Lib.hid s1
      have S2 := Lib.hid s2
      have X := hx
      clear s1 s2
      go_wp2_with fail
      go_roundw
      case rel => exact ⟨m, x0 * 256 + d1, y0 * 256 + d2, by omega, rfl, by go_num, by go_num, S1.out, S2.out, hA, hZ, hB⟩
      case measure => simp [intOf]
    | zero =>
      have e1 : hiW (w128 u) = wrap64 y0 := by rw [hy.out]; exact sum_en1 u
      have e2 : loW (w128 u) = x0 := by rw [hx.out]; exact sum_en2 u
      rw [show ((0 : Nat) : Int) - 1 = -1 from rfl]
      obtain ⟨y1, hy1⟩ : ∃ y1 : Int, (y0 : Int) = y1 := ⟨_, rfl⟩
      obtain ⟨x1, hx1⟩ : ∃ x1 : Int, (x0 : Int) = x1 := ⟨_, rfl⟩
      rw [hy1] at e1
      rw [hx1] at e2
      rw [hy1, hx1]
      have E1 := Lib.hid e1
      have E2 := Lib.hid e2
      clear e1 e2 hy1 hx1 hx hy
      go_wp2_with (refine wpList_store_row rfl 24 _ _ rfl (w.heap.size + 1) #[.int .i64 (wrap64 y1), .int .u64 x1] rfl rfl 24 _ hZ info24 rfl (by simp [Value.oneCell']) ?_)
      refine bodyPost_ret (results_cell_row rfl _ _ (w.heap.size + 1) 24 #[.int .i64 (wrap64 y1), .int .u64 x1] (0, 0) _ rfl (Blk.setRow hZ) Try.underlying24 rfl info24) rfl ?_
      exact ⟨sumV_eq E1.out E2.out, Below.setRow hB (Nat.le_succ _) _⟩

/-- the digits of two, the first so many of their sum -/
def mixL (f g : Nat → Nat) (k : Nat) : List Int := (List.range 16).map fun i => if i < k then ((f i : Nat) : Int) else ((g i : Nat) : Int)
theorem mixL_len (f g : Nat → Nat) (k : Nat) : (mixL f g k).length = 16 := by simp [mixL]
theorem mixL_at (f g : Nat → Nat) (k i : Nat) (h : i < 16) (hk : k ≤ i) : (mixL f g k).getD i 0 = (g i : Nat) := by
  simp [mixL, List.getD_eq_getElem?_getD, h]; omega
theorem mixL_step (f g : Nat → Nat) (k : Nat) (h : k < 16) : (mixL f g k).set k (f k : Nat) = mixL f g (k + 1) := by
  apply List.ext_getElem
  · simp [mixL]
  · intro i h1 h2
    simp only [mixL, List.getElem_set, List.getElem_map, List.getElem_range]
    by_cases e : k = i
    · subst e; rw [if_pos rfl, if_pos (by omega)]
    · rw [if_neg e]
      by_cases h3 : i < k
      · rw [if_pos h3, if_pos (by omega)]
      · rw [if_neg h3, if_neg (by omega)]
theorem mixL_zero (f : Nat → Nat) (u : Nat) : mixL f (dig u) 0 = digL u := by simp [mixL, digL]
theorem mixL_full (g : Nat → Nat) (u : Nat) : mixL (dig u) g 16 = digL u := by
  apply List.ext_getElem
  · simp [mixL, digL]
  · intro i h1 h2
    simp [mixL] at h1
    simp only [mixL, digL, List.getElem_map, List.getElem_range]
    rw [if_pos h1]

/-- what is carried to the k-th digit -/
def carN (u v k : Nat) : Nat := (u % 256 ^ k + v % 256 ^ k) / 256 ^ k
theorem car_le (u v k : Nat) : carN u v k ≤ 1 := by
  unfold carN
  have h1 := Nat.mod_lt u (show 0 < 256 ^ k from Nat.pow_pos (by omega))
  have h2 := Nat.mod_lt v (show 0 < 256 ^ k from Nat.pow_pos (by omega))
  have : u % 256 ^ k + v % 256 ^ k < 2 * 256 ^ k := by omega
  have := (Nat.div_lt_iff_lt_mul (show 0 < 256 ^ k from Nat.pow_pos (by omega))).2 this
  omega
theorem car_div (u v k : Nat) : (u + v) / 256 ^ k = u / 256 ^ k + v / 256 ^ k + carN u v k := by
  unfold carN
  have h := show 0 < 256 ^ k from Nat.pow_pos (by omega)
  rw [Nat.add_div h]
  congr 1
  have h1 := Nat.mod_lt u h
  have h2 := Nat.mod_lt v h
  split
  · rename_i h3
    have : (u % 256 ^ k + v % 256 ^ k) / 256 ^ k = 1 := by
      apply Nat.div_eq_of_lt_le <;> omega
    exact this.symm
  · rename_i h3
    exact (Nat.div_eq_of_lt (by omega)).symm
theorem car_dig (u v k : Nat) : (dig u k + dig v k + carN u v k) % 256 = dig (u + v) k := by
  unfold dig
  rw [car_div]
  omega
theorem car_step (u v k : Nat) : (dig u k + dig v k + carN u v k) / 256 = carN u v (k + 1) := by
  have h1 := car_div u v k
  have h2 := car_div u v (k + 1)
  rw [pow_step, pow_step, pow_step] at h2
  unfold dig
  omega
end Go.Proofs.Ytlhncphnhgbclaa
