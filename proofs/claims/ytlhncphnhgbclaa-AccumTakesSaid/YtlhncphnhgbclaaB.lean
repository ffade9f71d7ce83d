/- Sums told as 16 digits to the base 256: the document's answer. -/
import Derived.Test.YtlhncphnhgbclaaA
import Derived.Deep.DeepCutAuto
namespace Go.Proofs.Ytlhncphnhgbclaa
open Go.RowKit
set_option linter.unusedVariables false
set_option linter.unusedSimpArgs false

/-- the i-th digit to the base 256 -/
def dig (u i : Nat) : Nat := u / 256 ^ i % 256
def digL (u : Nat) : List Int := (List.range 16).map fun i => ((dig u i : Nat) : Int)
theorem digL_len (u : Nat) : (digL u).length = 16 := by simp [digL]
theorem digL_at (u i : Nat) (h : i < 16) : (digL u).getD i 0 = (dig u i : Nat) := by simp [digL, h]
/-- a sum's bits, without sign -/
def uns (a : Int) : Nat := (a % 340282366920938463463374607431768211456).toNat
def loN (a : Int) : Nat := (loW a).toNat
def hiN (a : Int) : Nat := (hiU a).toNat
theorem loN_eq (a : Int) : loW a = (loN a : Nat) := by have := loW_bd a; unfold loN; omega
theorem hiN_eq (a : Int) : hiU a = (hiN a : Nat) := by have := hiU_bd a; unfold hiN; omega
theorem loN_lt (a : Int) : loN a < 18446744073709551616 := by have := loW_bd a; unfold loN; omega
theorem hiN_lt (a : Int) : hiN a < 18446744073709551616 := by have := hiU_bd a; unfold hiN; omega
theorem uns_eq (a : Int) : uns a = hiN a * 18446744073709551616 + loN a := by unfold uns hiN loN hiU hiW loW; omega
theorem dig_lo (a : Int) (i : Nat) (h : i < 8) : dig (uns a) i = loN a / 256 ^ i % 256 := by
  rw [uns_eq]; unfold dig
  have := loN_lt a
  match i, h with
  | 0, _ | 1, _ | 2, _ | 3, _ | 4, _ | 5, _ | 6, _ | 7, _ => omega
theorem dig_hi (a : Int) (i : Nat) (h : i < 8) : dig (uns a) (i + 8) = hiN a / 256 ^ i % 256 := by
  rw [uns_eq]; unfold dig
  have := loN_lt a
  match i, h with
  | 0, _ | 1, _ | 2, _ | 3, _ | 4, _ | 5, _ | 6, _ | 7, _ => omega
theorem pow_step (u k : Nat) : u / 256 ^ (k + 1) = u / 256 ^ k / 256 := by rw [Nat.pow_succ, Nat.div_div_eq_div_mul]

/-- the digits that were told -/
def digS (u k : Nat) : List Int := (List.range 16).map fun i => if i < k ∨ (8 ≤ i ∧ i < 8 + k) then ((dig u i : Nat) : Int) else 0
theorem digS_len (u k : Nat) : (digS u k).length = 16 := by simp [digS]
theorem digS_step (u k : Nat) (h : k < 8) : ((digS u k).set k (dig u k : Nat)).set (k + 8) (dig u (k + 8) : Nat) = digS u (k + 1) := by
  apply List.ext_getElem
  · simp [digS]
  · intro i h1 h2
    simp only [digS, List.getElem_set, List.getElem_map, List.getElem_range]
    by_cases e1 : k + 8 = i
    · rw [if_pos e1, if_pos (by omega), ← e1]
    · rw [if_neg e1]
      by_cases e2 : k = i
      · rw [if_pos e2, if_pos (by omega), e2]
      · rw [if_neg e2]
        by_cases e3 : i < k ∨ (8 ≤ i ∧ i < 8 + k)
        · rw [if_pos e3, if_pos (by omega)]
        · rw [if_neg e3, if_neg (by omega)]
theorem digS_zero (u : Nat) : digS u 0 = List.replicate 16 0 := by
  apply List.ext_getElem
  · simp [digS]
  · intro i h1 h2
    rw [List.getElem_replicate]; simp [digS]; omega
theorem digS_full (u : Nat) : digS u 8 = digL u := by
  apply List.ext_getElem
  · simp [digS, digL]
  · intro i h1 h2
    simp [digS] at h1
    simp only [digS, digL, List.getElem_map, List.getElem_range]
    rw [if_pos (by omega)]

theorem info60 : (Try.prog.info? 60).map (·.size) = some 16 := by kernel_rfl
theorem zv60 : ∀ w, (zeroValue 60).run Try.prog w = .ok (.agg (ints (List.replicate 16 0))) w := fun _ => by kernel_rfl

set_option maxRecDepth 100000 in
set_option maxHeartbeats 4000000 in
theorem digits35 (a : Int) (w : World) :
    Calls Try.prog 35 #[sumV a] w fun e w' => e = .returned (.agg (ints (digL (uns a)))) ∧ Below w.heap.size w w' := by
  have hzv := zv60
  have k3 : IntKind.u64.wrap (hiW a) = hiU a := by rw [IntKind.wrap_u64]; rfl
  have kl := loN_eq a
  have kh := hiN_eq a
  have ll := loN_lt a
  have hl := hiN_lt a
  have dl := Lib.hid (dig_lo a)
  have dh := Lib.hid (dig_hi a)
  rw [kh] at k3
  unfold sumV
  rw [kl]
  obtain ⟨u, hu⟩ : ∃ u, uns a = u := ⟨_, rfl⟩
  rw [hu] at dl dh ⊢
  generalize loN a = p at *
  generalize hiN a = q at *
  clear hu kl kh
  go_enter Try.func35, Try.ntmps35
  go_wp2_with fail
  go_loopw [4, 5, 6] (fun x y i wr => ∃ (k x0 y0 : Nat), k ≤ 8 ∧ i = .int .i64 k ∧ x = .int .u64 x0 ∧ y = .int .u64 y0 ∧ Hid (x0 = p / 256 ^ k) ∧ Hid (y0 = q / 256 ^ k) ∧ x0 < 18446744073709551616 ∧ y0 < 18446744073709551616 ∧
    Arr wr (w.heap.size + 1 + 1) 60 (digS u k) ∧ Arr wr (w.heap.size + 1) 60 (List.replicate 16 0) ∧ Below w.heap.size w wr) (fun _ _ i _ => 8 - (intOf i).toNat)
  case atStart =>
    refine ⟨0, p, q, by omega, rfl, rfl, rfl, by rw [Hid]; simp, by rw [Hid]; simp, ll, hl, ?_, ?_, ?_⟩
    · rw [digS_zero]; exact Blk.newAt _ _ _ (by simp)
    · exact (Blk.newAt _ _ _ (by simp)).alloc _
    · exact Below.al (Below.al (Below.al (Below.refl _ _) _) _) _
  case round =>
    obtain ⟨k, x0, y0, hk, rfl, rfl, rfl, hx, hy, lx, ly, hA, hZ, hB⟩ := hrel
    by_cases hlt : k < 8
    · have hkI : (k : Int) < 8 := by omega
      obtain ⟨z1, c1⟩ : ∃ z, wr.cell? ⟨w.heap.size + 1 + 1, k, none⟩ = some z := ⟨_, Arr.cell hA (j := k) (by rw [digS_len]; omega)⟩
      obtain ⟨z2, c2⟩ : ∃ z, wr.cell? ⟨w.heap.size + 1 + 1, k + 8, none⟩ = some z := ⟨_, Arr.cell hA (j := k + 8) (by rw [digS_len]; omega)⟩
      have f1 := Arr.free hA
      go_wp2_with fail
      have hA1 := Arr.set (Arr.set hA k ((x0 : Int) % 256)) (k + 8) ((y0 : Int) % 256)
      have e1 : ((x0 : Int) % 256) = (dig u k : Nat) := by rw [dl.out k hlt, ← hx.out]; omega
      have e2 : ((y0 : Int) % 256) = (dig u (k + 8) : Nat) := by rw [dh.out k hlt, ← hy.out]; omega
      rw [e1, e2, digS_step u k hlt, ← e1, ← e2] at hA1
      have hZ1 := Blk.other (Blk.other hZ (p := ⟨w.heap.size + 1 + 1, k, none⟩) (by simp) (.int .i64 ((x0 : Int) % 256))) (p := ⟨w.heap.size + 1 + 1, k + 8, none⟩) (by simp) (.int .i64 ((y0 : Int) % 256))
      go_roundw
      case rel => exact ⟨k + 1, x0 / 256, y0 / 256, by omega, by go_num, by go_num, by go_num, by rw [Hid, pow_step, ← hx.out], by rw [Hid, pow_step, ← hy.out], by omega, by omega, hA1, hZ1, (hB.setCell (p := ⟨w.heap.size + 1 + 1, k, none⟩) (by simp; omega) _).setCell (p := ⟨w.heap.size + 1 + 1, k + 8, none⟩) (by simp; omega) _⟩
      case measure => simp [intOf]; omega
    · obtain rfl : k = 8 := by omega
      rw [digS_full] at hA
      go_upto_region 11 with (fail)
      refine wp_region_lit ?_
      refine wpList_load_at rfl 60 _ rfl _ 0 rfl (ints (digL u)) _ (fun j _ => by rw [Nat.zero_add]; exact Blk.cell hA j) Try.underlying60 rfl (by rw [size_ints, digL_len]; exact info60) ?_
      refine wpList_store_row rfl 60 _ _ rfl (w.heap.size + 1) (ints (digL u)) rfl rfl 60 _ hZ (by rw [size_ints, digL_len]; exact info60) (by rw [size_ints, size_ints, digL_len]; simp) (ints_one _) ?_
      have hZ2 := Blk.setRow (cs' := ints (digL u)) hZ
      have hB2 := Below.setRow hB (Nat.le_succ _) (ints (digL u))
      go_wp2_with fail
      refine bodyPost_ret (results_cell_row rfl _ _ (w.heap.size + 1) 60 (ints (digL u)) (0, 0) _ rfl hZ2 Try.underlying60 rfl (by rw [size_ints, digL_len]; exact info60)) rfl ?_
      exact ⟨rfl, hB2⟩
end Go.Proofs.Ytlhncphnhgbclaa
